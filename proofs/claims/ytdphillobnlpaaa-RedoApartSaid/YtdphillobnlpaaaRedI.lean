/- What the document fixes (awake). -/
import Derived.Test.YtdphillobnlpaaaRedH
namespace Go.Proofs.Ytdphillobnlpaaa
open Go.RowKit
set_option linter.unusedVariables false

def DevA (w : World) (A : Nat → Prop) (G : Dv) (n : Nat) (s : DS) : Prop := Dev w A G n s ∧ ∀ b, A b → b < w.heap.size
/-- No fuse burns; k steps went well. -/
def Free (s : DS) (k : Nat) : Prop := s.dead = false ∧ s.fuse = -1 ∧ s.steps = (k : Int)
theorem Free.burn {s : DS} {k : Nat} (h : Free s k) : Free s.burn (k + 1) := by
  obtain ⟨h1, h2, h3⟩ := h
  refine ⟨h1, ?_, ?_⟩
  · show max (s.fuse - 1) (-1) = -1
    rw [h2]; decide
  · show s.steps + 1 = ((k + 1 : Nat) : Int)
    rw [h3]; rfl
theorem Free.store {s : DS} {k : Nat} (h : Free s k) (i : Nat) (v : Int) : Free (s.store i v) (k + 1) := h.burn
theorem Free.flush {s : DS} {k : Nat} (h : Free s k) (p : Nat) : Free (s.flush p) (k + 1) := h.burn
theorem Free.fence {s : DS} {k : Nat} (h : Free s k) : Free s.fence (k + 1) := h.burn
theorem Free.power {s : DS} {k : Nat} (h : Free s k) (p : Nat → Bool) : Free (s.power p) k := ⟨rfl, rfl, h.2.2⟩
theorem Free.noughts : Free noughts 0 := ⟨rfl, rfl, rfl⟩
section
variable {w w' : World} {A : Nat → Prop} {G : Dv} {n : Nat} {s s' : DS} {S : Nat → Prop}
theorem DevA.to (h : DevA w A G n s) (hd : Dev w' A G n s') (hm : Mv S w w') : DevA w' A G n s' := ⟨hd, fun b hb => Nat.lt_of_lt_of_le (h.2 b hb) hm.size⟩
theorem DevA.keep (h : DevA w A G n s) (hm : Mv S w w') (hs : ∀ b, S b → b < w.heap.size → A b) (hS : ∀ b, G.own b → ¬ S b) : DevA w' A G n s := h.to (h.1.keep hm (fun b h1 h2 => hs b h2 h1) hS) hm
/-- .. with more blocks that turn, all of them new. -/
theorem DevA.more {A' : Nat → Prop} (h : Dev w A G n s) (hm : Mv (fun _ => False) w w') (hA : ∀ b, b < w.heap.size → A' b → A b) (hA2 : ∀ b, A' b → b < w'.heap.size) (hG : ∀ b, G.own b → A' b) : DevA w' A' G n s :=
  ⟨h.mv hm (fun _ _ e => e.elim) hA ⟨hG _ (.inl rfl), hG _ (.inr (.inl rfl)), hG _ (.inr (.inr (.inl rfl))), hG _ (.inr (.inr (.inr rfl)))⟩ (fun _ _ e => e), hA2⟩
end
section
variable (w : World) (A : Nat → Prop) (G : Dv) (n : Nat) (s : DS) (k : Nat)
theorem storeA (i : Nat) (v : Int) (h : DevA w A G n s) (hf : Free s k) (hk : k < 1000000000) (hi : i < n) :
    Calls Try.prog 10 #[.pointer (some ⟨G.d, 0, none⟩), .int .i64 (i : Int), .int .u64 v] w fun e w' => e = .returned (.tuple #[]) ∧ DevA w' A G n (s.store i v) ∧ Mv G.own w w' := by
  refine (store_ok w A G n s (i : Int) v h.1 (by omega) hf.1 (by rw [hf.2.1]; decide) (by rw [hf.2.2]; omega)).mono ?_
  rintro e w' ⟨rfl, hd, hm⟩
  exact ⟨rfl, h.to hd hm, hm⟩
theorem flushA (i : Nat) (h : DevA w A G n s) (hf : Free s k) (hk : k < 1000000000) (hi : i < n) :
    Calls Try.prog 11 #[.pointer (some ⟨G.d, 0, none⟩), .int .i64 (i : Int)] w fun e w' => e = .returned (.tuple #[]) ∧ DevA w' A G n (s.flush (8 * (i / 8))) ∧ Mv G.own w w' := by
  refine (flush_ok w A G n s i h.1 h.2 hi hf.1 (by rw [hf.2.1]; decide) (by rw [hf.2.2]; omega)).mono ?_
  rintro e w' ⟨rfl, hd, hm⟩
  exact ⟨rfl, h.to hd hm, hm⟩
theorem fenceA (h : DevA w A G n s) (hf : Free s k) (hk : k < 1000000000) :
    Calls Try.prog 12 #[.pointer (some ⟨G.d, 0, none⟩)] w fun e w' => e = .returned (.tuple #[]) ∧ DevA w' A G n s.fence ∧ Mv G.own w w' := by
  refine (fence_ok w A G n s h.1 h.2 hf.1 (by rw [hf.2.1]; decide) (by rw [hf.2.2]; omega)).mono ?_
  rintro e w' ⟨rfl, hd, hm⟩
  exact ⟨rfl, h.to hd hm, hm⟩
theorem powerA (flip : Bool) (L : Option Addr) (m c : Nat) (zs : List Int) (h : DevA w A G n s)
    (hr : Reads w w.heap.size 1 L m (zs.map (Value.int .i64))) (hz : ∀ z ∈ zs, (Lit.int .i64 z).wf = true) (hm : m ≤ 9223372036854775807) (p : Nat → Bool) (hp : ∀ j : Nat, p j = (decide ((j : Int) ∈ zs) != flip)) :
    Calls Try.prog 15 #[.pointer (some ⟨G.d, 0, none⟩), .bool flip, .slice L m c] w fun e w' => e = .returned (.tuple #[]) ∧ DevA w' A G n (s.power p) ∧ Mv G.own w w' := by
  refine (power_any w A G n s flip L m c zs h.1 h.2 hr hz hm p hp).mono ?_
  rintro e w' ⟨rfl, hd, hm⟩
  exact ⟨rfl, h.to hd hm, hm⟩
/-- The power goes, and nothing is kept. -/
theorem powerN (h : DevA w A G n s) :
    Calls Try.prog 15 #[.pointer (some ⟨G.d, 0, none⟩), .bool false, .slice none 0 0] w fun e w' => e = .returned (.tuple #[]) ∧ DevA w' A G n (s.power fun _ => false) ∧ Mv G.own w w' :=
  powerA w A G n s false none 0 0 [] h Reads.none_ (by simp) (by omega) _ (fun j => by simp)
theorem loadA (i : Nat) (v : Int) (h : DevA w A G n s) (hf : Free s k) (hi : i < n) (hv : s.now i = v) :
    Calls Try.prog 14 #[.pointer (some ⟨G.d, 0, none⟩), .int .i64 (i : Int)] w fun e w' => e = .returned (.int .u64 v) ∧ w = w' := by
  refine (load_ok w A G n s (i : Int) h.1 (by omega) hf.1).mono ?_
  rintro e w' ⟨rfl, rfl⟩
  rw [Int.toNat_natCast, hv]
  exact ⟨rfl, rfl⟩
end
theorem one_reads (w : World) (e : TypeId) (v : Value) : Reads (w.alloc (.cells #[v] e)) (w.heap.size + 1) 1 (some ⟨w.heap.size, 0, none⟩) 1 [v] := by
  refine ⟨rfl, fun _ => ⟨_, rfl, Nat.lt_succ_self _, fun j u hj => ?_⟩⟩
  rcases Nat.eq_zero_or_pos j with h0 | h0
  · subst h0
    cases hj
    rw [addr_row]
    exact ((Blk.new w e #[v]).cell 0).trans rfl
  · rw [List.getElem?_eq_none (by simp; omega)] at hj
    cases hj
theorem enter_any (f : FuncId) (fn : Func) (a : Array Value) (W : World) (hf : Try.prog.funcs[f]? = some fn) (hn : (fn.name == "runtime.NumGoroutine") = false) (hb : fn.body.isNone = false) : (callFunc f a).run Try.prog W = .ok (.enter f a) W := by
  have h1 : fn.name ≠ "runtime.NumGoroutine" := by simpa using hn
  have h2 : fn.body.isNone = false := hb
  have h3 : ¬ fn.body = none := by intro e; rw [e] at h2; cases h2
  simp [callFunc, hf, h1, h3]
theorem tellR (word : Int) (F : FuncId) (fn : Func) (cap : Array Value) (w : World) (S : Nat → Prop) (Q : World → Prop) (hf : Try.prog.funcs[F]? = some fn) (hn : (fn.name == "runtime.NumGoroutine") = false) (hb : fn.body.isNone = false) (hS : ∀ b, S b → b < w.heap.size)
    (h : ∀ v, Mv (fun _ => False) w v → w.heap.size + 1 < v.heap.size → Calls Try.prog F cap v fun e w' => e = .returned (.tuple #[]) ∧ Q w' ∧ Mv S v w') :
    Calls Try.prog 24 #[.int .i64 word, .func (.func F) #[] cap] w fun e w' => e = .returned (.int .i64 0) ∧ ∃ w1, Q w1 ∧ Mv S w w1 ∧ Mv (fun b => b = w.heap.size + 1) w1 w' := by
  have m2 : Mv (fun _ => False) w ((w.alloc (.cells #[.int .i64 word] 3)).alloc (.cells #[.int .i64 0] 3)) := ((Mv.refl (fun _ => False) w).alloc _).alloc _
  have b3 : Blk ((w.alloc (.cells #[.int .i64 word] 3)).alloc (.cells #[.int .i64 0] 3)) w.heap.size 3 #[.int .i64 word] := (Blk.new w _ _).alloc _
  have b4 : Blk ((w.alloc (.cells #[.int .i64 word] 3)).alloc (.cells #[.int .i64 0] 3)) (w.heap.size + 1) 3 #[.int .i64 0] := blk_new _ _ _ (by simp)
  refine (told_ret word F cap w (fun w' => Q w' ∧ Mv S w w') (fun W => enter_any F fn _ W hf hn hb) ((h _ m2 (by simp)).mono ?_)).mono ?_
  · rintro e w' ⟨he, hQ, hm⟩
    exact ⟨he, ⟨hQ, (m2.mono (S' := S) (fun _ _ e => e.elim)).trans hm⟩, b3.mv hm (fun e => by have := hS _ e; omega), b4.mv hm (fun e => by have := hS _ e; omega)⟩
  · rintro e w' ⟨he, w1, ⟨hQ, hm⟩, hm1⟩
    exact ⟨he, w1, hQ, hm, hm1⟩
theorem tellL (word : Int) (F : FuncId) (fn : Func) (cap : Array Value) (w : World) (S : Nat → Prop) (Q : World → Prop) (hf : Try.prog.funcs[F]? = some fn) (hn : (fn.name == "runtime.NumGoroutine") = false) (hb : fn.body.isNone = false) (hS : ∀ b, S b → b < w.heap.size)
    (h : ∀ v, Mv (fun _ => False) w v → w.heap.size + 1 < v.heap.size → Calls Try.prog F cap v fun e w' => Panics lostV e ∧ Q w' ∧ Mv S v w') :
    Calls Try.prog 24 #[.int .i64 word, .func (.func F) #[] cap] w fun e w' => e = .returned (.int .i64 1) ∧ ∃ w1, Q w1 ∧ Mv S w w1 ∧ Mv (fun b => b = w.heap.size + 1) w1 w' := by
  have m2 : Mv (fun _ => False) w ((w.alloc (.cells #[.int .i64 word] 3)).alloc (.cells #[.int .i64 0] 3)) := ((Mv.refl (fun _ => False) w).alloc _).alloc _
  have b3 : Blk ((w.alloc (.cells #[.int .i64 word] 3)).alloc (.cells #[.int .i64 0] 3)) w.heap.size 3 #[.int .i64 word] := (Blk.new w _ _).alloc _
  have b4 : Blk ((w.alloc (.cells #[.int .i64 word] 3)).alloc (.cells #[.int .i64 0] 3)) (w.heap.size + 1) 3 #[.int .i64 0] := blk_new _ _ _ (by simp)
  refine (told_lost word F cap w (fun w' => Q w' ∧ Mv S w w') (fun W => enter_any F fn _ W hf hn hb) ((h _ m2 (by simp)).mono ?_)).mono ?_
  · rintro e w' ⟨he, hQ, hm⟩
    exact ⟨he, ⟨hQ, (m2.mono (S' := S) (fun _ _ e => e.elim)).trans hm⟩, b3.mv hm (fun e => by have := hS _ e; omega), b4.mv hm (fun e => by have := hS _ e; omega)⟩
  · rintro e w' ⟨he, w1, ⟨hQ, hm⟩, hm1⟩
    exact ⟨he, w1, hQ, hm, hm1⟩
theorem tellW (word : Int) (F : FuncId) (fn : Func) (cap : Array Value) (w : World) (S : Nat → Prop) (Q : World → Prop) (hf : Try.prog.funcs[F]? = some fn) (hn : (fn.name == "runtime.NumGoroutine") = false) (hb : fn.body.isNone = false) (hS : ∀ b, S b → b < w.heap.size)
    (h : ∀ v, Mv (fun _ => False) w v → w.heap.size + 1 < v.heap.size → Calls Try.prog F cap v fun e w' => Panics (wrongV word) e ∧ Q w' ∧ Mv S v w') :
    Calls Try.prog 24 #[.int .i64 word, .func (.func F) #[] cap] w fun e w' => e = .returned (.int .i64 2) ∧ ∃ w1, Q w1 ∧ Mv S w w1 ∧ Mv (fun b => b = w.heap.size + 1) w1 w' := by
  have m2 : Mv (fun _ => False) w ((w.alloc (.cells #[.int .i64 word] 3)).alloc (.cells #[.int .i64 0] 3)) := ((Mv.refl (fun _ => False) w).alloc _).alloc _
  have b3 : Blk ((w.alloc (.cells #[.int .i64 word] 3)).alloc (.cells #[.int .i64 0] 3)) w.heap.size 3 #[.int .i64 word] := (Blk.new w _ _).alloc _
  have b4 : Blk ((w.alloc (.cells #[.int .i64 word] 3)).alloc (.cells #[.int .i64 0] 3)) (w.heap.size + 1) 3 #[.int .i64 0] := blk_new _ _ _ (by simp)
  refine (told_wrong word F cap w (fun w' => Q w' ∧ Mv S w w') (fun W => enter_any F fn _ W hf hn hb) ((h _ m2 (by simp)).mono ?_)).mono ?_
  · rintro e w' ⟨he, hQ, hm⟩
    exact ⟨he, ⟨hQ, (m2.mono (S' := S) (fun _ _ e => e.elim)).trans hm⟩, b3.mv hm (fun e => by have := hS _ e; omega), b4.mv hm (fun e => by have := hS _ e; omega)⟩
  · rintro e w' ⟨he, w1, ⟨hQ, hm⟩, hm1⟩
    exact ⟨he, w1, hQ, hm, hm1⟩
theorem tellMR (word : Int) (F : FuncId) (fn : Func) (a : Value) (w : World) (S : Nat → Prop) (Q : World → Prop) (hf : Try.prog.funcs[F]? = some fn) (hn : (fn.name == "runtime.NumGoroutine") = false) (hb : fn.body.isNone = false) (hS : ∀ b, S b → b < w.heap.size)
    (h : ∀ v, Mv (fun _ => False) w v → w.heap.size + 1 < v.heap.size → Calls Try.prog F #[a] v fun e w' => e = .returned (.tuple #[]) ∧ Q w' ∧ Mv S v w') :
    Calls Try.prog 24 #[.int .i64 word, .func (.func F) #[a] #[]] w fun e w' => e = .returned (.int .i64 0) ∧ ∃ w1, Q w1 ∧ Mv S w w1 ∧ Mv (fun b => b = w.heap.size + 1) w1 w' := by
  have m2 : Mv (fun _ => False) w ((w.alloc (.cells #[.int .i64 word] 3)).alloc (.cells #[.int .i64 0] 3)) := ((Mv.refl (fun _ => False) w).alloc _).alloc _
  have b3 : Blk ((w.alloc (.cells #[.int .i64 word] 3)).alloc (.cells #[.int .i64 0] 3)) w.heap.size 3 #[.int .i64 word] := (Blk.new w _ _).alloc _
  have b4 : Blk ((w.alloc (.cells #[.int .i64 word] 3)).alloc (.cells #[.int .i64 0] 3)) (w.heap.size + 1) 3 #[.int .i64 0] := blk_new _ _ _ (by simp)
  refine (toldM_ret word F a w (fun w' => Q w' ∧ Mv S w w') (fun W => enter_any F fn _ W hf hn hb) ((h _ m2 (by simp)).mono ?_)).mono ?_
  · rintro e w' ⟨he, hQ, hm⟩
    exact ⟨he, ⟨hQ, (m2.mono (S' := S) (fun _ _ e => e.elim)).trans hm⟩, b3.mv hm (fun e => by have := hS _ e; omega), b4.mv hm (fun e => by have := hS _ e; omega)⟩
  · rintro e w' ⟨he, w1, ⟨hQ, hm⟩, hm1⟩
    exact ⟨he, w1, hQ, hm, hm1⟩
theorem tellML (word : Int) (F : FuncId) (fn : Func) (a : Value) (w : World) (S : Nat → Prop) (Q : World → Prop) (hf : Try.prog.funcs[F]? = some fn) (hn : (fn.name == "runtime.NumGoroutine") = false) (hb : fn.body.isNone = false) (hS : ∀ b, S b → b < w.heap.size)
    (h : ∀ v, Mv (fun _ => False) w v → w.heap.size + 1 < v.heap.size → Calls Try.prog F #[a] v fun e w' => Panics lostV e ∧ Q w' ∧ Mv S v w') :
    Calls Try.prog 24 #[.int .i64 word, .func (.func F) #[a] #[]] w fun e w' => e = .returned (.int .i64 1) ∧ ∃ w1, Q w1 ∧ Mv S w w1 ∧ Mv (fun b => b = w.heap.size + 1) w1 w' := by
  have m2 : Mv (fun _ => False) w ((w.alloc (.cells #[.int .i64 word] 3)).alloc (.cells #[.int .i64 0] 3)) := ((Mv.refl (fun _ => False) w).alloc _).alloc _
  have b3 : Blk ((w.alloc (.cells #[.int .i64 word] 3)).alloc (.cells #[.int .i64 0] 3)) w.heap.size 3 #[.int .i64 word] := (Blk.new w _ _).alloc _
  have b4 : Blk ((w.alloc (.cells #[.int .i64 word] 3)).alloc (.cells #[.int .i64 0] 3)) (w.heap.size + 1) 3 #[.int .i64 0] := blk_new _ _ _ (by simp)
  refine (toldM_lost word F a w (fun w' => Q w' ∧ Mv S w w') (fun W => enter_any F fn _ W hf hn hb) ((h _ m2 (by simp)).mono ?_)).mono ?_
  · rintro e w' ⟨he, hQ, hm⟩
    exact ⟨he, ⟨hQ, (m2.mono (S' := S) (fun _ _ e => e.elim)).trans hm⟩, b3.mv hm (fun e => by have := hS _ e; omega), b4.mv hm (fun e => by have := hS _ e; omega)⟩
  · rintro e w' ⟨he, w1, ⟨hQ, hm⟩, hm1⟩
    exact ⟨he, w1, hQ, hm, hm1⟩
/-- Told's own result is one more block that turns. -/
theorem DevA.told {w v : World} {A : Nat → Prop} {G : Dv} {n : Nat} {s : DS} (h : DevA w A G n s) (hm : Mv (fun _ => False) w v) (hs : w.heap.size + 1 < v.heap.size) : DevA v (fun b => A b ∨ b = w.heap.size + 1) G n s :=
  DevA.more h.1 hm (fun b hb e => by rcases e with e | e; exact e; omega) (fun b e => by rcases e with e | e; have := h.2 b e; omega; omega) (fun b e => .inl (by have := h.1.2.2.2.2.1; rcases e with rfl | rfl | rfl | rfl; exact this.1; exact this.2.1; exact this.2.2.1; exact this.2.2.2))
theorem DevA.own_lt {w : World} {A : Nat → Prop} {G : Dv} {n : Nat} {s : DS} (h : DevA w A G n s) : ∀ b, G.own b → b < w.heap.size := fun b e => by
  have hap := h.1.apart
  rcases e with rfl | rfl | rfl | rfl <;> omega
theorem DevA.back {w w1 w2 : World} {A : Nat → Prop} {G : Dv} {n n0 : Nat} {s s0 : DS} (h0 : DevA w A G n0 s0) (h : DevA w1 (fun b => A b ∨ b = w.heap.size + 1) G n s) (hm : Mv (fun b => b = w.heap.size + 1) w1 w2) : DevA w2 (fun b => A b ∨ b = w.heap.size + 1) G n s :=
  h.keep hm (fun b e _ => .inr e) (fun b e => by have := h0.own_lt b e; omega)
theorem Mv.trans2 {S S' : Nat → Prop} {a b c : World} (h : Mv S a b) (k : Mv S' b c) : Mv (fun x => S x ∨ S' x) a c := (h.mono (fun _ _ e => .inl e)).trans' k (fun _ _ e => .inr e)
end Go.Proofs.Ytdphillobnlpaaa
