/- What the document fixes (awake). -/
import Derived.Test.YtfiajonbekfcfaaNvmH
namespace Go.Proofs.Ytfiajonbekfcfaa
open Go.RowKit
set_option linter.unusedVariables false

def DevA (w : World) (A : Nat → Prop) (G : Dv) (n : Nat) (s : DS) : Prop := Dev w A G n s ∧ ∀ b, A b → b < w.heap.size
/-- No fuse burns; k steps went well. -/
def Free (s : DS) (k : Nat) : Prop := s.dead = false ∧ s.fuse = -1 ∧ s.steps = (k : Int)
theorem Free.burn {s : DS} {k : Nat} (h : Free s k) : Free s.burn (k + 1) := by
  obtain ⟨h1, h2, h3⟩ := h
  refine ⟨h1, ?_, ?_⟩
  · show max (s.fuse - 1) (-1) = -1
    rw [h2]; decide
  · show s.steps + 1 = ((k + 1 : Nat) : Int)
    rw [h3]; rfl
theorem Free.store {s : DS} {k : Nat} (h : Free s k) (i : Nat) (v : Int) : Free (s.store i v) (k + 1) := h.burn
theorem Free.flush {s : DS} {k : Nat} (h : Free s k) (p : Nat) : Free (s.flush p) (k + 1) := h.burn
theorem Free.fence {s : DS} {k : Nat} (h : Free s k) : Free s.fence (k + 1) := h.burn
theorem Free.power {s : DS} {k : Nat} (h : Free s k) (p : Nat → Bool) : Free (s.power p) k := ⟨rfl, rfl, h.2.2⟩
theorem Free.noughts : Free noughts 0 := ⟨rfl, rfl, rfl⟩
section
variable {w w' : World} {A : Nat → Prop} {G : Dv} {n : Nat} {s s' : DS} {S : Nat → Prop}
theorem DevA.to (h : DevA w A G n s) (hd : Dev w' A G n s') (hm : Mv S w w') : DevA w' A G n s' := ⟨hd, fun b hb => Nat.lt_of_lt_of_le (h.2 b hb) hm.size⟩
theorem DevA.keep (h : DevA w A G n s) (hm : Mv S w w') (hs : ∀ b, S b → b < w.heap.size → A b) (hS : ∀ b, G.own b → ¬ S b) : DevA w' A G n s := h.to (h.1.keep hm (fun b h1 h2 => hs b h2 h1) hS) hm
/-- .. with more blocks that turn, all of them new. -/
theorem DevA.more {A' : Nat → Prop} (h : Dev w A G n s) (hm : Mv (fun _ => False) w w') (hA : ∀ b, b < w.heap.size → A' b → A b) (hA2 : ∀ b, A' b → b < w'.heap.size) (hG : ∀ b, G.own b → A' b) : DevA w' A' G n s :=
  ⟨h.mv hm (fun _ _ e => e.elim) hA ⟨hG _ (.inl rfl), hG _ (.inr (.inl rfl)), hG _ (.inr (.inr (.inl rfl))), hG _ (.inr (.inr (.inr rfl)))⟩ (fun _ _ e => e), hA2⟩
end
section
variable (w : World) (A : Nat → Prop) (G : Dv) (n : Nat) (s : DS) (k : Nat)
theorem storeA (i : Nat) (v : Int) (h : DevA w A G n s) (hf : Free s k) (hk : k < 1000000000) (hi : i < n) :
    Calls Try.prog 12 #[.pointer (some ⟨G.d, 0, none⟩), .int .i64 (i : Int), .int .u64 v] w fun e w' => e = .returned (.tuple #[]) ∧ DevA w' A G n (s.store i v) ∧ Mv G.own w w' := by
  refine (store_ok w A G n s (i : Int) v h.1 (by omega) hf.1 (by rw [hf.2.1]; decide) (by rw [hf.2.2]; omega)).mono ?_
  rintro e w' ⟨rfl, hd, hm⟩
  exact ⟨rfl, h.to hd hm, hm⟩
theorem flushA (i : Nat) (h : DevA w A G n s) (hf : Free s k) (hk : k < 1000000000) (hi : i < n) :
    Calls Try.prog 13 #[.pointer (some ⟨G.d, 0, none⟩), .int .i64 (i : Int)] w fun e w' => e = .returned (.tuple #[]) ∧ DevA w' A G n (s.flush (8 * (i / 8))) ∧ Mv G.own w w' := by
  refine (flush_ok w A G n s i h.1 h.2 hi hf.1 (by rw [hf.2.1]; decide) (by rw [hf.2.2]; omega)).mono ?_
  rintro e w' ⟨rfl, hd, hm⟩
  exact ⟨rfl, h.to hd hm, hm⟩
theorem fenceA (h : DevA w A G n s) (hf : Free s k) (hk : k < 1000000000) :
    Calls Try.prog 14 #[.pointer (some ⟨G.d, 0, none⟩)] w fun e w' => e = .returned (.tuple #[]) ∧ DevA w' A G n s.fence ∧ Mv G.own w w' := by
  refine (fence_ok w A G n s h.1 h.2 hf.1 (by rw [hf.2.1]; decide) (by rw [hf.2.2]; omega)).mono ?_
  rintro e w' ⟨rfl, hd, hm⟩
  exact ⟨rfl, h.to hd hm, hm⟩
theorem powerA (flip : Bool) (L : Option Addr) (m c : Nat) (zs : List Int) (h : DevA w A G n s)
    (hr : Reads w w.heap.size 1 L m (zs.map (Value.int .i64))) (hz : ∀ z ∈ zs, (Lit.int .i64 z).wf = true) (hm : m ≤ 9223372036854775807) (p : Nat → Bool) (hp : ∀ j : Nat, p j = (decide ((j : Int) ∈ zs) != flip)) :
    Calls Try.prog 16 #[.pointer (some ⟨G.d, 0, none⟩), .bool flip, .slice L m c] w fun e w' => e = .returned (.tuple #[]) ∧ DevA w' A G n (s.power p) ∧ Mv G.own w w' := by
  refine (power_any w A G n s flip L m c zs h.1 h.2 hr hz hm p hp).mono ?_
  rintro e w' ⟨rfl, hd, hm⟩
  exact ⟨rfl, h.to hd hm, hm⟩
/-- The power goes, and nothing is kept. -/
theorem powerN (h : DevA w A G n s) :
    Calls Try.prog 16 #[.pointer (some ⟨G.d, 0, none⟩), .bool false, .slice none 0 0] w fun e w' => e = .returned (.tuple #[]) ∧ DevA w' A G n (s.power fun _ => false) ∧ Mv G.own w w' :=
  powerA w A G n s false none 0 0 [] h Reads.none_ (by simp) (by omega) _ (fun j => by simp)
theorem loadA (i : Nat) (v : Int) (h : DevA w A G n s) (hf : Free s k) (hi : i < n) (hv : s.now i = v) :
    Calls Try.prog 15 #[.pointer (some ⟨G.d, 0, none⟩), .int .i64 (i : Int)] w fun e w' => e = .returned (.int .u64 v) ∧ w = w' := by
  refine (load_ok w A G n s (i : Int) h.1 (by omega) hf.1).mono ?_
  rintro e w' ⟨rfl, rfl⟩
  rw [Int.toNat_natCast, hv]
  exact ⟨rfl, rfl⟩
end
/-- The closure's world: its device, and the two variables that it holds. -/
structure Aw (w0 : World) (A : Nat → Prop) (G : Dv) (bd bo : Nat) (w : World) (s : DS) : Prop where
  dev : DevA w A G 8 s
  pt : Blk w bd 23 #[.pointer (some ⟨G.d, 0, none⟩)]
  ok : Blk w bo 4 #[.bool true]
  ad : A bd
  ao : A bo
  nd : ¬ G.own bd
  no : ¬ G.own bo
  mv : Mv (fun b => G.own b ∨ b = bo) w0 w
section
variable {w0 w w' : World} {A : Nat → Prop} {G : Dv} {bd bo : Nat} {s s' : DS}
theorem Aw.to (h : Aw w0 A G bd bo w s) (hd : DevA w' A G 8 s') (hm : Mv G.own w w') : Aw w0 A G bd bo w' s' :=
  ⟨hd, h.pt.mv hm h.nd, h.ok.mv hm h.no, h.ad, h.ao, h.nd, h.no, h.mv.trans' hm (fun _ _ e => .inl e)⟩
theorem Aw.ne (h : Aw w0 A G bd bo w s) : bd ≠ bo := h.pt.ne_ h.ok (by decide)
theorem Aw.c (h : Aw w0 A G bd bo w s) : w.cell? ⟨bd, 0, none⟩ = some (.pointer (some ⟨G.d, 0, none⟩)) := (h.pt.cell 0).trans rfl
theorem Aw.o (h : Aw w0 A G bd bo w s) : w.cell? ⟨bo, 0, none⟩ = some (.bool true) := (h.ok.cell 0).trans rfl
theorem Aw.f (h : Aw w0 A G bd bo w s) : w.frozen? ⟨bo, 0, none⟩ = false := h.ok.frozen 0
theorem Aw.put (h : Aw w0 A G bd bo w s) : Aw w0 A G bd bo (w.setCell ⟨bo, 0, none⟩ (.bool true)) s := by
  have hm : Mv (fun b => b = bo) w (w.setCell ⟨bo, 0, none⟩ (.bool true)) := (Mv.refl (fun b => b = bo) w).setCell (p := ⟨bo, 0, none⟩) (fun _ => rfl) _
  exact ⟨h.dev.keep hm (fun b e _ => e ▸ h.ao) (fun b hb e => h.no (e ▸ hb)), h.pt.mv hm h.ne, h.ok.set_ 0 _, h.ad, h.ao, h.nd, h.no, h.mv.trans' hm (fun _ _ e => .inr e)⟩
theorem Aw.alloc (h : Aw w0 A G bd bo w s) (o : Obj) : Aw w0 A G bd bo (w.alloc o) s :=
  h.to (h.dev.keep ((Mv.refl (fun _ => False) w).alloc o) (fun _ e _ => e.elim) (fun _ _ e => e)) ((Mv.refl G.own w).alloc o)
end
def aw1 := noughts.store 1 5
def aw2 := aw1.power fun _ => false
def aw3 := aw2.store 1 5
def aw4 := aw3.flush 0
def aw5 := aw4.fence
def aw6 := aw5.power fun _ => false
def aw7 := aw6.store 1 6
def aw8 := aw7.power fun j => decide ((j : Int) ∈ [(1 : Int)]) != false
theorem fr1 : Free aw1 1 := Free.noughts.store 1 5
theorem fr2 : Free aw2 1 := fr1.power _
theorem fr3 : Free aw3 2 := fr2.store 1 5
theorem fr4 : Free aw4 3 := fr3.flush 0
theorem fr5 : Free aw5 4 := fr4.fence
theorem fr6 : Free aw6 4 := fr5.power _
theorem fr7 : Free aw7 5 := fr6.store 1 6
theorem fr8 : Free aw8 5 := fr7.power _
theorem one_reads (w : World) (e : TypeId) (v : Value) : Reads (w.alloc (.cells #[v] e)) (w.heap.size + 1) 1 (some ⟨w.heap.size, 0, none⟩) 1 [v] := by
  refine ⟨rfl, fun _ => ⟨_, rfl, Nat.lt_succ_self _, fun j u hj => ?_⟩⟩
  rcases Nat.eq_zero_or_pos j with h0 | h0
  · subst h0
    cases hj
    rw [addr_row]
    exact ((Blk.new w e #[v]).cell 0).trans rfl
  · rw [List.getElem?_eq_none (by simp; omega)] at hj
    cases hj
set_option maxHeartbeats 4000000 in
theorem awake1 (w : World) (A : Nat → Prop) (G : Dv) (bd bo : Nat) (h : Aw w A G bd bo w noughts) :
    Calls Try.prog 35 #[.pointer (some ⟨bd, 0, none⟩), .pointer (some ⟨bo, 0, none⟩)] w fun e w' => e = .returned (.tuple #[]) ∧ Aw w A G bd bo w' aw8 := by
  have A0 := Lib.hid h
  clear h
  have c0 := A0.out.c
  have o0 := A0.out.o
  have f0 := A0.out.f
  have b0 := A0.out.ok.lt
  go_enter Try.func35, Try.ntmps35
  go_wp2_with fail
  refine (storeA w A G 8 noughts 0 1 5 A0.out.dev Free.noughts (by decide) (by decide)).mono ?_
  rintro e w1 ⟨rfl, hD1, hM1⟩
  have A1 := Lib.hid (A0.out.to hD1 hM1)
  have c1 := A1.out.c
  clear hD1 hM1
  go_wp2_with fail
  refine (powerN w1 A G 8 aw1 A1.out.dev).mono ?_
  rintro e w2 ⟨rfl, hD2, hM2⟩
  have A2 := Lib.hid (A1.out.to hD2 hM2)
  have c2 := A2.out.c
  have o2 := A2.out.o
  have f2 := A2.out.f
  have A2' := Lib.hid A2.out.put
  have c2' := A2'.out.c
  clear hD2 hM2
  go_wp2_with fail
  refine (loadA w2 A G 8 aw2 1 1 0 A2.out.dev fr2 (by decide) rfl).mono ?_
  rintro e w2x ⟨rfl, rfl⟩
  go_wp2_with fail
  refine (storeA _ A G 8 aw2 1 1 5 A2'.out.dev fr2 (by decide) (by decide)).mono ?_
  rintro e w3 ⟨rfl, hD3, hM3⟩
  have A3 := Lib.hid (A2'.out.to hD3 hM3)
  have c3 := A3.out.c
  clear hD3 hM3
  go_wp2_with fail
  refine (flushA w3 A G 8 aw3 2 0 A3.out.dev fr3 (by decide) (by decide)).mono ?_
  rintro e w4 ⟨rfl, hD4, hM4⟩
  have A4 := Lib.hid (A3.out.to hD4 hM4)
  have c4 := A4.out.c
  clear hD4 hM4
  go_wp2_with fail
  refine (fenceA w4 A G 8 aw4 3 A4.out.dev fr4 (by decide)).mono ?_
  rintro e w5 ⟨rfl, hD5, hM5⟩
  have A5 := Lib.hid (A4.out.to hD5 hM5)
  have c5 := A5.out.c
  clear hD5 hM5
  go_wp2_with fail
  refine (powerN w5 A G 8 aw5 A5.out.dev).mono ?_
  rintro e w6 ⟨rfl, hD6, hM6⟩
  have A6 := Lib.hid (A5.out.to hD6 hM6)
  have c6 := A6.out.c
  have o6 := A6.out.o
  have f6 := A6.out.f
  have A6' := Lib.hid A6.out.put
  have c6' := A6'.out.c
  clear hD6 hM6
  go_wp2_with fail
  refine (loadA w6 A G 8 aw6 4 1 5 A6.out.dev fr6 (by decide) rfl).mono ?_
  rintro e w6x ⟨rfl, rfl⟩
  go_wp2_with fail
  refine (storeA _ A G 8 aw6 4 1 6 A6'.out.dev fr6 (by decide) (by decide)).mono ?_
  rintro e w7 ⟨rfl, hD7, hM7⟩
  have A7 := Lib.hid (A6'.out.to hD7 hM7)
  have A7' := Lib.hid (A7.out.alloc (.cells #[.int .i64 1] 3))
  have c7 := A7.out.c
  clear hD7 hM7
  go_wp2_with fail
  refine (powerA _ A G 8 aw7 false (some ⟨w7.heap.size, 0, none⟩) 1 1 [1] A7'.out.dev (by have := one_reads w7 3 (.int .i64 1); simpa using this) (by intro z hz; simp at hz; subst hz; decide) (by decide) (fun j => decide ((j : Int) ∈ [(1 : Int)]) != false) (fun j => rfl)).mono ?_
  rintro e w8 ⟨rfl, hD8, hM8⟩
  have A8 := Lib.hid (A7'.out.to hD8 hM8)
  have c8 := A8.out.c
  have o8 := A8.out.o
  have f8 := A8.out.f
  have A8' := Lib.hid A8.out.put
  clear hD8 hM8
  go_wp2_with fail
  refine (loadA w8 A G 8 aw8 5 1 6 A8.out.dev fr8 (by decide) rfl).mono ?_
  rintro e w8x ⟨rfl, rfl⟩
  go_wp2_with fail
  go_end0
  exact ⟨rfl, A8'.out⟩
theorem awake2 (w : World) (A : Nat → Prop) (G : Dv) (bd : Nat) (s : DS) (h : Dev w A G 8 s) (hb : Blk w bd 23 #[.pointer (some ⟨G.d, 0, none⟩)]) :
    Calls Try.prog 37 #[.pointer (some ⟨bd, 0, none⟩)] w fun e w' => Panics (wrongV 9) e ∧ w = w' := by
  have h' := Lib.hid h
  clear h
  have c0 : w.cell? ⟨bd, 0, none⟩ = some (.pointer (some ⟨G.d, 0, none⟩)) := (hb.cell 0).trans rfl
  unfold Panics
  go_enter Try.func37, Try.ntmps37
  go_wp2_with fail
  refine (load_wrong w A G 8 s 9 h'.out (by omega)).mono ?_
  rintro e w1 ⟨rfl, rfl⟩
  go_wp2_with fail
  simp [bodyPost]
theorem enter_any (f : FuncId) (fn : Func) (a : Array Value) (W : World) (hf : Try.prog.funcs[f]? = some fn) (hn : (fn.name == "runtime.NumGoroutine") = false) (hb : fn.body.isNone = false) : (callFunc f a).run Try.prog W = .ok (.enter f a) W := by
  have h1 : fn.name ≠ "runtime.NumGoroutine" := by simpa using hn
  have h2 : fn.body.isNone = false := hb
  have h3 : ¬ fn.body = none := by intro e; rw [e] at h2; cases h2
  simp [callFunc, hf, h1, h3]
theorem tellR (word : Int) (F : FuncId) (fn : Func) (cap : Array Value) (w : World) (S : Nat → Prop) (Q : World → Prop) (hf : Try.prog.funcs[F]? = some fn) (hn : (fn.name == "runtime.NumGoroutine") = false) (hb : fn.body.isNone = false) (hS : ∀ b, S b → b < w.heap.size)
    (h : ∀ v, Mv (fun _ => False) w v → w.heap.size + 1 < v.heap.size → Calls Try.prog F cap v fun e w' => e = .returned (.tuple #[]) ∧ Q w' ∧ Mv S v w') :
    Calls Try.prog 10 #[.int .i64 word, .func (.func F) #[] cap] w fun e w' => e = .returned (.int .i64 0) ∧ ∃ w1, Q w1 ∧ Mv S w w1 ∧ Mv (fun b => b = w.heap.size + 1) w1 w' := by
  have m2 : Mv (fun _ => False) w ((w.alloc (.cells #[.int .i64 word] 3)).alloc (.cells #[.int .i64 0] 3)) := ((Mv.refl (fun _ => False) w).alloc _).alloc _
  have b3 : Blk ((w.alloc (.cells #[.int .i64 word] 3)).alloc (.cells #[.int .i64 0] 3)) w.heap.size 3 #[.int .i64 word] := (Blk.new w _ _).alloc _
  have b4 : Blk ((w.alloc (.cells #[.int .i64 word] 3)).alloc (.cells #[.int .i64 0] 3)) (w.heap.size + 1) 3 #[.int .i64 0] := blk_new _ _ _ (by simp)
  refine (told_ret word F cap w (fun w' => Q w' ∧ Mv S w w') (fun W => enter_any F fn _ W hf hn hb) ((h _ m2 (by simp)).mono ?_)).mono ?_
  · rintro e w' ⟨he, hQ, hm⟩
    exact ⟨he, ⟨hQ, (m2.mono (S' := S) (fun _ _ e => e.elim)).trans hm⟩, b3.mv hm (fun e => by have := hS _ e; omega), b4.mv hm (fun e => by have := hS _ e; omega)⟩
  · rintro e w' ⟨he, w1, ⟨hQ, hm⟩, hm1⟩
    exact ⟨he, w1, hQ, hm, hm1⟩
theorem tellL (word : Int) (F : FuncId) (fn : Func) (cap : Array Value) (w : World) (S : Nat → Prop) (Q : World → Prop) (hf : Try.prog.funcs[F]? = some fn) (hn : (fn.name == "runtime.NumGoroutine") = false) (hb : fn.body.isNone = false) (hS : ∀ b, S b → b < w.heap.size)
    (h : ∀ v, Mv (fun _ => False) w v → w.heap.size + 1 < v.heap.size → Calls Try.prog F cap v fun e w' => Panics lostV e ∧ Q w' ∧ Mv S v w') :
    Calls Try.prog 10 #[.int .i64 word, .func (.func F) #[] cap] w fun e w' => e = .returned (.int .i64 1) ∧ ∃ w1, Q w1 ∧ Mv S w w1 ∧ Mv (fun b => b = w.heap.size + 1) w1 w' := by
  have m2 : Mv (fun _ => False) w ((w.alloc (.cells #[.int .i64 word] 3)).alloc (.cells #[.int .i64 0] 3)) := ((Mv.refl (fun _ => False) w).alloc _).alloc _
  have b3 : Blk ((w.alloc (.cells #[.int .i64 word] 3)).alloc (.cells #[.int .i64 0] 3)) w.heap.size 3 #[.int .i64 word] := (Blk.new w _ _).alloc _
  have b4 : Blk ((w.alloc (.cells #[.int .i64 word] 3)).alloc (.cells #[.int .i64 0] 3)) (w.heap.size + 1) 3 #[.int .i64 0] := blk_new _ _ _ (by simp)
  refine (told_lost word F cap w (fun w' => Q w' ∧ Mv S w w') (fun W => enter_any F fn _ W hf hn hb) ((h _ m2 (by simp)).mono ?_)).mono ?_
  · rintro e w' ⟨he, hQ, hm⟩
    exact ⟨he, ⟨hQ, (m2.mono (S' := S) (fun _ _ e => e.elim)).trans hm⟩, b3.mv hm (fun e => by have := hS _ e; omega), b4.mv hm (fun e => by have := hS _ e; omega)⟩
  · rintro e w' ⟨he, w1, ⟨hQ, hm⟩, hm1⟩
    exact ⟨he, w1, hQ, hm, hm1⟩
theorem tellW (word : Int) (F : FuncId) (fn : Func) (cap : Array Value) (w : World) (S : Nat → Prop) (Q : World → Prop) (hf : Try.prog.funcs[F]? = some fn) (hn : (fn.name == "runtime.NumGoroutine") = false) (hb : fn.body.isNone = false) (hS : ∀ b, S b → b < w.heap.size)
    (h : ∀ v, Mv (fun _ => False) w v → w.heap.size + 1 < v.heap.size → Calls Try.prog F cap v fun e w' => Panics (wrongV word) e ∧ Q w' ∧ Mv S v w') :
    Calls Try.prog 10 #[.int .i64 word, .func (.func F) #[] cap] w fun e w' => e = .returned (.int .i64 2) ∧ ∃ w1, Q w1 ∧ Mv S w w1 ∧ Mv (fun b => b = w.heap.size + 1) w1 w' := by
  have m2 : Mv (fun _ => False) w ((w.alloc (.cells #[.int .i64 word] 3)).alloc (.cells #[.int .i64 0] 3)) := ((Mv.refl (fun _ => False) w).alloc _).alloc _
  have b3 : Blk ((w.alloc (.cells #[.int .i64 word] 3)).alloc (.cells #[.int .i64 0] 3)) w.heap.size 3 #[.int .i64 word] := (Blk.new w _ _).alloc _
  have b4 : Blk ((w.alloc (.cells #[.int .i64 word] 3)).alloc (.cells #[.int .i64 0] 3)) (w.heap.size + 1) 3 #[.int .i64 0] := blk_new _ _ _ (by simp)
  refine (told_wrong word F cap w (fun w' => Q w' ∧ Mv S w w') (fun W => enter_any F fn _ W hf hn hb) ((h _ m2 (by simp)).mono ?_)).mono ?_
  · rintro e w' ⟨he, hQ, hm⟩
    exact ⟨he, ⟨hQ, (m2.mono (S' := S) (fun _ _ e => e.elim)).trans hm⟩, b3.mv hm (fun e => by have := hS _ e; omega), b4.mv hm (fun e => by have := hS _ e; omega)⟩
  · rintro e w' ⟨he, w1, ⟨hQ, hm⟩, hm1⟩
    exact ⟨he, w1, hQ, hm, hm1⟩
theorem tellMR (word : Int) (F : FuncId) (fn : Func) (a : Value) (w : World) (S : Nat → Prop) (Q : World → Prop) (hf : Try.prog.funcs[F]? = some fn) (hn : (fn.name == "runtime.NumGoroutine") = false) (hb : fn.body.isNone = false) (hS : ∀ b, S b → b < w.heap.size)
    (h : ∀ v, Mv (fun _ => False) w v → w.heap.size + 1 < v.heap.size → Calls Try.prog F #[a] v fun e w' => e = .returned (.tuple #[]) ∧ Q w' ∧ Mv S v w') :
    Calls Try.prog 10 #[.int .i64 word, .func (.func F) #[a] #[]] w fun e w' => e = .returned (.int .i64 0) ∧ ∃ w1, Q w1 ∧ Mv S w w1 ∧ Mv (fun b => b = w.heap.size + 1) w1 w' := by
  have m2 : Mv (fun _ => False) w ((w.alloc (.cells #[.int .i64 word] 3)).alloc (.cells #[.int .i64 0] 3)) := ((Mv.refl (fun _ => False) w).alloc _).alloc _
  have b3 : Blk ((w.alloc (.cells #[.int .i64 word] 3)).alloc (.cells #[.int .i64 0] 3)) w.heap.size 3 #[.int .i64 word] := (Blk.new w _ _).alloc _
  have b4 : Blk ((w.alloc (.cells #[.int .i64 word] 3)).alloc (.cells #[.int .i64 0] 3)) (w.heap.size + 1) 3 #[.int .i64 0] := blk_new _ _ _ (by simp)
  refine (toldM_ret word F a w (fun w' => Q w' ∧ Mv S w w') (fun W => enter_any F fn _ W hf hn hb) ((h _ m2 (by simp)).mono ?_)).mono ?_
  · rintro e w' ⟨he, hQ, hm⟩
    exact ⟨he, ⟨hQ, (m2.mono (S' := S) (fun _ _ e => e.elim)).trans hm⟩, b3.mv hm (fun e => by have := hS _ e; omega), b4.mv hm (fun e => by have := hS _ e; omega)⟩
  · rintro e w' ⟨he, w1, ⟨hQ, hm⟩, hm1⟩
    exact ⟨he, w1, hQ, hm, hm1⟩
theorem tellML (word : Int) (F : FuncId) (fn : Func) (a : Value) (w : World) (S : Nat → Prop) (Q : World → Prop) (hf : Try.prog.funcs[F]? = some fn) (hn : (fn.name == "runtime.NumGoroutine") = false) (hb : fn.body.isNone = false) (hS : ∀ b, S b → b < w.heap.size)
    (h : ∀ v, Mv (fun _ => False) w v → w.heap.size + 1 < v.heap.size → Calls Try.prog F #[a] v fun e w' => Panics lostV e ∧ Q w' ∧ Mv S v w') :
    Calls Try.prog 10 #[.int .i64 word, .func (.func F) #[a] #[]] w fun e w' => e = .returned (.int .i64 1) ∧ ∃ w1, Q w1 ∧ Mv S w w1 ∧ Mv (fun b => b = w.heap.size + 1) w1 w' := by
  have m2 : Mv (fun _ => False) w ((w.alloc (.cells #[.int .i64 word] 3)).alloc (.cells #[.int .i64 0] 3)) := ((Mv.refl (fun _ => False) w).alloc _).alloc _
  have b3 : Blk ((w.alloc (.cells #[.int .i64 word] 3)).alloc (.cells #[.int .i64 0] 3)) w.heap.size 3 #[.int .i64 word] := (Blk.new w _ _).alloc _
  have b4 : Blk ((w.alloc (.cells #[.int .i64 word] 3)).alloc (.cells #[.int .i64 0] 3)) (w.heap.size + 1) 3 #[.int .i64 0] := blk_new _ _ _ (by simp)
  refine (toldM_lost word F a w (fun w' => Q w' ∧ Mv S w w') (fun W => enter_any F fn _ W hf hn hb) ((h _ m2 (by simp)).mono ?_)).mono ?_
  · rintro e w' ⟨he, hQ, hm⟩
    exact ⟨he, ⟨hQ, (m2.mono (S' := S) (fun _ _ e => e.elim)).trans hm⟩, b3.mv hm (fun e => by have := hS _ e; omega), b4.mv hm (fun e => by have := hS _ e; omega)⟩
  · rintro e w' ⟨he, w1, ⟨hQ, hm⟩, hm1⟩
    exact ⟨he, w1, hQ, hm, hm1⟩
/-- Told's own result is one more block that turns. -/
theorem DevA.told {w v : World} {A : Nat → Prop} {G : Dv} {n : Nat} {s : DS} (h : DevA w A G n s) (hm : Mv (fun _ => False) w v) (hs : w.heap.size + 1 < v.heap.size) : DevA v (fun b => A b ∨ b = w.heap.size + 1) G n s :=
  DevA.more h.1 hm (fun b hb e => by rcases e with e | e; exact e; omega) (fun b e => by rcases e with e | e; have := h.2 b e; omega; omega) (fun b e => .inl (by have := h.1.2.2.2.2.1; rcases e with rfl | rfl | rfl | rfl; exact this.1; exact this.2.1; exact this.2.2.1; exact this.2.2.2))
theorem DevA.own_lt {w : World} {A : Nat → Prop} {G : Dv} {n : Nat} {s : DS} (h : DevA w A G n s) : ∀ b, G.own b → b < w.heap.size := fun b e => by
  have hap := h.1.apart
  rcases e with rfl | rfl | rfl | rfl <;> omega
theorem DevA.back {w w1 w2 : World} {A : Nat → Prop} {G : Dv} {n n0 : Nat} {s s0 : DS} (h0 : DevA w A G n0 s0) (h : DevA w1 (fun b => A b ∨ b = w.heap.size + 1) G n s) (hm : Mv (fun b => b = w.heap.size + 1) w1 w2) : DevA w2 (fun b => A b ∨ b = w.heap.size + 1) G n s :=
  h.keep hm (fun b e _ => .inr e) (fun b e => by have := h0.own_lt b e; omega)
theorem Mv.trans2 {S S' : Nat → Prop} {a b c : World} (h : Mv S a b) (k : Mv S' b c) : Mv (fun x => S x ∨ S' x) a c := (h.mono (fun _ _ e => .inl e)).trans' k (fun _ _ e => .inr e)
set_option maxHeartbeats 4000000 in
theorem awake_any (w : World) :
    Calls Try.prog 17 #[] w fun e w' => e = .returned (.bool true) ∧ Below w.heap.size w w' := by
  have hmf : ∀ (fn : Fn) (first cap : Array Value) (w : World), (Instr.makeFunc fn first cap).run Try.prog w = .ok (.func fn first cap) w := fun _ _ _ _ => rfl
  go_enter Try.func17, Try.ntmps17
  go_wp2_with fail
  refine (new_any w 8 (by decide)).mono ?_
  rintro e w1 ⟨G, rfl, hF, hD, hM⟩
  go_wp2_with fail
  obtain ⟨F1, F2, F3, F4⟩ := hF
  have hap := hD.apart
  have m1 : Mv (fun _ => False) w1 ((w1.alloc (.cells #[.pointer (some ⟨G.d, 0, none⟩)] 23)).alloc (.cells #[.bool true] 4)) := ((Mv.refl (fun _ => False) w1).alloc _).alloc _
  have b1 : Blk ((w1.alloc (.cells #[.pointer (some ⟨G.d, 0, none⟩)] 23)).alloc (.cells #[.bool true] 4)) w1.heap.size 23 #[.pointer (some ⟨G.d, 0, none⟩)] := (Blk.new w1 _ _).alloc _
  have b2 : Blk ((w1.alloc (.cells #[.pointer (some ⟨G.d, 0, none⟩)] 23)).alloc (.cells #[.bool true] 4)) (w1.heap.size + 1) 4 #[.bool true] := blk_new _ _ _ (by simp)
  have s2 : ((w1.alloc (.cells #[.pointer (some ⟨G.d, 0, none⟩)] 23)).alloc (.cells #[.bool true] 4)).heap.size = w1.heap.size + 2 := by simp
  generalize (w1.alloc (.cells #[.pointer (some ⟨G.d, 0, none⟩)] 23)).alloc (.cells #[.bool true] 4) = w2 at m1 b1 b2 s2 ⊢
  have own : ∀ b, G.own b → b < w1.heap.size := fun b e => by rcases e with rfl | rfl | rfl | rfl <;> omega
  have hA1 : DevA w2 (fun b => G.own b ∨ b = w1.heap.size ∨ b = w1.heap.size + 1) G 8 noughts :=
    DevA.more hD m1 (fun b hb e => by rcases e with e | e | e; exact e; omega; omega) (fun b e => by rcases e with e | e | e; have := own b e; omega; omega; omega) (fun b e => .inl e)
  have Ht := tellR 0 35 Try.f35 #[.pointer (some ⟨w1.heap.size, 0, none⟩), .pointer (some ⟨w1.heap.size + 1, 0, none⟩)] w2 (fun b => G.own b ∨ b = w1.heap.size + 1)
    (fun w' => ∃ v, Aw v (fun b => (G.own b ∨ b = w1.heap.size ∨ b = w1.heap.size + 1) ∨ b = w2.heap.size + 1) G w1.heap.size (w1.heap.size + 1) w' aw8) Try.func35 (by kernel_rfl) (by kernel_rfl) (fun b e => by rcases e with e | e; have := own b e; omega; omega)
    (fun v hv hs => (awake1 v _ G w1.heap.size (w1.heap.size + 1) ⟨hA1.told hv hs, b1.mv hv (fun e => e), b2.mv hv (fun e => e), .inl (.inr (.inl rfl)), .inl (.inr (.inr rfl)), fun e => by have := own _ e; omega, fun e => by have := own _ e; omega, Mv.refl _ _⟩).mono (by
      rintro e w' ⟨rfl, hA⟩
      exact ⟨rfl, ⟨v, hA⟩, hA.mv⟩))
  refine Ht.mono ?_
  rintro e w3 ⟨rfl, w4, ⟨v, hA4⟩, m24, m3⟩
  clear Ht
  have b13 := hA4.pt.mv m3 (by omega)
  have b23 := hA4.ok.mv m3 (by omega)
  have hD3 := hA1.back hA4.dev m3
  have m13 := Lib.hid ((hM.trans2 m1).trans2 (m24.trans2 m3))
  have hs3 := m24.size
  have hs0 := hM.size
  have hs4 := m3.size
  have c1 : w3.cell? ⟨w1.heap.size, 0, none⟩ = some (.pointer (some ⟨G.d, 0, none⟩)) := (b13.cell 0).trans rfl
  have o1 : w3.cell? ⟨w1.heap.size + 1, 0, none⟩ = some (.bool true) := (b23.cell 0).trans rfl
  have hd3 := Lib.hid hD3
  have B13 := Lib.hid b13
  clear hA4 m24 m3 b13 b23 hA1 hD3 hM m1 b1 b2
  go_wp2_with fail
  refine (words_any w3 _ G 8 aw8 hd3.out.1).mono ?_
  rintro e w5 ⟨rfl, rfl⟩
  go_wp2_with fail
  refine (tellW 9 37 Try.f37 #[.pointer (some ⟨w1.heap.size, 0, none⟩)] w3 (fun _ => False) (fun _ => True) Try.func37 (by kernel_rfl) (by kernel_rfl) (fun _ e => e.elim)
    (fun v hv hs => (awake2 v _ G w1.heap.size aw8 (hd3.out.told hv hs).1 (B13.out.mv hv (fun e => e))).mono (by
      rintro e w' ⟨he, rfl⟩
      exact ⟨he, trivial, Mv.refl _ _⟩))).mono ?_
  rintro e w6 ⟨rfl, w7, -, m7, m8⟩
  have m78 := Lib.hid (m7.trans2 m8)
  clear m7 m8
  go_wp2_with fail
  go_ret
  exact ⟨by simp, (m13.out.trans2 m78.out).below (Nat.le_refl _) (fun b e => by
    rcases e with ((e | e) | (e | e) | e) | (e | e)
    · exact e.elim
    · exact e.elim
    · rcases e with rfl | rfl | rfl | rfl <;> assumption
    all_goals first | exact e.elim | omega)⟩
end Go.Proofs.Ytfiajonbekfcfaa
