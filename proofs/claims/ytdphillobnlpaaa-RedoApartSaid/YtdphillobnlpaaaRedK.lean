/- redo: steps of a device, run until a fuse burns; the log's small methods. -/
import Derived.Test.YtdphillobnlpaaaRedJ
namespace Go.Proofs.Ytdphillobnlpaaa
open Go.RowKit
set_option linter.unusedVariables false
inductive St
  | store (i : Nat) (v : Int)
  | flush (i : Nat)
  | fence
def St.on : St → DS → DS
  | .store i v, s => s.store i v
  | .flush i, s => s.flush (8 * (i / 8))
  | .fence, s => s.fence
/-- Steps, one behind the other, until the fuse burns: what the device is then, and whether all were done. -/
def runS : List St → DS → DS × Bool
  | [], s => (s, true)
  | x :: xs, s => if s.fuse = 0 then (s.kill, false) else runS xs (x.on s)
theorem St.on_dead (x : St) (s : DS) : (x.on s).dead = s.dead := by cases x <;> rfl
theorem St.on_steps (x : St) (s : DS) : (x.on s).steps = s.steps + 1 := by cases x <;> rfl
theorem St.on_fuse (x : St) (s : DS) : (x.on s).fuse = max (s.fuse - 1) (-1) := by cases x <;> rfl
theorem runS_burn {x : St} {xs : List St} {s : DS} (h : s.fuse = 0) : runS (x :: xs) s = (s.kill, false) := by simp [runS, h]
theorem runS_go {x : St} {xs : List St} {s : DS} (h : s.fuse ≠ 0) : runS (x :: xs) s = runS xs (x.on s) := by simp [runS, h]
theorem runS_append : ∀ (a b : List St) (s : DS), runS (a ++ b) s = if (runS a s).2 = true then runS b (runS a s).1 else runS a s
  | [], b, s => by simp [runS]
  | x :: a, b, s => by
    by_cases h : s.fuse = 0
    · simp [runS, h]
    · simp only [List.cons_append, runS_go h]
      exact runS_append a b _
theorem runS_dead : ∀ (a : List St) (s : DS), (runS a s).2 = true → (runS a s).1.dead = s.dead
  | [], s, _ => rfl
  | x :: a, s, h => by
    by_cases hf : s.fuse = 0
    · rw [runS_burn hf] at h; cases h
    · rw [runS_go hf] at h ⊢
      rw [runS_dead a _ h, St.on_dead]
theorem runS_steps : ∀ (a : List St) (s : DS), (runS a s).1.steps ≤ s.steps + a.length
  | [], s => by simp [runS]
  | x :: a, s => by
    by_cases hf : s.fuse = 0
    · rw [runS_burn hf]
      show s.steps ≤ _
      simp
      omega
    · rw [runS_go hf]
      have := runS_steps a (x.on s)
      rw [St.on_steps] at this
      simp
      omega
theorem runS_free : ∀ (a : List St) (s : DS), s.fuse = -1 → (runS a s).2 = true ∧ (runS a s).1.fuse = -1
  | [], s, h => ⟨rfl, h⟩
  | x :: a, s, h => by
    rw [runS_go (by rw [h]; decide)]
    exact runS_free a _ (by rw [St.on_fuse, h]; decide)
/-- A call that runs steps: it hands v back if all were done, else it ends in the loss of power. -/
def RP (A : Nat → Prop) (G : Dv) (n : Nat) (r : DS × Bool) (v : Value) (w : World) (e : Ending) (w' : World) : Prop :=
  (r.2 = true ∧ e = .returned v ∨ r.2 = false ∧ Panics lostV e) ∧ DevA w' A G n r.1
section
variable (w : World) (A : Nat → Prop) (G : Dv) (n : Nat) (s : DS)
theorem storeR (i : Nat) (v : Int) (h : DevA w A G n s) (hd : s.dead = false) (hs : s.steps < 1000000000) (hi : i < n) :
    Calls Try.prog 10 #[.pointer (some ⟨G.d, 0, none⟩), .int .i64 (i : Int), .int .u64 v] w fun e w' => RP A G n (runS [.store i v] s) (.tuple #[]) w e w' ∧ Mv G.own w w' := by
  by_cases hf : s.fuse = 0
  · refine (store_lost w A G n s (i : Int) v h.1 (by omega) (.inr hf)).mono ?_
    rintro e w' ⟨he, hD, hm⟩
    rw [runS_burn hf]
    exact ⟨⟨.inr ⟨rfl, he⟩, h.to hD hm⟩, hm⟩
  · refine (store_ok w A G n s (i : Int) v h.1 (by omega) hd hf hs).mono ?_
    rintro e w' ⟨rfl, hD, hm⟩
    rw [runS_go hf]
    exact ⟨⟨.inl ⟨rfl, rfl⟩, h.to hD hm⟩, hm⟩
theorem flushR (i : Nat) (h : DevA w A G n s) (hd : s.dead = false) (hs : s.steps < 1000000000) (hi : i < n) :
    Calls Try.prog 11 #[.pointer (some ⟨G.d, 0, none⟩), .int .i64 (i : Int)] w fun e w' => RP A G n (runS [.flush i] s) (.tuple #[]) w e w' ∧ Mv G.own w w' := by
  by_cases hf : s.fuse = 0
  · refine (flush_lost w A G n s (i : Int) h.1 (by omega) (.inr hf)).mono ?_
    rintro e w' ⟨he, hD, hm⟩
    rw [runS_burn hf]
    exact ⟨⟨.inr ⟨rfl, he⟩, h.to hD hm⟩, hm⟩
  · refine (flush_ok w A G n s i h.1 h.2 hi hd hf hs).mono ?_
    rintro e w' ⟨rfl, hD, hm⟩
    rw [runS_go hf]
    exact ⟨⟨.inl ⟨rfl, rfl⟩, h.to hD hm⟩, hm⟩
theorem fenceR (h : DevA w A G n s) (hd : s.dead = false) (hs : s.steps < 1000000000) :
    Calls Try.prog 12 #[.pointer (some ⟨G.d, 0, none⟩)] w fun e w' => RP A G n (runS [.fence] s) (.tuple #[]) w e w' ∧ Mv G.own w w' := by
  by_cases hf : s.fuse = 0
  · refine (fence_lost w A G n s h.1 (.inr hf)).mono ?_
    rintro e w' ⟨he, hD, hm⟩
    rw [runS_burn hf]
    exact ⟨⟨.inr ⟨rfl, he⟩, h.to hD hm⟩, hm⟩
  · refine (fence_ok w A G n s h.1 h.2 hd hf hs).mono ?_
    rintro e w' ⟨rfl, hD, hm⟩
    rw [runS_go hf]
    exact ⟨⟨.inl ⟨rfl, rfl⟩, h.to hD hm⟩, hm⟩
end
/-- A log: where it lies, what it holds. -/
def Lg (w : World) (b : Nat) (G : Dv) (at_ words : Nat) : Prop := Blk w b 64 #[.pointer (some ⟨G.d, 0, none⟩), .int .i64 (at_ : Int), .int .i64 (words : Int)]
section
variable {w : World} {b : Nat} {G : Dv} {at_ words : Nat}
theorem Lg.c0 (h : Lg w b G at_ words) : w.cell? ⟨b, 0, none⟩ = some (.pointer (some ⟨G.d, 0, none⟩)) := (Blk.cell h 0).trans rfl
theorem Lg.c1 (h : Lg w b G at_ words) : w.cell? ⟨b, 1, none⟩ = some (.int .i64 (at_ : Int)) := (Blk.cell h 1).trans rfl
theorem Lg.c2 (h : Lg w b G at_ words) : w.cell? ⟨b, 2, none⟩ = some (.int .i64 (words : Int)) := (Blk.cell h 2).trans rfl
theorem Lg.drewN (h : Lg w b G at_ words) (m : Nat) : Lg (w.drewN m) b G at_ words := h
theorem most_any (h : Lg w b G at_ words) (hw : 16 ≤ words ∧ words ≤ 65536) :
    Calls Try.prog 22 #[.pointer (some ⟨b, 0, none⟩)] w fun e w' => e = .returned (.int .i64 (((words - 16) / 2 : Nat) : Int)) ∧ w' = w := by
  have c2 := h.c2
  have e1 : IntKind.i64.wrap ((words : Int) - 16) = ((words - 16 : Nat) : Int) := by rw [IntWalk.i64_in _ (by omega)]; omega
  have hb : words - 16 < 100000 := by omega
  clear h
  generalize words - 16 = x at e1 hb ⊢
  go_enter Try.func22, Try.ntmps22
  go_wp2_with fail
  go_ret
  exact ⟨by simp, rfl⟩
theorem place_any (i : Nat) (h : Lg w b G at_ words) (hw : at_ ≤ 65536) (hi : i ≤ 65536) :
    Calls Try.prog 40 #[.pointer (some ⟨b, 0, none⟩), .int .i64 (i : Int)] w fun e w' => e = .returned (.int .i64 ((at_ + 8 + 2 * i : Nat) : Int)) ∧ w' = w := by
  have c1 := h.c1
  obtain ⟨x, hx⟩ : ∃ x, x = at_ + 8 := ⟨_, rfl⟩
  obtain ⟨y, hy⟩ : ∃ y, y = 2 * i := ⟨_, rfl⟩
  obtain ⟨z, hz⟩ : ∃ z, z = x + y := ⟨_, rfl⟩
  have e1 : IntKind.i64.wrap ((at_ : Int) + 8) = (x : Int) := by rw [IntWalk.i64_in _ (by omega)]; omega
  have e2 : IntKind.i64.wrap (2 * (i : Int)) = (y : Int) := by rw [IntWalk.i64_in _ (by omega)]; omega
  have e3 : IntKind.i64.wrap ((x : Int) + (y : Int)) = (z : Int) := by rw [IntWalk.i64_in _ (by omega)]; omega
  rw [show at_ + 8 + 2 * i = z by omega]
  clear h hx hy hz
  go_enter Try.func40, Try.ntmps40
  go_wp2_with fail
  go_ret
  exact ⟨by simp, rfl⟩
def ownB (at_ words : Nat) (i : Int) : Bool := decide ((at_ : Int) ≤ i ∧ i < (at_ + words : Nat))
theorem own_any (i : Int) (h : Lg w b G at_ words) (hw : at_ ≤ 65536 ∧ words ≤ 65536) :
    Calls Try.prog 38 #[.pointer (some ⟨b, 0, none⟩), .int .i64 i] w fun e w' => e = .returned (.bool (ownB at_ words i)) ∧ ∃ q, w' = w.drewN q := by
  have c0 := fun m => (h.drewN m).c0
  have c1 := fun m => (h.drewN m).c1
  have c2 := fun m => (h.drewN m).c2
  obtain ⟨z, hz⟩ : ∃ z, z = at_ + words := ⟨_, rfl⟩
  have e3 : IntKind.i64.wrap ((at_ : Int) + (words : Int)) = (z : Int) := by rw [IntWalk.i64_in _ (by omega)]; omega
  unfold ownB
  rw [← hz]
  clear h hz
  by_cases h1 : (at_ : Int) ≤ i
  · have b1 : decide (i ≥ (at_ : Int)) = true := by simp; omega
    have b2 : decide ((at_ : Int) ≤ i) = true := by simp; omega
    by_cases h2 : i < (z : Int)
    · have b3 : decide (i < (z : Int)) = true := by simp; omega
      have Hr := Lib.hid (show decide ((at_ : Int) ≤ i ∧ i < (z : Int)) = true by simp; omega)
      clear h1 h2
      go_enter Try.func38, Try.ntmps38
      go_wp2_with fail
      go_quiet (fail)
      go_wp2_with fail
      go_ret
      exact ⟨by rw [Hr.out]; simp, nq, rfl⟩
    · have b3 : decide (i < (z : Int)) = false := by simp; omega
      have Hr := Lib.hid (show decide ((at_ : Int) ≤ i ∧ i < (z : Int)) = false by simp; omega)
      clear h1 h2
      go_enter Try.func38, Try.ntmps38
      go_wp2_with fail
      go_quiet (fail)
      go_wp2_with fail
      go_ret
      exact ⟨by rw [Hr.out]; simp, nq, rfl⟩
  · have b1 : decide (i ≥ (at_ : Int)) = false := by simp; omega
    have b2 : decide ((at_ : Int) ≤ i) = false := by simp; omega
    have Hr := Lib.hid (show decide ((at_ : Int) ≤ i ∧ i < (z : Int)) = false by simp; omega)
    clear h1
    go_enter Try.func38, Try.ntmps38
    go_wp2_with fail
    go_quiet (fail)
    go_wp2_with fail
    go_ret
    exact ⟨by rw [Hr.out]; simp, nq, rfl⟩
end
end Go.Proofs.Ytdphillobnlpaaa
