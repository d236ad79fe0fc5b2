/- redo: Open. -/
import Derived.Test.YtdphillobnlpaaaRedN
namespace Go.Proofs.Ytdphillobnlpaaa
open Go.RowKit
set_option linter.unusedVariables false
def OpenPost (A : Nat → Prop) (G : Dv) (n at_ words : Nat) (s : DS) (w : World) (e : Ending) (w' : World) : Prop :=
  ((runS (homeL s.now n at_ words) s).2 = true ∧ (∃ lg, w.heap.size ≤ lg ∧ e = .returned (.tuple #[.pointer (some ⟨lg, 0, none⟩), .int .i64 0]) ∧ Lg w' lg G at_ words) ∨ (runS (homeL s.now n at_ words) s).2 = false ∧ Panics lostV e) ∧ DevA w' A G n (runS (homeL s.now n at_ words) s).1 ∧ Mv G.own w w'
set_option maxRecDepth 100000 in
set_option maxHeartbeats 4000000 in
theorem open_any (w : World) (A : Nat → Prop) (G : Dv) (n : Nat) (s : DS) (at_ words : Nat) (hD : DevA w A G n s) (hd : s.dead = false) (hw : 16 ≤ words ∧ at_ + words ≤ n ∧ at_ % 8 = 0) (hv : ∀ j, j < n → 0 ≤ s.now j ∧ s.now j < 18446744073709551616) (hs : s.steps < 700000000) :
    Calls Try.prog 21 #[.pointer (some ⟨G.d, 0, none⟩), .int .i64 (at_ : Int), .int .i64 (words : Int)] w (OpenPost A G n at_ words s w) := by
  have hn6 : n ≤ 65536 := hD.1.2.2.2.2.2.1.2.1
  obtain ⟨hw1, hw2, hw3⟩ := hw
  have HW := Lib.hid (words_any w A G n s hD.1)
  have hm8 : (at_ : Int).tmod 8 = 0 := by rw [Int.tmod_eq_emod_of_nonneg (by omega)]; omega
  have hsub : IntKind.i64.wrap ((n : Int) - (words : Int)) = ((n - words : Nat) : Int) := by rw [IntWalk.i64_in _ (by omega)]; omega
  have hle : at_ ≤ n - words := by omega
  have hlo : ¬ G.own w.heap.size := fun e => Nat.lt_irrefl _ (hD.own_lt2 _ e)
  have Hlo := Lib.hid hlo
  have hl : Lg (w.alloc (.cells #[.pointer (some ⟨G.d, 0, none⟩), .int .i64 (at_ : Int), .int .i64 (words : Int)] 64)) w.heap.size G at_ words := blk_new w _ _ rfl
  have Hl := Lib.hid hl
  have hh := Lib.hid (home_any (w.alloc (.cells #[.pointer (some ⟨G.d, 0, none⟩), .int .i64 (at_ : Int), .int .i64 (words : Int)] 64)) A G n s w.heap.size at_ words (hD.keep (S := fun _ => False) ((Mv.refl _ w).alloc _) (fun _ e => e.elim) (fun _ _ e => e)) hd hl hlo ⟨hw1, hw2⟩ hv hs)
  clear hD hd hv hs hlo hl
  generalize n - words = nw at hsub hle
  go_enter Try.func21, Try.ntmps21
  go_wp2_with (first
    | (go_at_call 37; refine HW.out.mono ?_; rintro e w1 ⟨rfl, rfl⟩)
    | fail)
  refine hh.out.mono ?_
  rintro e w4 ⟨⟨h3, h4⟩, h5⟩
  have H4 := Lib.hid h4
  have Hl4 := Lib.hid (Blk.mv Hl.out h5 Hlo.out)
  have M4 := Lib.hid (((Mv.refl G.own w).alloc _).trans h5)
  clear h4 h5 hh
  rcases h3 with ⟨hr, rfl⟩ | ⟨hr, hp⟩
  · have Hr := Lib.hid hr
    clear hr
    go_wp2_with fail
    go_ret2
    exact ⟨.inl ⟨Hr.out, w.heap.size, Nat.le_refl _, by simp, Hl4.out⟩, H4.out, M4.out⟩
  · unfold Panics at hp
    subst hp
    have Hr := Lib.hid hr
    clear hr
    go_wp2_with fail
    simp only [bodyPost]
    exact ⟨trivial, .inr ⟨Hr.out, rfl⟩, H4.out, M4.out⟩
end Go.Proofs.Ytdphillobnlpaaa
