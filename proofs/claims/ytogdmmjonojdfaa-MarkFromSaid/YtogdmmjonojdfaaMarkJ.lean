/- mark: slices.Sort on a row. -/
import Derived.Test.YtogdmmjonojdfaaMarkI
import Derived.Shelf.Sort.Plain
import Derived.Shelf.Slices.In.SortNone
import Derived.Sort.OwnSortedInts
import Derived.Ground.NamesProg
import Derived.Test.YtogdmmjonojdfaaMarkSh
namespace Go.Proofs.Ytogdmmjonojdfaa
open Go.RowKit
set_option linter.unusedVariables false
def sorted (l : List Nat) : List Nat := l.mergeSort (fun a b => decide (a ≤ b))
theorem sorted_perm (l : List Nat) : (sorted l).Perm l := List.mergeSort_perm l _
theorem sorted_le (l : List Nat) : (sorted l).Pairwise (· ≤ ·) := by
  have := List.pairwise_mergeSort (le := fun a b : Nat => decide (a ≤ b)) (by intro a b c; simp; omega) (by intro a b; simp; omega) l
  exact this.imp (by intro a b h; simpa using h)
theorem sorted_map (l : List Nat) : (l.map Int.ofNat).mergeSort (fun a b => decide (a ≤ b)) = (sorted l).map Int.ofNat :=
  (List.map_mergeSort (fun a _ b _ => by simp)).symm
theorem ints_map (l : List Nat) : Ints .i64 l = (l.map Int.ofNat).map (Value.int .i64) := by simp [Ints]
theorem sort_row (w : World) (A : Option Addr) (l : List Nat) (co : Nat) (hown : w.ownsRow 0 3 1 (.slice A l.length co) l.length (Ints .i64 l)) (hl : l.length < 1000000) :
    Calls Try.prog 24 #[.slice A l.length co] w fun e w' => e = .returned (.tuple #[]) ∧ w'.ownsRow 0 3 1 (.slice A l.length co) l.length (Ints .i64 (sorted l)) ∧ Mv (fun x => (Value.slice A l.length co).ownBlock = some x) w w' := by
  rcases hown.2 with ⟨h1, h2⟩ | ⟨g, cap, cur, e1, e2, e3, e4, e5, e6, e7⟩
  · have hn : l = [] := List.eq_nil_of_length_eq_zero h2
    subst hn
    cases h1
    exact (Any.slices_Sort_int_none Try.laysSort none 0 w).mono (by rintro e w' ⟨rfl, rfl⟩; exact ⟨rfl, ⟨by simp [sorted, Ints], .inl ⟨rfl, rfl⟩⟩, Mv.refl _ _⟩)
  · cases e1
    have hlen : (l.map Int.ofNat).length = l.length := by simp
    have hH := Go.holds_of_blockI (ss := l.map Int.ofNat) e3 (by rw [ints_map] at e7; simpa using e7)
    have hg : g < w.heap.size := by
      rcases Nat.lt_or_ge g w.heap.size with h | h
      · exact h
      · rw [Array.getElem?_eq_none (by omega)] at e3; cases e3
    have hc := Any.slices_Sort_int Try.laysSort g 0 co (l.map Int.ofNat) w hH hg (by rw [hlen]; omega)
    rw [hlen] at hc
    refine hc.mono ?_
    rintro e w' ⟨rfl, n, os, rfl⟩
    refine ⟨rfl, ?_, (Mv.refl _ w).grown (Go.grownBy_sortedI _) (fun g0 e _ => e)⟩
    have := Go.ownsRow_sortedI (ss := l.map Int.ofNat) (ts := (l.map Int.ofNat).mergeSort (fun a b => decide (a ≤ b))) (os := os) (n := n) (base := 0) (by simp) (Nat.zero_le _) e3 (by rw [hlen]; exact e4) e5 e6
    rw [sorted_map, hlen, ← ints_map] at this
    rw [sorted_map]
    exact this
end Go.Proofs.Ytogdmmjonojdfaa
