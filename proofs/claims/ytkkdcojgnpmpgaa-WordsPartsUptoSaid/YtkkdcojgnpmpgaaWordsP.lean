/- Plain facts on bytes packed into words of eight. -/
import Derived.Test.YtkkdcojgnpmpgaaMem
namespace Go.Proofs.Ytkkdcojgnpmpgaa
open Go.RowKit
set_option linter.unusedVariables false

def pkw (l : List Nat) : Nat → Nat → Nat
  | 0, _ => 0
  | k + 1, j => if k / 8 = j then pkw l k j + l.getD k 0 * 2 ^ (8 * (k % 8)) else pkw l k j
def pkList (l : List Nat) (k m : Nat) : List Nat := l.length :: (List.range m).map (pkw l k)
def pkArr (l : List Nat) (k m : Nat) : Array Value := (Ints .u64 (pkList l k m)).toArray
/-- The words of all bytes. -/
def packed (l : List Nat) : List Nat := pkList l l.length ((l.length + 7) / 8)

theorem pkw_lt (l : List Nat) (hb : ∀ i, l.getD i 0 < 256) : ∀ k j, pkw l k j < 2 ^ (8 * (min (k - 8 * j) 8)) := by
  intro k
  induction k with
  | zero => intro j; simp [pkw]
  | succ k ih =>
    intro j
    have h := ih j
    unfold pkw
    by_cases hj : k / 8 = j
    · rw [if_pos hj]
      have e1 : min (k - 8 * j) 8 = k % 8 := by omega
      have e2 : min (k + 1 - 8 * j) 8 = k % 8 + 1 := by omega
      rw [e1] at h
      rw [e2, Nat.mul_add, Nat.pow_add]
      have hc := hb k
      have : l.getD k 0 * 2 ^ (8 * (k % 8)) ≤ 255 * 2 ^ (8 * (k % 8)) := Nat.mul_le_mul_right _ (by omega)
      omega
    · rw [if_neg hj]
      have e : min (k + 1 - 8 * j) 8 = min (k - 8 * j) 8 := by omega
      rw [e]
      exact h
theorem pkw_u64 (l : List Nat) (hb : ∀ i, l.getD i 0 < 256) (k j : Nat) : pkw l k j < 18446744073709551616 := by
  refine Nat.lt_of_lt_of_le (pkw_lt l hb k j) ?_
  have : (18446744073709551616 : Nat) = 2 ^ 64 := by decide
  rw [this]
  exact Nat.pow_le_pow_right (by decide) (by omega)
theorem pkList_length (l : List Nat) (k m : Nat) : (pkList l k m).length = m + 1 := by simp [pkList]
theorem pkList_zero (l : List Nat) (k m : Nat) : (pkList l k m).getD 0 0 = l.length := by simp [pkList]
theorem pkList_succ (l : List Nat) (k m j : Nat) (h : j < m) : (pkList l k m).getD (1 + j) 0 = pkw l k j := by
  rw [Nat.add_comm]
  simp [pkList, List.getD, h]
theorem pkList_set (l : List Nat) (k m : Nat) (h : k / 8 < m) : (pkList l k m).set (1 + k / 8) (pkw l (k + 1) (k / 8)) = pkList l (k + 1) m := by
  unfold pkList
  rw [Nat.add_comm 1, List.set_cons_succ]
  congr 1
  apply List.ext_getElem
  · simp
  · intro i h1 h2
    simp only [List.getElem_set, List.getElem_map, List.getElem_range]
    by_cases hi : k / 8 = i
    · rw [if_pos hi, hi]
    · rw [if_neg hi]
      conv => rhs; unfold pkw
      rw [if_neg hi]
theorem Ints_set (k : IntKind) (l : List Nat) (j v : Nat) : (Ints k l).toArray.setIfInBounds j (.int k (v : Int)) = (Ints k (l.set j v)).toArray := by
  apply Array.ext'
  simp [Ints, List.map_set]
theorem pkArr_set (l : List Nat) (k m : Nat) (h : k / 8 < m) : (pkArr l k m).setIfInBounds (1 + k / 8) (.int .u64 ((pkw l (k + 1) (k / 8) : Nat) : Int)) = pkArr l (k + 1) m := by
  unfold pkArr
  rw [Ints_set, pkList_set l k m h]
theorem pkArr_start (l : List Nat) (m : Nat) : (madeCells #[.int .u64 0] (m + 1)).setIfInBounds 0 (.int .u64 ((l.length : Nat) : Int)) = pkArr l 0 m := by
  apply Array.ext'
  rw [Array.toList_setIfInBounds, toList_madeCells_one, List.replicate_succ, List.set_cons_zero]
  simp only [pkArr, pkList, Ints, List.map_cons, List.map_map]
  congr 1
  apply List.ext_getElem
  · simp
  · intro i h1 h2
    simp [pkw]
theorem or_shift (x c s : Nat) (hx : x < 2 ^ s) : x ||| c * 2 ^ s = x + c * 2 ^ s := by
  rw [Nat.or_comm, Nat.add_comm]
  exact nat_join s (c * 2 ^ s) x (Nat.mul_mod_left _ _) hx
theorem pkw_step (l : List Nat) (hb : ∀ i, l.getD i 0 < 256) (k : Nat) : pkw l k (k / 8) ||| l.getD k 0 * 2 ^ (8 * (k % 8)) = pkw l (k + 1) (k / 8) := by
  have h := pkw_lt l hb k (k / 8)
  have e1 : min (k - 8 * (k / 8)) 8 = k % 8 := by omega
  rw [e1] at h
  rw [or_shift _ _ _ h]
  conv => rhs; unfold pkw
  rw [if_pos rfl]
theorem byte_shift_lt (c s : Nat) (hc : c < 256) (hs : s < 8) : c * 2 ^ (8 * s) < 18446744073709551616 := by
  have h1 : (2 : Nat) ^ (8 * s) ≤ 2 ^ 56 := Nat.pow_le_pow_right (by decide) (by omega)
  have h2 : c * 2 ^ (8 * s) ≤ 255 * 2 ^ 56 := Nat.mul_le_mul (by omega) h1
  omega
end Go.Proofs.Ytkkdcojgnpmpgaa
