/- mark: MarkParts' walk. -/
import Derived.Test.YtogdmmjonojdfaaMarkN
namespace Go.Proofs.Ytogdmmjonojdfaa
open Go.RowKit
set_option linter.unusedVariables false
/-- The places that hold true, of the first k. -/
def idx (bs : List Bool) (k : Nat) : List Int := ((List.range k).filter fun i => bs.getD i false).map Int.ofNat
theorem idx_succ (bs : List Bool) (k : Nat) : idx bs (k + 1) = idx bs k ++ if bs.getD k false = true then [(k : Int)] else [] := by
  unfold idx
  rw [List.range_succ, List.filter_append, List.map_append]
  congr 1
  generalize hg : bs.getD k false = b
  cases b <;> simp only [List.filter_cons, hg, List.filter_nil] <;> simp
theorem idx_mem {bs : List Bool} {k : Nat} {z : Int} (h : z ∈ idx bs k) : 0 ≤ z ∧ z < k := by
  obtain ⟨i, hi, rfl⟩ := List.mem_map.1 h
  have := (List.mem_filter.1 hi).1
  simp at this
  simp
  omega
theorem idx_rise (bs : List Bool) (k : Nat) : (idx bs k).Pairwise (· < ·) := by
  induction k with
  | zero => simp [idx]
  | succ k ih =>
    rw [idx_succ, List.pairwise_append]
    refine ⟨ih, by split <;> simp, fun a ha b hb => ?_⟩
    have := idx_mem ha
    split at hb
    · simp at hb; omega
    · cases hb
theorem idx_len (bs : List Bool) (k : Nat) : (idx bs k).length ≤ k := by
  unfold idx
  rw [List.length_map]
  have := List.length_filter_le (fun i => bs.getD i false) (List.range k)
  simpa using this
theorem filter_nin_cons {x : Int} {xs ys : List Int} (h : ∀ y ∈ ys, x < y) : ys.filter (fun z => decide (z ∉ x :: xs)) = ys.filter (fun z => decide (z ∉ xs)) := by
  apply List.filter_congr
  intro z hz
  have := h z hz
  have h1 : z ≠ x := by omega
  simp [h1]
theorem filter_all {xs : List Int} {p : Int → Bool} (h : ∀ z ∈ xs, p z = true) : xs.filter p = xs := List.filter_eq_self.2 h
theorem split_rise : ∀ (N : Nat) (xs ys : List Int), xs.length + ys.length ≤ N → xs.Pairwise (· < ·) → ys.Pairwise (· < ·) → splitL xs ys = (xs.filter (fun z => decide (z ∉ ys)), ys.filter (fun z => decide (z ∉ xs))) := by
  intro N
  induction N with
  | zero =>
    intro xs ys h _ _
    have h1 : xs = [] := List.eq_nil_of_length_eq_zero (by omega)
    have h2 : ys = [] := List.eq_nil_of_length_eq_zero (by omega)
    subst h1; subst h2
    rw [splitL_nil]; rfl
  | succ N ih =>
    intro xs ys h hx hy
    cases xs with
    | nil => rw [splitL_nil, filter_all (xs := ys) (by simp)]; rfl
    | cons x xs =>
      cases ys with
      | nil => rw [splitL_nil2, filter_all (xs := x :: xs) (by simp)]; rfl
      | cons y ys =>
        have hx1 := List.pairwise_cons.1 hx
        have hy1 := List.pairwise_cons.1 hy
        simp at h
        by_cases e : x = y
        · subst e
          rw [splitL_eq, ih xs ys (by omega) hx1.2 hy1.2]
          have e1 : (x :: xs).filter (fun z => decide (z ∉ x :: ys)) = xs.filter (fun z => decide (z ∉ x :: ys)) := by simp
          have e2 : (x :: ys).filter (fun z => decide (z ∉ x :: xs)) = ys.filter (fun z => decide (z ∉ x :: xs)) := by simp
          rw [e1, e2, filter_nin_cons hx1.1, filter_nin_cons hy1.1]
        · by_cases hlt : x < y
          · rw [splitL_lt _ _ hlt, ih xs (y :: ys) (by simp; omega) hx1.2 hy]
            have hall : ∀ z ∈ y :: ys, x < z := fun z hz => by
              rcases List.mem_cons.1 hz with h1 | h1
              · omega
              · have := hy1.1 z h1; omega
            have e1 : (x :: xs).filter (fun z => decide (z ∉ y :: ys)) = x :: xs.filter (fun z => decide (z ∉ y :: ys)) := by
              rw [List.filter_cons, if_pos (by simp; exact ⟨e, fun h => by have := hy1.1 x h; omega⟩)]
            rw [e1, filter_nin_cons (x := x) (xs := xs) hall]
          · have hgt : y < x := by omega
            rw [splitL_gt _ _ hgt, ih (x :: xs) ys (by simp; omega) hx hy1.2]
            have hall : ∀ z ∈ x :: xs, y < z := fun z hz => by
              rcases List.mem_cons.1 hz with h1 | h1
              · omega
              · have := hx1.1 z h1; omega
            have e1 : (y :: ys).filter (fun z => decide (z ∉ x :: xs)) = y :: ys.filter (fun z => decide (z ∉ x :: xs)) := by
              rw [List.filter_cons, if_pos (by simp; exact ⟨fun h => e h.symm, fun h => by have := hx1.1 y h; omega⟩)]
            rw [e1, filter_nin_cons (x := y) (xs := ys) hall]
end Go.Proofs.Ytogdmmjonojdfaa
