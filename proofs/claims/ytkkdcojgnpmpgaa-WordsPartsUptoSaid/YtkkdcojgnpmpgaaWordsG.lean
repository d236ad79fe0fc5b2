/- Plain facts for WordsCut and WordsParts: numbers by sevens read, parts counted. -/
import Derived.Test.YtkkdcojgnpmpgaaWordsF
namespace Go.Proofs.Ytkkdcojgnpmpgaa
open Go.RowKit
set_option linter.unusedVariables false
/-- The number that bytes begin with: the number, how many bytes, what is wrong. -/
def vrN : Nat → Nat → List Nat → Nat × Nat × Nat
  | _, _, [] => (0, 0, 4)
  | i, x, c :: l => if i = 9 ∧ 1 < c then (0, 0, 5) else if 128 ≤ c then vrN (i + 1) (x + c % 128 * 2 ^ (7 * i)) l else if c = 0 ∧ 0 < i then (0, 0, 3) else (x + c % 128 * 2 ^ (7 * i), i + 1, 0)
def vr (l : List Nat) : Nat × Nat × Nat := vrN 0 0 l
theorem vr_uvl : ∀ (f j x y : Nat) (r : List Nat), j + f = 9 → y < 2 ^ (64 - 7 * j) → (j = 0 ∨ 0 < y) → vrN j x (uvl f y ++ r) = (x + y * 2 ^ (7 * j), j + (uvl f y).length, 0)
  | 0, j, x, y, r, hj, hy, h0 => by
    have hj9 : j = 9 := by omega
    subst hj9
    have hy2 : y < 2 := by simpa using hy
    have hy1 : 0 < y := by rcases h0 with h | h <;> omega
    have hy3 : y = 1 := by omega
    subst hy3
    simp [uvl, vrN]
  | f + 1, j, x, y, r, hj, hy, h0 => by
    have hj8 : ¬ j = 9 := by omega
    unfold uvl
    by_cases h : y < 128
    · rw [if_pos h]
      show vrN j x (y :: r) = _
      unfold vrN
      rw [if_neg (by omega), if_neg (by omega), if_neg (by omega)]
      rw [Nat.mod_eq_of_lt h]
      rfl
    · rw [if_neg h]
      have ih := vr_uvl f (j + 1) (x + (y % 128 + 128) % 128 * 2 ^ (7 * j)) (y / 128) r (by omega) (uv_less y j hy) (.inr (by omega))
      show vrN j x ((y % 128 + 128) :: (uvl f (y / 128) ++ r)) = _
      unfold vrN
      rw [if_neg (by omega), if_pos (by omega), ih]
      have e1 : (y % 128 + 128) % 128 = y % 128 := by omega
      have e2 : 2 ^ (7 * (j + 1)) = 128 * 2 ^ (7 * j) := by rw [Nat.mul_add, Nat.pow_add, Nat.mul_comm]
      have e3 : y % 128 * 2 ^ (7 * j) + y / 128 * (128 * 2 ^ (7 * j)) = y * 2 ^ (7 * j) := by
        rw [← Nat.mul_assoc, ← Nat.add_mul]
        congr 1
        omega
      rw [e1, e2]
      simp only [List.length_cons, Prod.mk.injEq, and_true]
      exact ⟨by omega, by omega⟩
theorem vr_uv (y : Nat) (r : List Nat) (hy : y < 18446744073709551616) : vr (uv y ++ r) = (y, (uv y).length, 0) := by
  have := vr_uvl 9 0 0 y r (by omega) (by simpa using hy) (.inl rfl)
  unfold vr uv
  rw [this]
  simp
theorem vr_short : ∀ (f j x y k : Nat), j + f = 9 → k < (uvl f y).length → (vrN j x ((uvl f y).take k)).2.2 = 4
  | 0, j, x, y, k, hj, hk => by
    have hk0 : k = 0 := by simp [uvl] at hk; omega
    subst hk0
    rfl
  | f + 1, j, x, y, k, hj, hk => by
    unfold uvl at hk ⊢
    by_cases h : y < 128
    · rw [if_pos h] at hk ⊢
      have hk0 : k = 0 := by simp at hk; omega
      subst hk0
      rfl
    · rw [if_neg h] at hk ⊢
      cases k with
      | zero => rfl
      | succ k =>
        have ih := vr_short f (j + 1) (x + (y % 128 + 128) % 128 * 2 ^ (7 * j)) (y / 128) k (by omega) (by simp at hk; exact hk)
        show (vrN j x ((y % 128 + 128) :: (uvl f (y / 128)).take k)).2.2 = 4
        unfold vrN
        rw [if_neg (by omega), if_pos (by omega)]
        exact ih
theorem vrN_used : ∀ (l : List Nat) (i x : Nat), (vrN i x l).2.2 = 0 → i < (vrN i x l).2.1 ∧ (vrN i x l).2.1 ≤ i + l.length
  | [], i, x, h => by cases h
  | c :: l, i, x, h => by
    unfold vrN at h ⊢
    split at h
    · cases h
    · rename_i h1
      rw [if_neg h1]
      split at h
      · rename_i h2
        rw [if_pos h2]
        have ih := vrN_used l _ _ h
        simp only [List.length_cons]
        exact ⟨by omega, by omega⟩
      · rename_i h2
        rw [if_neg h2]
        split at h
        · cases h
        · rename_i h3
          rw [if_neg h3]
          simp only [List.length_cons]
          exact ⟨by omega, by omega⟩
theorem vr_used {l : List Nat} (h : (vr l).2.2 = 0) : 1 ≤ (vr l).2.1 ∧ (vr l).2.1 ≤ l.length := by
  have := vrN_used l 0 0 h
  unfold vr
  omega
/-- The parts: what is wrong, and how many (none, if anything is). -/
def splN : Nat → Nat → List Nat → Nat × Nat
  | 0, _, _ => (4, 0)
  | f + 1, m, l => if l.length = 0 then (0, m) else if (vr l).2.2 ≠ 0 then ((vr l).2.2, 0) else if (l.drop (vr l).2.1).length < (vr l).1 then (4, 0) else splN f (m + 1) ((l.drop (vr l).2.1).drop (vr l).1)
def spl (m : Nat) (l : List Nat) : Nat × Nat := splN (l.length + 1) m l
theorem splN_fuel : ∀ (f g m : Nat) (l : List Nat), l.length < f → l.length < g → splN f m l = splN g m l
  | 0, _, _, l, h, _ => by omega
  | _, 0, _, l, _, h => by omega
  | f + 1, g + 1, m, l, hf, hg => by
    unfold splN
    by_cases h0 : l.length = 0
    · rw [if_pos h0, if_pos h0]
    · rw [if_neg h0, if_neg h0]
      by_cases h1 : (vr l).2.2 ≠ 0
      · rw [if_pos h1, if_pos h1]
      · rw [if_neg h1, if_neg h1]
        by_cases h2 : (l.drop (vr l).2.1).length < (vr l).1
        · rw [if_pos h2, if_pos h2]
        · rw [if_neg h2, if_neg h2]
          have := vr_used (l := l) (by omega)
          exact splN_fuel f g (m + 1) _ (by simp only [List.length_drop]; omega) (by simp only [List.length_drop]; omega)
theorem spl_nil (m : Nat) : spl m [] = (0, m) := rfl
theorem spl_bad {m : Nat} {l : List Nat} (h0 : l.length ≠ 0) (h : (vr l).2.2 ≠ 0) : spl m l = ((vr l).2.2, 0) := by
  unfold spl splN
  rw [if_neg h0, if_pos h]
theorem spl_torn {m : Nat} {l : List Nat} (h0 : l.length ≠ 0) (h : (vr l).2.2 = 0) (h2 : (l.drop (vr l).2.1).length < (vr l).1) : spl m l = (4, 0) := by
  unfold spl splN
  rw [if_neg h0, if_neg (by omega), if_pos h2]
theorem spl_go {m : Nat} {l : List Nat} (h0 : l.length ≠ 0) (h : (vr l).2.2 = 0) (h2 : ¬ (l.drop (vr l).2.1).length < (vr l).1) : spl m l = spl (m + 1) ((l.drop (vr l).2.1).drop (vr l).1) := by
  have hu := vr_used h
  unfold spl
  conv => lhs; unfold splN
  rw [if_neg h0, if_neg (by omega), if_neg h2]
  exact splN_fuel _ _ _ _ (by simp only [List.length_drop]; omega) (by omega)
/-- Parts joined. -/
def joinL : List (List Nat) → List Nat
  | [] => []
  | p :: ps => uv p.length ++ p ++ joinL ps
theorem uv_pos (x : Nat) : 1 ≤ (uv x).length := by unfold uv uvl; split <;> simp
/-- What is cut short holds fewer parts, or is refused. -/
theorem cut_lt : ∀ (ps : List (List Nat)) (k m : Nat), (∀ p ∈ ps, p.length < 18446744073709551616) → k < (joinL ps).length →
    (spl m ((joinL ps).take k)).2 = 0 ∨ ((spl m ((joinL ps).take k)).2 < m + ps.length)
  | [], k, m, _, h => by simp [joinL] at h
  | p :: ps, k, m, hp, h => by
    have hpl := hp p (by simp)
    by_cases h1 : k < (uv p.length).length
    · have e : (joinL (p :: ps)).take k = (uv p.length).take k := by
        show (uv p.length ++ p ++ joinL ps).take k = _
        rw [List.append_assoc, List.take_append_of_le_length (by omega)]
      rw [e]
      by_cases hk0 : k = 0
      · subst hk0
        right
        rw [List.take_zero, spl_nil]
        simp
      · left
        have hs : (vr ((uv p.length).take k)).2.2 = 4 := vr_short 9 0 0 p.length k (by omega) h1
        rw [spl_bad (by rw [List.length_take]; omega) (by omega)]
    · have e0 : (joinL (p :: ps)).take k = uv p.length ++ (p ++ joinL ps).take (k - (uv p.length).length) := by
        show (uv p.length ++ p ++ joinL ps).take k = _
        rw [List.append_assoc, List.take_append, List.take_of_length_le (by omega)]
      have hup := uv_pos p.length
      have hv := vr_uv p.length ((p ++ joinL ps).take (k - (uv p.length).length)) hpl
      have h0 : (uv p.length ++ (p ++ joinL ps).take (k - (uv p.length).length)).length ≠ 0 := by rw [List.length_append]; omega
      have hd : (uv p.length ++ (p ++ joinL ps).take (k - (uv p.length).length)).drop (uv p.length).length = (p ++ joinL ps).take (k - (uv p.length).length) := List.drop_left' rfl
      rw [e0]
      by_cases h2 : k - (uv p.length).length < p.length
      · left
        rw [spl_torn h0 (by rw [hv]) (by rw [hv]; show (List.drop (uv p.length).length _).length < p.length; rw [hd, List.length_take]; omega)]
      · have hl : k - (uv p.length).length - p.length < (joinL ps).length := by
          have : (joinL (p :: ps)).length = (uv p.length).length + p.length + (joinL ps).length := by show (uv p.length ++ p ++ joinL ps).length = _; simp only [List.length_append]
          omega
        have ih := cut_lt ps (k - (uv p.length).length - p.length) (m + 1) (fun q hq => hp q (by simp [hq])) hl
        have e2 : ((p ++ joinL ps).take (k - (uv p.length).length)).drop p.length = (joinL ps).take (k - (uv p.length).length - p.length) := by
          rw [List.take_append, List.take_of_length_le (by omega), List.drop_left' rfl]
        rw [spl_go h0 (by rw [hv]) (by rw [hv]; show ¬ (List.drop (uv p.length).length _).length < p.length; rw [hd, List.length_take]; simp; omega), hv]
        show (spl (m + 1) (((uv p.length ++ _).drop (uv p.length).length).drop p.length)).2 = 0 ∨ _
        rw [hd, e2]
        rcases ih with ih | ih
        · exact .inl ih
        · right; simp only [List.length_cons]; omega
end Go.Proofs.Ytkkdcojgnpmpgaa
