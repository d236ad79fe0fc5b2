/- Plain facts for FrameLoads: payloads behind lines, joined; what waits of them. -/
import Derived.Test.YtmpiacoddifjiaaFrameS
namespace Go.Proofs.Ytmpiacoddifjiaa
open Go.RowKit
set_option linter.unusedVariables false
def recd (k : Nat) (p : List Nat) : List Nat := 120 :: (97 + k) :: 10 :: (p ++ [10])
def allL (ps : Nat → List Nat) : Nat → List Nat
  | 0 => []
  | k + 1 => allL ps k ++ recd k (ps k)
def st (ps : Nat → List Nat) (k : Nat) : Nat := (allL ps k).length
theorem recd_len (k : Nat) (p : List Nat) : (recd k p).length = p.length + 4 := by simp [recd]
theorem st_succ (ps : Nat → List Nat) (k : Nat) : st ps (k + 1) = st ps k + 4 + (ps k).length := by
  show (allL ps k ++ recd k (ps k)).length = _
  rw [List.length_append, recd_len]
  unfold st
  omega
theorem allL_split (ps : Nat → List Nat) (n k : Nat) (h : k < n) : ∃ t, allL ps n = allL ps k ++ (recd k (ps k) ++ t) := by
  induction n with
  | zero => omega
  | succ m ih =>
    rcases Nat.lt_or_ge k m with h1 | h1
    · obtain ⟨t, ht⟩ := ih h1
      exact ⟨t ++ recd m (ps m), by show allL ps m ++ recd m (ps m) = _; rw [ht]; simp [List.append_assoc]⟩
    · have : k = m := by omega
      subst this
      exact ⟨[], by show allL ps k ++ recd k (ps k) = _; simp⟩
theorem st_le (ps : Nat → List Nat) (n k : Nat) (h : k ≤ n) : st ps k ≤ st ps n := by
  rcases Nat.lt_or_ge k n with h1 | h1
  · obtain ⟨t, ht⟩ := allL_split ps n k h1
    unfold st
    rw [ht, List.length_append]
    omega
  · have : k = n := by omega
    rw [this]; exact Nat.le_refl _
theorem allL_lt (ps : Nat → List Nat) (n : Nat) (hn : n ≤ 12) (h : ∀ k, k < n → ∀ i, (ps k).getD i 0 < 256) : ∀ i, (allL ps n).getD i 0 < 256 := by
  induction n with
  | zero => intro i; simp [allL]
  | succ m ih =>
    refine getD_append_lt (ih (by omega) (fun k hk => h k (by omega))) ?_
    have h1 := getD_append_lt (h m (by omega)) (one_lt (x := 10) (by decide))
    intro i
    match i with
    | 0 => show 120 < 256; decide
    | 1 => show 97 + m < 256; omega
    | 2 => show 10 < 256; decide
    | i + 3 => exact h1 i
theorem st_bound (ps : Nat → List Nat) (n : Nat) (h : ∀ k, k < n → (ps k).length ≤ 300) : st ps n ≤ 304 * n := by
  induction n with
  | zero => simp [st, allL]
  | succ m ih =>
    have h1 := ih (fun k hk => h k (by omega))
    have h2 := h m (by omega)
    rw [st_succ]
    omega
/-- What waits where so many are fed, and so many gone. -/
def wait (ps : Nat → List Nat) (n fed c : Nat) : List Nat := ((allL ps n).take fed).drop c
theorem wait_len (ps : Nat → List Nat) (n fed c : Nat) (h : fed ≤ st ps n) : (wait ps n fed c).length = fed - c := by
  unfold wait
  unfold st at h
  rw [List.length_drop, List.length_take]
  omega
theorem wait_drop (ps : Nat → List Nat) (n fed c j : Nat) : (wait ps n fed c).drop j = wait ps n fed (c + j) := by
  unfold wait
  rw [List.drop_drop]
theorem wait_rec (ps : Nat → List Nat) (n k fed : Nat) (h : k < n) : ∃ t, wait ps n fed (st ps k) = (recd k (ps k) ++ t).take (fed - st ps k) := by
  obtain ⟨t, ht⟩ := allL_split ps n k h
  refine ⟨t, ?_⟩
  unfold wait
  rw [ht, List.drop_take, List.drop_left' (show (allL ps k).length = st ps k from rfl)]
theorem wait_more (ps : Nat → List Nat) (n fed c j : Nat) (h : c ≤ fed) (hf : fed ≤ st ps n) : wait ps n fed c ++ ((allL ps n).drop fed).take j = wait ps n (fed + j) c := by
  unfold wait
  rw [take_more, List.drop_append_of_le_length (by rw [List.length_take]; unfold st at hf; omega)]
/-- Too little for a line. -/
theorem wait_short (ps : Nat → List Nat) (n k fed : Nat) (h : k < n) (hf : fed < st ps k + 3) (hn : fed ≤ st ps n) (hk : k < 12) : lfi (wait ps n fed (st ps k)) = (wait ps n fed (st ps k)).length := by
  obtain ⟨t, ht⟩ := wait_rec ps n k fed h
  have hno : ∀ x ∈ wait ps n fed (st ps k), x ≠ 10 := by
    rw [ht]
    have hd : fed - st ps k < 3 := by omega
    generalize fed - st ps k = d at hd
    intro x hx
    match d, hd with
    | 0, _ => simp at hx
    | 1, _ => simp [recd] at hx; omega
    | 2, _ => simp [recd] at hx; omega
  have h1 := lfi_le (wait ps n fed (st ps k))
  rcases Nat.lt_or_ge (lfi (wait ps n fed (st ps k))) (wait ps n fed (st ps k)).length with h2 | h2
  · have h3 := lfi_at h2
    exact absurd h3 (hno _ (by simp only [List.getD, List.getElem?_eq_getElem h2, Option.getD_some]; exact List.getElem_mem h2))
  · omega
/-- A line. -/
theorem wait_line (ps : Nat → List Nat) (n k fed : Nat) (h : k < n) (hf : st ps k + 3 ≤ fed) : ∃ y, wait ps n fed (st ps k) = 120 :: (97 + k) :: 10 :: y := by
  obtain ⟨t, ht⟩ := wait_rec ps n k fed h
  obtain ⟨d, hd⟩ : ∃ d, fed - st ps k = d + 3 := ⟨fed - st ps k - 3, by omega⟩
  rw [ht, hd]
  exact ⟨_, rfl⟩
theorem line_of (k : Nat) (hk : k < 12) (y : List Nat) : lfi (120 :: (97 + k) :: 10 :: y) = 2 ∧ lineS (120 :: (97 + k) :: 10 :: y) = [120, 97 + k] ∧ lineO (120 :: (97 + k) :: 10 :: y) = true ∧ lineE (120 :: (97 + k) :: 10 :: y) = 0 := by
  have h2 : (97 + k == 10) = false := by rw [beq_eq_false_iff_ne]; omega
  have e : lfi (120 :: (97 + k) :: 10 :: y) = 2 := by
    unfold lfi
    simp [List.findIdx_cons, h2]
  have e1 : ¬ (2 : Nat) = (120 :: (97 + k) :: 10 :: y).length := by simp
  have e3 : (120 :: (97 + k) :: 10 :: y).take 2 = [120, 97 + k] := rfl
  have h13 : has13 [120, 97 + k] = false := by simp [has13]; omega
  have e4 : trim [120, 97 + k] = [120, 97 + k] := by unfold trim; rw [h13]; rfl
  refine ⟨e, ?_, ?_, ?_⟩
  · unfold lineS; rw [e, if_neg e1, e3, e4]; rfl
  · unfold lineO; rw [e, if_neg e1, e3, e4]; rfl
  · unfold lineE; rw [e, if_neg e1, e3, e4]; rfl
/-- A payload, whole. -/
theorem wait_pay (ps : Nat → List Nat) (n k fed : Nat) (h : k < n) (hf : st ps (k + 1) ≤ fed) :
    (wait ps n fed (st ps k + 3)).take (ps k).length = ps k ∧ plRest (ps k).length (wait ps n fed (st ps k + 3)) = wait ps n fed (st ps (k + 1)) := by
  obtain ⟨t, ht⟩ := wait_rec ps n k fed h
  have hs := st_succ ps k
  obtain ⟨d, hd⟩ : ∃ d, fed - st ps k = (ps k).length + 4 + d := ⟨fed - st ps k - (ps k).length - 4, by omega⟩
  have e : wait ps n fed (st ps k + 3) = ps k ++ 10 :: t.take d := by
    rw [← wait_drop, ht, hd]
    have e0 : recd k (ps k) ++ t = (120 :: (97 + k) :: 10 :: (ps k ++ [10])) ++ t := rfl
    rw [e0, List.take_append, show (ps k).length + 4 + d - (120 :: (97 + k) :: 10 :: (ps k ++ [10])).length = d by simp,
      List.take_of_length_le (by simp)]
    simp
  have e2 : (ps k ++ 10 :: t.take d).getD (ps k).length 0 = 10 := by simp [List.getD]
  refine ⟨by rw [e]; simp, ?_⟩
  unfold plRest
  rw [e, e2, if_pos rfl, ← e, wait_drop, hs]
  congr 1
  omega
end Go.Proofs.Ytmpiacoddifjiaa
