/- Plain facts: lines out of a row of bytes, one byte after the other; what a drain tells. -/
import Derived.Test.YtmpiacoddifjiaaFrameJ
namespace Go.Proofs.Ytmpiacoddifjiaa
open Go.RowKit
set_option linter.unusedVariables false
/-- What is told of a line: none, if it is too long. -/
def ev (m : List Nat) : Option (List Nat) := if 256 < (trim m).length then none else some (trim m)
def auE (st : List Nat × Bool) (c : Nat) : List (Option (List Nat)) := if st.2 then [] else if c = 10 then [ev st.1] else if st.1.length = 257 then [none] else []
def auS (st : List Nat × Bool) (c : Nat) : List Nat × Bool := if st.2 then ([], !(c == 10)) else if c = 10 then ([], false) else if st.1.length = 257 then ([], true) else (st.1 ++ [c], false)
def runE : List Nat × Bool → List Nat → List (Option (List Nat))
  | _, [] => []
  | st, c :: l => auE st c ++ runE (auS st c) l
def runS : List Nat × Bool → List Nat → List Nat × Bool
  | st, [] => st
  | st, c :: l => runS (auS st c) l
theorem runS_append (st : List Nat × Bool) (l m : List Nat) : runS st (l ++ m) = runS (runS st l) m := by
  induction l generalizing st with
  | nil => rfl
  | cons c l ih => exact ih _
theorem runE_append (st : List Nat × Bool) (l m : List Nat) : runE st (l ++ m) = runE st l ++ runE (runS st l) m := by
  induction l generalizing st with
  | nil => rfl
  | cons c l ih =>
    show auE st c ++ runE (auS st c) (l ++ m) = auE st c ++ runE (auS st c) l ++ runE (runS (auS st c) l) m
    rw [ih, List.append_assoc]
def Ok (st : List Nat × Bool) : Prop := (st.2 = true → st.1 = []) ∧ (∀ x ∈ st.1, x ≠ 10) ∧ st.1.length < 258
theorem ok_auS {st : List Nat × Bool} (h : Ok st) (c : Nat) : Ok (auS st c) := by
  obtain ⟨h1, h2, h3⟩ := h
  unfold auS
  split
  · exact ⟨fun _ => rfl, by simp, by simp⟩
  · split
    · exact ⟨fun _ => rfl, by simp, by simp⟩
    · split
      · exact ⟨fun _ => rfl, by simp, by simp⟩
      · refine ⟨(fun h => by cases h), ?_, (by rw [List.length_append]; show st.1.length + 1 < 258; omega)⟩
        intro x hx
        rcases List.mem_append.1 hx with h | h
        · exact h2 x h
        · rw [List.mem_singleton] at h; subst h; assumption
theorem ok_runS {st : List Nat × Bool} (h : Ok st) (l : List Nat) : Ok (runS st l) := by
  induction l generalizing st with
  | nil => exact h
  | cons c l ih => exact ih (ok_auS h c)
theorem ok_start (b : Bool) : Ok ([], b) := ⟨fun _ => rfl, by simp, by simp⟩
theorem run_true {m : List Nat} (h : ∀ x ∈ m, x ≠ 10) : runE ([], true) m = [] ∧ runS ([], true) m = ([], true) := by
  induction m with
  | nil => exact ⟨rfl, rfl⟩
  | cons c m ih =>
    have hc : (c == 10) = false := by rw [beq_eq_false_iff_ne]; exact h c (by simp)
    have e : auS ([], true) c = ([], true) := by simp [auS, hc]
    have := ih (fun x hx => h x (by simp [hx]))
    exact ⟨by show auE ([], true) c ++ runE (auS ([], true) c) m = []; rw [e, this.1]; rfl, by show runS (auS ([], true) c) m = _; rw [e, this.2]⟩
theorem run_short {m : List Nat} (cur : List Nat) (h : ∀ x ∈ m, x ≠ 10) (hl : cur.length + m.length < 258) : runE (cur, false) m = [] ∧ runS (cur, false) m = (cur ++ m, false) := by
  induction m generalizing cur with
  | nil => exact ⟨rfl, by simp [runS]⟩
  | cons c m ih =>
    have hc : ¬ c = 10 := h c (by simp)
    have hn : ¬ cur.length = 257 := by simp at hl; omega
    have e : auS (cur, false) c = (cur ++ [c], false) := by simp [auS, hc, hn]
    have e2 : auE (cur, false) c = [] := by simp [auE, hc, hn]
    have := ih (cur ++ [c]) (fun x hx => h x (by simp [hx])) (by simp at *; omega)
    exact ⟨by show auE (cur, false) c ++ runE (auS (cur, false) c) m = []; rw [e, e2, this.1]; rfl, by show runS (auS (cur, false) c) m = _; rw [e, this.2]; simp⟩
theorem run_long {m : List Nat} (cur : List Nat) (h : ∀ x ∈ m, x ≠ 10) (hc0 : cur.length < 258) (hl : 258 ≤ cur.length + m.length) : runE (cur, false) m = [none] ∧ runS (cur, false) m = ([], true) := by
  induction m generalizing cur with
  | nil => simp at hl; omega
  | cons c m ih =>
    have hc : ¬ c = 10 := h c (by simp)
    by_cases hn : cur.length = 257
    · have e : auS (cur, false) c = ([], true) := by simp [auS, hc, hn]
      have e2 : auE (cur, false) c = [none] := by simp [auE, hc, hn]
      have := run_true (m := m) (fun x hx => h x (by simp [hx]))
      exact ⟨by show auE (cur, false) c ++ runE (auS (cur, false) c) m = _; rw [e, e2, this.1]; rfl, by show runS (auS (cur, false) c) m = _; rw [e, this.2]⟩
    · have e : auS (cur, false) c = (cur ++ [c], false) := by simp [auS, hc, hn]
      have e2 : auE (cur, false) c = [] := by simp [auE, hc, hn]
      have := ih (cur ++ [c]) (fun x hx => h x (by simp [hx])) (by simp; omega) (by simp at *; omega)
      exact ⟨by show auE (cur, false) c ++ runE (auS (cur, false) c) m = _; rw [e, e2, this.1]; rfl, by show runS (auS (cur, false) c) m = _; rw [e, this.2]⟩
/-- What waits of a state that has been told all tells nothing, and is that state. -/
theorem run_idle {cur : List Nat} {b : Bool} (h : Ok (cur, b)) : runE ([], b) cur = [] ∧ runS ([], b) cur = (cur, b) := by
  obtain ⟨h1, h2, h3⟩ := h
  cases b
  · have := run_short [] h2 (by simpa using h3)
    simpa using this
  · have : cur = [] := h1 rfl
    subst this
    exact ⟨rfl, rfl⟩
theorem run_more {st0 : List Nat × Bool} (h0 : Ok st0) (l m : List Nat) : runE st0 (l ++ m) = runE st0 l ++ runE ([], (runS st0 l).2) ((runS st0 l).1 ++ m) ∧ runS st0 (l ++ m) = runS ([], (runS st0 l).2) ((runS st0 l).1 ++ m) := by
  have hk : Ok (runS st0 l) := ok_runS h0 l
  have := run_idle (cur := (runS st0 l).1) (b := (runS st0 l).2) hk
  rw [runE_append, runS_append, runE_append, runS_append, this.1, this.2]
  exact ⟨rfl, rfl⟩
theorem lfi_none {l : List Nat} (h : lfi l = l.length) : ∀ x ∈ l, x ≠ 10 := by
  intro x hx e
  have := List.findIdx_lt_length_of_exists (p := fun x => x == 10) (xs := l) ⟨x, hx, by simp [e]⟩
  unfold lfi at h
  omega
theorem lfi_take {l : List Nat} : ∀ x ∈ l.take (lfi l), x ≠ 10 := by
  intro x hx
  obtain ⟨k, hk, e⟩ := List.mem_iff_getElem.1 hx
  rw [List.length_take] at hk
  have := lfi_before (L := l) (k := k) (by omega)
  rw [List.getElem_take] at e
  rw [← e]
  simpa [List.getD, List.getElem?_eq_getElem (show k < l.length by omega)] using this
theorem lfi_split {l : List Nat} (h : lfi l < l.length) : l = l.take (lfi l) ++ 10 :: l.drop (lfi l + 1) := by
  have e : l[lfi l] = 10 := by
    have := lfi_at h
    simpa [List.getD, h] using this
  conv => lhs; rw [← List.take_append_drop (lfi l) l, List.drop_eq_getElem_cons h, e]
theorem ev_long {m : List Nat} (h : 258 ≤ m.length) : ev m = none := by
  unfold ev
  rw [if_pos]
  rw [trim_len]
  split <;> omega
/-- A line feed ends a line. -/
theorem run_line {m r : List Nat} (h : ∀ x ∈ m, x ≠ 10) : runE ([], false) (m ++ 10 :: r) = ev m :: runE ([], false) r ∧ runS ([], false) (m ++ 10 :: r) = runS ([], false) r := by
  rw [runE_append, runS_append]
  rcases Nat.lt_or_ge m.length 258 with hl | hl
  · have := run_short [] h (by simpa using hl)
    rw [this.1, this.2]
    exact ⟨rfl, rfl⟩
  · have := run_long [] h (by simp) (by simpa using hl)
    rw [this.1, this.2, ev_long hl]
    exact ⟨rfl, rfl⟩
theorem run_skip {m r : List Nat} (h : ∀ x ∈ m, x ≠ 10) : runE ([], true) (m ++ 10 :: r) = runE ([], false) r ∧ runS ([], true) (m ++ 10 :: r) = runS ([], false) r := by
  rw [runE_append, runS_append]
  have := run_true h
  rw [this.1, this.2]
  exact ⟨rfl, rfl⟩
/-- What is left out first changes nothing of it. -/
theorem run_settle (l : List Nat) (b : Bool) : runE ([], stb l b) (stl l 0 b) = runE ([], b) l ∧ runS ([], stb l b) (stl l 0 b) = runS ([], b) l := by
  cases b
  · simp [stb, stl, skp]
  · by_cases h : lfi l = l.length
    · have := run_true (lfi_none h)
      rw [this.1, this.2]
      simp [stb, stl, h, runE, runS]
    · have hlt : lfi l < l.length := by have := lfi_le l; omega
      have := run_skip (m := l.take (lfi l)) (r := l.drop (lfi l + 1)) lfi_take
      rw [← lfi_split hlt] at this
      rw [this.1, this.2]
      have e : (lfi l == l.length) = false := by rw [beq_eq_false_iff_ne]; exact h
      simp [stb, stl, skp, h, e]
theorem auS_lt {st : List Nat × Bool} (h : ∀ i, st.1.getD i 0 < 256) {c : Nat} (hc : c < 256) : ∀ i, (auS st c).1.getD i 0 < 256 := by
  unfold auS
  split
  · intro i; simp
  · split
    · intro i; simp
    · split
      · intro i; simp
      · exact getD_append_lt h (one_lt hc)
theorem runS_lt {st : List Nat × Bool} (h : ∀ i, st.1.getD i 0 < 256) {l : List Nat} (hl : ∀ i, l.getD i 0 < 256) : ∀ i, (runS st l).1.getD i 0 < 256 := by
  induction l generalizing st with
  | nil => exact h
  | cons c l ih => exact ih (auS_lt h (hl 0)) (fun i => hl (i + 1))
/-- All that is told, as a text. -/
def tell : Option (List Nat) → List Nat
  | none => [108, 111, 110, 103, 10]
  | some m => m ++ [10]
def render : List (Option (List Nat)) → List Nat
  | [] => []
  | x :: l => tell x ++ render l
theorem render_append (l m : List (Option (List Nat))) : render (l ++ m) = render l ++ render m := by
  induction l with
  | nil => rfl
  | cons x l ih => show tell x ++ render (l ++ m) = tell x ++ render l ++ render m; rw [ih, List.append_assoc]
theorem render_one (x : Option (List Nat)) : render [x] = tell x := by show tell x ++ [] = _; simp
theorem lenS (l : List Nat) (st : List Nat × Bool) : (runS st l).1.length ≤ st.1.length + l.length := by
  induction l generalizing st with
  | nil => simp [runS]
  | cons c l ih =>
    have := ih (auS st c)
    have h2 : (auS st c).1.length ≤ st.1.length + 1 := by unfold auS; (repeat' split) <;> simp
    show (runS (auS st c) l).1.length ≤ _
    simp; omega
theorem ev_len {m x : List Nat} (h : ev m = some x) : x.length ≤ m.length := by
  unfold ev at h
  split at h
  · cases h
  · cases h; exact trim_le m
theorem tell_len (st : List Nat × Bool) (c : Nat) : (render (auE st c)).length + 6 * (auS st c).1.length ≤ 6 * st.1.length + 6 := by
  unfold auE auS
  split
  · simp [render]
  · split
    · rw [render_one]
      cases h : ev st.1 with
      | none => simp [tell]
      | some x => have := ev_len h; simp [tell]; omega
    · split
      · rw [render_one]; simp [tell]
      · simp [render]; omega
theorem render_len (l : List Nat) (st : List Nat × Bool) : (render (runE st l)).length ≤ 6 * st.1.length + 6 * l.length := by
  induction l generalizing st with
  | nil => simp [runE, render]
  | cons c l ih =>
    have h1 := ih (auS st c)
    have h2 := tell_len st c
    show (render (auE st c ++ runE (auS st c) l)).length ≤ _
    rw [render_append]
    simp; omega
end Go.Proofs.Ytmpiacoddifjiaa
