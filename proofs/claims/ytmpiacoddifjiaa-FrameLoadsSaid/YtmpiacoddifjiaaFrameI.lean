/- Lines of nothing: what Line and Payload answer where only line feeds wait. -/
import Derived.Test.YtmpiacoddifjiaaFrameH
namespace Go.Proofs.Ytmpiacoddifjiaa
open Go.RowKit
set_option linter.unusedVariables false
def tens (n : Nat) : List Nat := rowF (fun _ => 10) n
theorem tens_lt (n : Nat) : ∀ i, (tens n).getD i 0 < 256 := rowF_lt (fun _ => by decide) n
theorem tens_length (n : Nat) : (tens n).length = n := rowF_length _ n
theorem tens_succ (n : Nat) : tens (n + 1) = 10 :: tens n := by
  unfold tens rowF
  rw [List.range_succ_eq_map, List.map_cons, List.map_map]
  rfl
theorem tens_ln (l : List Nat) : lineS (10 :: l) = [] ∧ lineO (10 :: l) = true ∧ lineE (10 :: l) = 0 ∧ lfi (10 :: l) = 0 := by
  have h : lfi (10 :: l) = 0 := by simp [lfi, List.findIdx_cons]
  have h1 : ¬ 0 = (10 :: l).length := by simp
  have h2 : trim ((10 :: l).take 0) = [] := by rfl
  refine ⟨?_, ?_, ?_, h⟩
  · unfold lineS; rw [h, if_neg h1, h2]; rfl
  · unfold lineO; rw [h, if_neg h1, h2]; rfl
  · unfold lineE; rw [h, if_neg h1, h2]; rfl
theorem strB_nil : strB [] = ⟨#[]⟩ := by decide
theorem lineT (B G n : Nat) (w : World) (hn : n ≤ 1000) (hB : B ≤ w.heap.size) (hf : Frm w B G (tens n) 0 false) :
    Calls Try.prog 12 #[.pointer (some ⟨G, 0, none⟩)] w fun e w' => e = .returned (.tuple #[.string ⟨#[]⟩, .bool (decide (0 < n)), .int .i64 0]) ∧ Frm w' B G (tens (n - 1)) 0 false ∧ Below B w w' := by
  refine (line0 B G _ w (tens_lt n) (by rw [tens_length]; omega) hB hf).mono ?_
  rintro e w' ⟨⟨h1, h2, _, h4⟩, h5⟩
  cases n with
  | zero =>
    have a : lineS [] = [] ∧ lineO [] = false ∧ lineE [] = 0 ∧ lfi [] = 0 := by decide +kernel
    obtain ⟨a1, a2, a3, a4⟩ := a
    have e0 : tens 0 = [] := rfl
    rw [e0, a1, a2, a3, strB_nil] at h1
    rw [e0, a4] at h2
    exact ⟨h1, h2 rfl (by decide), h5⟩
  | succ n =>
    obtain ⟨a1, a2, a3, a4⟩ := tens_ln (tens n)
    rw [tens_succ] at h1 h4
    rw [a1, a2, a3, strB_nil] at h1
    rw [a4] at h4
    exact ⟨by simpa using h1, h4 (by simp), h5⟩
theorem payT (B G n : Nat) (w : World) (hn : n ≤ 1000) (hB : B ≤ w.heap.size) (hf : Frm w B G (tens n) 0 false) :
    Calls Try.prog 16 #[.pointer (some ⟨G, 0, none⟩), .int .i64 0] w fun e w' => (∃ A, e = .returned (.tuple #[.slice A 0 0, .bool (decide (0 < n))])) ∧ Frm w' B G (tens (n - 1)) 0 false ∧ Below B w w' := by
  cases n with
  | zero =>
    refine (payload_no B G 0 (tens 0) w (tens_lt 0) (by decide) (by decide) hB hf (by decide)).mono ?_
    rintro e w' ⟨h1, h2, h3⟩
    exact ⟨⟨none, by simpa using h1⟩, h2, h3⟩
  | succ n =>
    refine (payload_yes B G 0 (tens (n + 1)) w (tens_lt _) (by decide) (by rw [tens_length]; omega) hB hf (by rw [tens_length]; omega)).mono ?_
    rintro e w' ⟨A, h1, _, h2, h3⟩
    refine ⟨⟨A, by simpa using h1⟩, ?_, h3⟩
    rw [tens_succ] at h2
    exact h2
end Go.Proofs.Ytmpiacoddifjiaa
