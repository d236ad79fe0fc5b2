/- redo: Open where it is refused. -/
import Derived.Test.YtdphillobnlpaaaRedAA
namespace Go.Proofs.Ytdphillobnlpaaa
open Go.RowKit
set_option linter.unusedVariables false
set_option maxRecDepth 100000 in
theorem open_nil (w : World) (a k : Int) : Calls Try.prog 21 #[.pointer none, .int .i64 a, .int .i64 k] w fun e w' => e = .returned (.tuple #[.pointer none, .int .i64 1]) ∧ w' = w := by
  go_enter Try.func21, Try.ntmps21
  go_wp2_with fail
  go_ret2
  exact ⟨by simp, rfl⟩
def goodB (at_ words : Int) : Prop := 0 ≤ at_ ∧ at_.tmod 8 = 0 ∧ at_ ≤ 256 ∧ 16 ≤ words ∧ words ≤ 256 - at_
set_option maxRecDepth 100000 in
set_option maxHeartbeats 4000000 in
theorem open_bad (w : World) (A : Nat → Prop) (G : Dv) (s : DS) (at_ words : Int) (hD : DevA w A G 256 s) (hb : ¬ goodB at_ words) :
    Calls Try.prog 21 #[.pointer (some ⟨G.d, 0, none⟩), .int .i64 at_, .int .i64 words] w fun e w' => e = .returned (.tuple #[.pointer none, .int .i64 1]) ∧ w' = w := by
  have HW := Lib.hid (words_any w A G 256 s hD.1)
  clear hD
  by_cases h1 : at_ < 0
  · clear hb
    go_enter Try.func21, Try.ntmps21
    go_wp2_with fail
    go_ret2
    exact ⟨by simp, rfl⟩
  have h0 : 0 ≤ at_ := by omega
  by_cases h2 : ¬ at_ % 8 = 0

  · have ht : ¬ at_.tmod 8 = 0 := by rw [Int.tmod_eq_emod_of_nonneg h0]; exact h2
    clear hb
    go_enter Try.func21, Try.ntmps21
    go_wp2_with fail
    go_ret2
    exact ⟨by simp, rfl⟩
  have h2 := Decidable.not_not.1 h2
  by_cases h3 : words < 16
  · clear hb
    go_enter Try.func21, Try.ntmps21
    go_wp2_with fail
    go_ret2
    exact ⟨by simp, rfl⟩
  by_cases h4 : 256 < words
  · clear hb
    go_enter Try.func21, Try.ntmps21
    go_wp2_with (first
      | (go_at_call 37; refine HW.out.mono ?_; rintro e w1 ⟨rfl, rfl⟩)
      | fail)
    go_ret2
    exact ⟨by simp, rfl⟩
  · have hbig : 256 - words < at_ := by
      rcases Int.lt_or_le (256 - words) at_ with h | h
      · exact h
      · exact (hb ⟨h0, by rw [Int.tmod_eq_emod_of_nonneg h0]; exact h2, by omega, by omega, by omega⟩).elim
    have hsub : IntKind.i64.wrap (256 - words) = 256 - words := by rw [IntWalk.i64_in _ (by omega)]
    have h3' : 16 ≤ words := by omega
    have h4' : words ≤ 256 := by omega
    clear hb
    go_enter Try.func21, Try.ntmps21
    go_wp2_with (first
      | (go_at_call 37; refine HW.out.mono ?_; rintro e w1 ⟨rfl, rfl⟩)
      | fail)
    go_ret2
    exact ⟨by simp, rfl⟩
end Go.Proofs.Ytdphillobnlpaaa
