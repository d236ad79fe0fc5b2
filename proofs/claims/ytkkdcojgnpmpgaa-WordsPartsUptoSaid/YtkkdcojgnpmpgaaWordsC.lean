/- The walk of awake: it returns true and leaves what was there. -/
import Derived.Test.YtkkdcojgnpmpgaaWordsB
import Derived.Handy
import Derived.Lib.SlBytesConst
namespace Go.Proofs.Ytkkdcojgnpmpgaa
open Go.RowKit
set_option linter.unusedVariables false

def AwPost (w : World) (e : Ending) (w' : World) : Prop := e = .returned (.bool true) ∧ Below w.heap.size w w'
theorem packed_ab : packed [97, 98] = [2, 25185] := by decide +kernel
theorem uv_300 : uv 300 = [172, 2] := by decide +kernel
theorem ab_lt : ∀ i, [97, 98].getD i 0 < 256 := by
  intro i
  match i with
  | 0 => decide
  | 1 => decide
  | i + 2 => simp
theorem uv300_lt : ∀ i, [172, 2].getD i 0 < 256 := by
  intro i
  match i with
  | 0 => decide
  | 1 => decide
  | i + 2 => simp
theorem str300 : strB [172, 2] = ⟨#[172, 2]⟩ := by decide
theorem uvar300 (w : World) : Calls Try.prog 19 #[.int .u64 300] w fun e w' => ∃ A, e = .returned (.slice A 2 2) ∧ Reads w' w'.heap.size 1 A 2 (Ints .u8 [172, 2]) ∧ Below w.heap.size w w' := by
  refine (uvar_any 300 (by decide) w).mono ?_
  rintro e w' ⟨A, h1, h2, h3⟩
  rw [uv_300] at h1 h2
  exact ⟨A, h1, h2, h3⟩
set_option maxRecDepth 100000 in
set_option maxHeartbeats 1000000 in
theorem awake_any (w : World) : Calls Try.prog 8 #[] w (AwPost w) := by
  have kc := fun (w : World) (C : Array Value) (n c : Nat) => Lib.run_convert_bytes_const (P := Try.prog) w 22 5 C n c Try.underlying22 Try.underlying5
  go_enter Try.func8, Try.ntmps8
  go_wp2_with fail
  have hr : Reads (w.alloc (.cells #[.int .u8 97, .int .u8 98] 5 (2, 3))) (w.alloc (.cells #[.int .u8 97, .int .u8 98] 5 (2, 3))).heap.size 1 (some ⟨w.heap.size, 0, none⟩) 2 (Ints .u8 [97, 98]) := by
    refine ⟨rfl, fun _ => ⟨_, rfl, by simp, fun j u hu => ?_⟩⟩
    have e0 : (⟨w.heap.size, 0, none⟩ : Addr).add j = ⟨w.heap.size, j, none⟩ := by unfold Addr.add; split <;> simp_all
    rw [e0, World.cell?_alloc_mark]
    simpa [Ints] using hu
  refine (pack_any _ 2 2 [97, 98] rfl (by decide) ab_lt _ hr).mono ?_
  rintro e w1 ⟨rfl, hblk, hbel⟩
  rw [packed_ab] at hblk
  have hc0 := hblk.cell 0
  have hc1 := hblk.cell 1
  have hbw : Below w.heap.size w w1 := ((Below.refl _ w).alloc (Nat.le_refl _) _).trans (hbel.mono (by simp))
  have Hb := Lib.hid hblk
  clear hr hblk hbel
  simp [Ints] at hc0 hc1
  go_wp2_with fail
  refine (uvar300 _).mono ?_
  rintro e w2 ⟨A, rfl, hrd, hb2⟩
  have hcv := conv_reads (P := Try.prog) 22 5 9 Try.underlying22 Try.underlying5 Try.underlying9 [172, 2] 2 hrd uv300_lt
  rw [str300] at hcv
  clear hrd
  have hbw2 := hbw.trans (hb2.mono hbw.size)
  clear hbw hb2 hc0 hc1
  go_wp2_with fail
  refine (need_any 9 (by decide) (by decide) _).mono ?_
  rintro e w3 ⟨rfl, rfl⟩
  go_wp2_with fail
  go_ret
  exact ⟨rfl, hbw2⟩
end Go.Proofs.Ytkkdcojgnpmpgaa
