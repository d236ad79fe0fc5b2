/- The walks of the document's Uvar, of texts, and of the document's Join. -/
import Derived.Test.YtkkdcojgnpmpgaaWordsR
import Derived.Deep.RegionHeld3
namespace Go.Proofs.Ytkkdcojgnpmpgaa
open Go.RowKit
set_option linter.unusedVariables false
theorem and127_64 (y : Nat) (hy : y < 18446744073709551616) : bits .and .u64 (y : Int) 127 = ((y % 128 : Nat) : Int) := by
  show IntKind.u64.wrap ((BitVec.ofInt 64 (y : Int) &&& BitVec.ofInt 64 127).toNat : Int) = _
  rw [BitVec.toNat_and, BitVec.ofInt_natCast, BitVec.toNat_ofNat, Nat.mod_eq_of_lt (by omega)]
  have e : (BitVec.ofInt 64 127).toNat = 2 ^ 7 - 1 := by decide
  rw [e, Nat.and_two_pow_sub_one_eq_mod, IntWalk.u64_in _ (by omega)]
theorem or128_64 (z : Nat) (hz : z < 128) : bits .or .u64 (z : Int) 128 = ((z + 128 : Nat) : Int) := by
  have h := u64_or_nat z 128 (by omega) (by decide)
  have hb : ∀ q : Fin 128, q.val ||| 128 = q.val + 128 := by decide +kernel
  have h2 := hb ⟨z, hz⟩
  simp only at h2
  rw [h2] at h
  exact h
def RuPost (x : Nat) (w : World) (e : Ending) (w' : World) : Prop := e = .returned (.string (strB (uv x))) ∧ Below w.heap.size w w'
set_option maxRecDepth 100000 in
set_option maxHeartbeats 2000000 in
theorem ruvar_any (x : Nat) (hx : x < 18446744073709551616) (w : World) :
    Calls Try.prog 25 #[.int .u64 (x : Int)] w (RuPost x w) := by
  obtain ⟨i0, hi, hz0, hz1, hz2⟩ := info_parts info5
  have Hx := Lib.hid hx
  clear hx
  go_enter Try.func25, Try.ntmps25
  go_wp2_with fail
  go_loopw [0, 3] (fun v b wr => ∃ (y j cap : Nat) (A : Option Addr) (acc : List Nat), v = .int .u64 (y : Int) ∧ b = .slice A j cap ∧ j ≤ 9 ∧ acc.length = j ∧ Hid (y < 2 ^ (64 - 7 * j)) ∧ y < 18446744073709551616 ∧ wr.ownsRow w.heap.size 5 1 (.slice A j cap) j (Ints .u8 acc) ∧ Below w.heap.size w wr ∧ Hid (uv x = acc ++ uvl (9 - j) y)) (fun v _ _ => (intOf v).toNat)
  case atStart => exact ⟨x, 0, 0, none, [], rfl, rfl, by omega, rfl, Lib.hid (by have := Hx.out; omega), Hx.out, ⟨rfl, .inl ⟨rfl, rfl⟩⟩, Below.refl _ _, Lib.hid (by simp [uv])⟩
  case round =>
    obtain ⟨y, j, cap, A, acc, rfl, rfl, hj, hacc, Hy, hy64, hown, hbel, huv⟩ := hrel
    by_cases hlt : 127 < y
    · have ha := and127_64 y hy64
      have hm : y % 128 < 128 := Nat.mod_lt _ (by decide)
      obtain ⟨z, hz⟩ : ∃ z, z = y % 128 := ⟨_, rfl⟩
      rw [← hz] at ha hm
      have ho := or128_64 z hm
      have hwz : IntKind.u8.wrap ((z : Int) + 128) = (z : Int) + 128 := IntWalk.u8_in _ (by omega)
      have hE : Hid ((z : Int) + 128 = ((z + 128 : Nat) : Int)) := Lib.hid (by omega)
      have Hz := Lib.hid hz
      clear hz
      go_wp2_with (at_builtin; go_loud (refine wpList_push wr rfl (.tmp 6) (.tmp 11) 22 rfl w.heap.size 5 i0 .u8 1 Try.underlying22 hi hz0 hz1 hz2 A j cap acc rfl hown _ (z + 128) 1 hE.out rfl (by unfold maxLen; omega) (by omega) hbel.size ?_; intro g cap' w1 hown1 hgrow1 hsz1 hg1 hgB))
      go_roundw
      case rel =>
        have hr := uv_room y j (by omega) Hy.out
        refine ⟨y / 128, j + 1, cap', _, acc ++ [z + 128], by go_num, rfl, hr, by simp [hacc], Lib.hid (uv_less y j Hy.out), by omega, hown1, hbel.grown hgrow1 hbel.size (fun q hq => (hown.lt q hq).1), Lib.hid ?_⟩
        rw [huv.out, Hz.out]; exact uv_step acc y j (by omega) hr
      case measure => simp [intOf]; omega
    · have e : uv x = acc ++ [y] := by rw [huv.out]; exact uv_last acc y j (by omega)
      have hbb : ∀ i, (acc ++ [y]).getD i 0 < 256 := by rw [← e]; exact uvl_lt 9 x
      have hwy : IntKind.u8.wrap (y : Int) = (y : Int) := IntWalk.u8_in _ (by omega)
      have hE := Lib.hid (show ((y : Int)) = ((y : Nat) : Int) from rfl)
      have Hbb := Lib.hid hbb
      have He := Lib.hid e
      clear hbb e
      go_wp2_with (at_builtin; refine wpList_push wr rfl (.tmp 15) (.tmp 18) 22 rfl w.heap.size 5 i0 .u8 1 Try.underlying22 hi hz0 hz1 hz2 A j cap acc rfl hown _ y 1 hE.out rfl (by unfold maxLen; omega) (by omega) hbel.size ?_; intro g cap' w1 hown1 hgrow1 hsz1 hg1 hgB; have hcv := conv_reads (P := Try.prog) 22 5 9 Try.underlying22 Try.underlying5 Try.underlying9 (acc ++ [y]) cap' (Reads.of_own hown1) Hbb.out; rw [← He.out] at hcv; have Hb9 := Lib.hid (hbel.grown hgrow1 hbel.size (fun q hq => (hown.lt q hq).1)))
      go_ret
      exact ⟨rfl, Hb9.out⟩
end Go.Proofs.Ytkkdcojgnpmpgaa
