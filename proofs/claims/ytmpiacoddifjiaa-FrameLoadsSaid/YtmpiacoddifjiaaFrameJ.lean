/- The walk of FrameEmpty itself. -/
import Derived.Test.YtmpiacoddifjiaaFrameI
namespace Go.Proofs.Ytmpiacoddifjiaa
open Go.RowKit
set_option linter.unusedVariables false
set_option maxRecDepth 100000 in
set_option maxHeartbeats 2000000 in
/-- The walk, for a slice of bools that reads as bs. -/
theorem empty_any (n : Int) (A : Option Addr) (nl c : Nat) (bs : List Bool) (w : World) (hl : bs.length = nl) (hnl : nl ≤ 9223372036854775807) (hr : Reads w w.heap.size 1 A nl (bs.map Value.bool)) :
    Calls Try.prog 7 #[.int .i64 n, .slice A nl c] w fun e w' => e = .returned (.bool true) ∧ Below w.heap.size w w' := by
  obtain ⟨i0, hi, hz0, hz1, hz2⟩ := info_parts info5
  obtain ⟨N, hN, h1⟩ := mask n 31 (by decide)
  have m1 : bits .and .i64 n 31 = (N : Int) := h1
  clear h1
  have hmk : ∀ W : World, (Instr.makeSlice 26 (.int .i64 (N : Int)) (.int .i64 (N : Int))).run Try.prog W = .ok (.slice (some ⟨W.heap.size, 0, none⟩) N N) (W.alloc (.cells (fillA (fun _ => 10) N 0) 5)) := by
    intro W
    have h := run_make_rowN 26 5 i0 (.int .u8 0) Try.underlying26 hi hz0 .i64 .i64 N N (Nat.le_refl _) (by rw [hz2]; omega) (by omega) W
    rw [hz1, Nat.mul_one] at h
    rw [← fillA_start]
    exact h
  go_enter Try.func7, Try.ntmps7
  go_wp2_with fail
  refine (new_any w.heap.size w (Nat.le_refl _)).mono ?_
  rintro e w1 ⟨rfl, hf1, hb1⟩
  have Hf1 := Lib.hid hf1
  have Hb1 := Lib.hid hb1
  clear hf1 hb1
  go_wp2_with fail
  go_loopw [23] (fun i wr => ∃ k : Nat, k ≤ N ∧ i = .int .i64 k ∧ Blk wr w1.heap.size 5 (fillA (fun _ => 10) N k) ∧ Below w1.heap.size w1 wr) (fun i _ => N - (intOf i).toNat)
  case atStart => exact ⟨0, by omega, rfl, Blk.new w1 5 _, (Below.refl _ _).alloc (Nat.le_refl _) _⟩
  case round =>
    obtain ⟨k, hk, rfl, hblk, hbel⟩ := hrel
    clear hmk
    by_cases hlt : k < N
    · have hbc : wr.cell? ⟨w1.heap.size, k, none⟩ = some (.int .u8 ((if k < k then 10 else 0 : Nat) : Int)) := by rw [hblk.cell]; unfold fillA; rw [List.getElem?_toArray, Ints_get _ _ _ (by simp [hlt])]; simp [List.getD, hlt]
      have hfz := hblk.frozen k
      have Hb2 := Lib.hid (hblk.set_ k (.int .u8 ((10 : Nat) : Int)))
      rw [fillA_set (fun _ => 10) N k hlt] at Hb2
      have Hbel2 := Lib.hid (hbel.setCell (p := ⟨w1.heap.size, k, none⟩) (Nat.le_refl _) (.int .u8 ((10 : Nat) : Int)))
      clear hblk hbel
      go_wp2_with fail
      go_roundw
      case rel => exact ⟨k + 1, by omega, by go_num, Hb2.out, Hbel2.out⟩
      case measure => simp [intOf]; omega
    · have hkK : k = N := by omega
      rw [hkK] at hblk
      have hown := Lib.hid (Reads.of_own (fill_own (Nat.le_refl w1.heap.size) (by omega) hblk))
      have Hf2 := Lib.hid (Hf1.out.below hbel)
      have hB2 : w.heap.size ≤ wr.heap.size := by have := Hb1.out.size; have := hbel.size; omega
      have Hb2 := Lib.hid (Hb1.out.trans (hbel.mono Hb1.out.size))
      clear hblk hbel
      go_wp2_with fail
      refine (feed0 w.heap.size w.heap.size [] (tens N) _ N N wr (by simp) (tens_lt N) (by simp; omega) hB2 Hf2.out hown.out).mono ?_
      rintro e w3 ⟨rfl, hf3, hb3⟩
      rw [List.nil_append] at hf3
      have Hf3 := Lib.hid hf3
      have Hb3 := Lib.hid (Hb2.out.trans hb3)
      clear hf3 hb3
      go_wp2_with fail
      go_loopw [8] (fun i ws => ∃ k : Nat, k ≤ N + 1 ∧ i = .int .i64 k ∧ Hid (Frm ws w.heap.size w.heap.size (tens (N - k)) 0 false) ∧ Hid (Below w.heap.size w ws)) (fun i _ => N + 1 - (intOf i).toNat)
      case atStart => exact ⟨0, by omega, rfl, Hf3, Hb3⟩
      case round =>
        obtain ⟨j, hj, rfl, hf, hb⟩ := hrel
        by_cases hjN : j ≤ N
        · by_cases hjl : j < nl
          · obtain ⟨ad, u, hA, hab, hu, hc⟩ := (hr.below hb.out).at_ hjl
            subst hA
            rw [List.getElem?_map, List.getElem?_eq_getElem (by omega)] at hu
            simp only [Option.map_some, Option.some.injEq] at hu
            generalize bs[j]'(by omega) = b at hu
            subst hu
            cases b
            · go_wp2_with fail
              refine (lineT w.heap.size w.heap.size (N - j) wr (by omega) hb.out.size hf.out).mono ?_
              rintro e w4 ⟨rfl, hf4, hb4⟩
              have Hf4 := Lib.hid hf4
              have Hb4 := Lib.hid (hb.out.trans hb4)
              clear hf4 hb4
              by_cases hjn : j < N
              · rw [decide_eq_true (show 0 < N - j by omega)]
                go_wp2_with fail
                go_roundw
                case rel => exact ⟨j + 1, by omega, by go_num, (by rw [show N - (j + 1) = N - j - 1 by omega]; exact Hf4), Hb4⟩
                case measure => simp [intOf]; omega
              · rw [decide_eq_false (show ¬ 0 < N - j by omega)]
                go_wp2_with fail
                go_roundw
                case rel => exact ⟨j + 1, by omega, by go_num, (by rw [show N - (j + 1) = N - j - 1 by omega]; exact Hf4), Hb4⟩
                case measure => simp [intOf]; omega
            · go_wp2_with fail
              refine (payT w.heap.size w.heap.size (N - j) wr (by omega) hb.out.size hf.out).mono ?_
              rintro e w4 ⟨⟨A4, rfl⟩, hf4, hb4⟩
              have Hf4 := Lib.hid hf4
              have Hb4 := Lib.hid (hb.out.trans hb4)
              clear hf4 hb4
              by_cases hjn : j < N
              · rw [decide_eq_true (show 0 < N - j by omega)]
                go_wp2_with fail
                go_roundw
                case rel => exact ⟨j + 1, by omega, by go_num, (by rw [show N - (j + 1) = N - j - 1 by omega]; exact Hf4), Hb4⟩
                case measure => simp [intOf]; omega
              · rw [decide_eq_false (show ¬ 0 < N - j by omega)]
                go_wp2_with fail
                go_roundw
                case rel => exact ⟨j + 1, by omega, by go_num, (by rw [show N - (j + 1) = N - j - 1 by omega]; exact Hf4), Hb4⟩
                case measure => simp [intOf]; omega
          · go_wp2_with fail
            refine (lineT w.heap.size w.heap.size (N - j) wr (by omega) hb.out.size hf.out).mono ?_
            rintro e w4 ⟨rfl, hf4, hb4⟩
            have Hf4 := Lib.hid hf4
            have Hb4 := Lib.hid (hb.out.trans hb4)
            clear hf4 hb4
            by_cases hjn : j < N
            · rw [decide_eq_true (show 0 < N - j by omega)]
              go_wp2_with fail
              go_roundw
              case rel => exact ⟨j + 1, by omega, by go_num, (by rw [show N - (j + 1) = N - j - 1 by omega]; exact Hf4), Hb4⟩
              case measure => simp [intOf]; omega
            · rw [decide_eq_false (show ¬ 0 < N - j by omega)]
              go_wp2_with fail
              go_roundw
              case rel => exact ⟨j + 1, by omega, by go_num, (by rw [show N - (j + 1) = N - j - 1 by omega]; exact Hf4), Hb4⟩
              case measure => simp [intOf]; omega
        · go_wp2_with fail
          have hj1 : N - j = 0 := by omega
          refine (waiting_any w.heap.size w.heap.size (tens (N - j)) 0 false wr hf.out).mono ?_
          rintro e w4 ⟨rfl, rfl⟩
          rw [hj1]
          go_wp2_with fail
          refine (awake_any _).mono ?_
          rintro e w5 ⟨rfl, hb5⟩
          have Hb5 := Lib.hid (hb.out.trans (hb5.mono hb.out.size))
          clear hb5
          go_wp2_with fail
          go_ret
          exact ⟨rfl, Hb5.out⟩
end Go.Proofs.Ytmpiacoddifjiaa
