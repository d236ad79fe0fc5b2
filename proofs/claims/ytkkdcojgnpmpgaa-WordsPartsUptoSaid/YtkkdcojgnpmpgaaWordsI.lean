/- The walk of the document's Var. -/
import Derived.Test.YtkkdcojgnpmpgaaWordsH
namespace Go.Proofs.Ytkkdcojgnpmpgaa
open Go.RowKit
set_option linter.unusedVariables false
set_option maxRecDepth 100000 in
set_option maxHeartbeats 2000000 in
theorem rvar_any (l : List Nat) (n : Nat) (hl : l.length = n) (hn : n ≤ 1000000000) (hb : ∀ i, l.getD i 0 < 256) (w : World) :
    Calls Try.prog 24 #[.string (strB l)] w (VrPost l w) := by
  have Hl := Lib.hid hl
  have Hb := Lib.hid hb
  have HB := Lib.hid (strB_byte l hb)
  have hSn : (strB l).size = n := by rw [strB_size, hl]
  clear hl hb
  generalize strB l = S at *
  go_enter Try.func24, Try.ntmps24
  go_wp2_with fail
  go_loop [5, 6] (fun v i => ∃ k x : Nat, i = .int .i64 k ∧ v = .int .u64 (x : Int) ∧ k ≤ n ∧ k ≤ 9 ∧ Hid (x < 2 ^ (7 * k)) ∧ Hid (vr l = vrN k x (l.drop k))) (fun _ i => n + 1 - (intOf i).toNat)
  case atStart => exact ⟨0, 0, rfl, rfl, by omega, by omega, Lib.hid (by decide), Lib.hid rfl⟩
  case round =>
    obtain ⟨k, x, rfl, rfl, hk, hk9, hx, hv⟩ := hrel
    by_cases hlt : k < n
    · have hlt2 : k < S.size := by omega
      have hsk := HB.out k hlt2
      have hc := Hb.out k
      have hd := drop_getD l k (by rw [Hl.out]; exact hlt)
      generalize l.getD k 0 = c at *
      have hv2 : vr l = vrN k x (c :: l.drop (k + 1)) := by rw [← hd]; exact hv.out
      have Hv := Lib.hid hv2
      have ha := and127 c hc
      clear hd hv2 hv
      by_cases hbig : k = 9 ∧ 1 < c
      · obtain ⟨h9, h1⟩ := hbig
        have Hres : Hid (vr l = (0, 0, 5)) := Lib.hid (by rw [Hv.out]; unfold vrN; rw [if_pos ⟨h9, h1⟩])
        have hk1 : ((k : Int) == 9) = true := by rw [beq_iff_eq]; omega
        clear h9
        go_wp2_with fail
        go_ret3
        exact ⟨by rw [Hres.out]; rfl, rfl⟩
      · have HE : Hid (bits .or .u64 (x : Int) (IntKind.u64.wrap ((c : Int) % 128 * 2 ^ (7 * k))) = ((x + c % 128 * 2 ^ (7 * k) : Nat) : Int)) := Lib.hid (vr_or k x c hk9 hx.out (fun h => by omega))
        have Hx2 := Lib.hid (vr_next k x c hx.out)
        have hk1 : k ≠ 9 → ((k : Int) == 9) = false := fun h => by rw [beq_eq_false_iff_ne]; omega
        have hk2 : k = 9 → ((k : Int) == 9) = true := fun h => by rw [beq_iff_eq]; omega
        by_cases h128 : 128 ≤ c
        · have Hres : Hid (vr l = vrN (k + 1) (x + c % 128 * 2 ^ (7 * k)) (l.drop (k + 1))) := Lib.hid (by
            rw [Hv.out]
            conv => lhs; unfold vrN
            rw [if_neg hbig, if_pos h128])
          have hk3 := hk1 (by omega)
          clear hk1 hk2
          go_wp2_with fail
          go_round
          case rel => exact ⟨k + 1, x + c % 128 * 2 ^ (7 * k), by go_num, congrArg _ HE.out, by omega, by omega, Hx2, Hres⟩
          case measure => simp [intOf]; omega
        · have hk4 : ((k : Int) == 9) = true ∧ ¬ 1 < c ∨ ((k : Int) == 9) = false := by
            by_cases h9 : k = 9
            · exact .inl ⟨hk2 h9, fun h => hbig ⟨h9, h⟩⟩
            · exact .inr (hk1 h9)
          clear hk1 hk2
          by_cases h0 : c = 0 ∧ 0 < k
          · have Hres : Hid (vr l = (0, 0, 3)) := Lib.hid (by
              rw [Hv.out]
              unfold vrN
              rw [if_neg hbig, if_neg h128, if_pos h0])
            obtain ⟨h01, h02⟩ := h0
            have hc0 : ((c : Int) == 0) = true := by rw [beq_iff_eq]; omega
            have hc1 : ¬ 1 < c := by omega
            clear h01 hbig
            rcases hk4 with ⟨hk4, _⟩ | hk4
            all_goals (
              go_wp2_with fail
              go_ret3
              exact ⟨by rw [Hres.out]; rfl, rfl⟩)
          · have Hres : Hid (vr l = (x + c % 128 * 2 ^ (7 * k), k + 1, 0)) := Lib.hid (by
              rw [Hv.out]
              unfold vrN
              rw [if_neg hbig, if_neg h128, if_neg h0])
            have hfin : ∀ v : Int, v = ((x + c % 128 * 2 ^ (7 * k) : Nat) : Int) → VrPost l w (.returned (.tuple #[.int .u64 v, .int .i64 ((k : Int) + 1), .int .i64 0])) w := fun v hv => by
              refine ⟨?_, rfl⟩
              rw [Hres.out, hv]
              rfl
            have Hfin := Lib.hid hfin
            clear hfin hbig
            by_cases h00 : c = 0
            · have hc0 : ((c : Int) == 0) = true := by rw [beq_iff_eq]; omega
              have hk0 : ¬ 0 < k := fun h => h0 ⟨h00, h⟩
              have hc1 : ¬ 1 < c := by omega
              clear h0 h00
              rcases hk4 with ⟨hk4, _⟩ | hk4
              all_goals (
                go_wp2_with fail
                go_ret3
                exact Hfin.out _ HE.out)
            · have hc0 : ((c : Int) == 0) = false := by rw [beq_eq_false_iff_ne]; omega
              clear h0 h00
              rcases hk4 with ⟨hk4, hc1⟩ | hk4
              all_goals (
                go_wp2_with fail
                go_ret3
                exact Hfin.out _ HE.out)
    · have hkn : l.drop k = [] := List.drop_eq_nil_of_le (by have := Hl.out; omega)
      have Hres : Hid (vr l = (0, 0, 4)) := Lib.hid (by rw [hv.out, hkn]; rfl)
      clear hkn
      go_wp2_with fail
      go_ret3
      exact ⟨by rw [Hres.out]; rfl, rfl⟩
end Go.Proofs.Ytkkdcojgnpmpgaa
