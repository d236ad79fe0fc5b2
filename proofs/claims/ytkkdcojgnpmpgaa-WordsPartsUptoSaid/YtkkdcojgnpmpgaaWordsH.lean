/- The walks of words.Var and of the document's own. -/
import Derived.Test.YtkkdcojgnpmpgaaWordsG
namespace Go.Proofs.Ytkkdcojgnpmpgaa
open Go.RowKit
set_option linter.unusedVariables false
theorem and127 (c : Nat) (hc : c < 256) : bits .and .u8 (c : Int) 127 = ((c % 128 : Nat) : Int) := by
  have hb : ∀ z : Fin 256, bits .and .u8 ((z.val : Nat) : Int) 127 = ((z.val % 128 : Nat) : Int) := by decide +kernel
  exact hb ⟨c, hc⟩
theorem vr_lt (k x c : Nat) (hk : k ≤ 9) (hx : x < 2 ^ (7 * k)) (hc : k = 9 → c ≤ 1) : x + c % 128 * 2 ^ (7 * k) < 18446744073709551616 := by
  rcases Nat.lt_or_ge k 9 with h | h
  · have h1 : 2 ^ (7 * k) ≤ 2 ^ 56 := Nat.pow_le_pow_right (by decide) (by omega)
    have h2 : c % 128 < 128 := Nat.mod_lt _ (by decide)
    have h3 : c % 128 * 2 ^ (7 * k) ≤ 127 * 2 ^ 56 := Nat.mul_le_mul (by omega) h1
    have h4 : (127 : Nat) * 2 ^ 56 = 9151314442816847872 := by decide
    have h5 : (2 : Nat) ^ 56 = 72057594037927936 := by decide
    omega
  · have h9 : k = 9 := by omega
    subst h9
    have h1 := hc rfl
    have h2 : c % 128 ≤ 1 := by omega
    have h5 : (2 : Nat) ^ (7 * 9) = 9223372036854775808 := by decide
    rw [h5] at hx ⊢
    have : c % 128 * 9223372036854775808 ≤ 1 * 9223372036854775808 := Nat.mul_le_mul_right _ h2
    omega
theorem vr_or (k x c : Nat) (hk : k ≤ 9) (hx : x < 2 ^ (7 * k)) (hc : k = 9 → c ≤ 1) :
    bits .or .u64 (x : Int) (IntKind.u64.wrap (((c % 128 : Nat) : Int) * 2 ^ (7 * k))) = ((x + c % 128 * 2 ^ (7 * k) : Nat) : Int) := by
  have hl := vr_lt k x c hk hx hc
  have e : ((c % 128 : Nat) : Int) * 2 ^ (7 * k) = ((c % 128 * 2 ^ (7 * k) : Nat) : Int) := by
    rw [Int.natCast_mul, Int.natCast_pow]; rfl
  rw [e, IntWalk.u64_in _ (by omega), u64_or_nat _ _ (by omega) (by omega)]
  congr 1
  have h := Nat.shiftLeft_add_eq_or_of_lt hx (c % 128)
  rw [Nat.shiftLeft_eq] at h
  rw [Nat.or_comm, ← h, Nat.add_comm]
theorem vr_next (k x c : Nat) (hx : x < 2 ^ (7 * k)) : x + c % 128 * 2 ^ (7 * k) < 2 ^ (7 * (k + 1)) := by
  have e2 : 2 ^ (7 * (k + 1)) = 128 * 2 ^ (7 * k) := by rw [Nat.mul_add, Nat.pow_add, Nat.mul_comm]
  have h2 : c % 128 < 128 := Nat.mod_lt _ (by decide)
  have h3 : c % 128 * 2 ^ (7 * k) ≤ 127 * 2 ^ (7 * k) := Nat.mul_le_mul_right _ (by omega)
  rw [e2]
  omega
theorem drop_getD (l : List Nat) (k : Nat) (h : k < l.length) : l.drop k = l.getD k 0 :: l.drop (k + 1) := by
  rw [List.drop_eq_getElem_cons h]
  simp [List.getD, h]
def VrPost (l : List Nat) (w : World) (e : Ending) (w' : World) : Prop :=
  e = .returned (.tuple #[.int .u64 (((vr l).1 : Nat) : Int), .int .i64 (((vr l).2.1 : Nat) : Int), .int .i64 (((vr l).2.2 : Nat) : Int)]) ∧ w = w'
set_option maxRecDepth 100000 in
set_option maxHeartbeats 2000000 in
theorem var_any (A : Option Addr) (n cap : Nat) (l : List Nat) (hl : l.length = n) (hn : n ≤ 9223372036854775807) (hb : ∀ i, l.getD i 0 < 256) (w : World) (hr : Reads w w.heap.size 1 A n (Ints .u8 l)) :
    Calls Try.prog 21 #[.slice A n cap] w (VrPost l w) := by
  have Hl := Lib.hid hl
  have Hr := Lib.hid hr
  have Hb := Lib.hid hb
  clear hl hr hb
  go_enter Try.func21, Try.ntmps21
  go_wp2_with fail
  go_loop [9, 2] (fun i v => ∃ k x : Nat, i = .int .i64 k ∧ v = .int .u64 (x : Int) ∧ k ≤ n ∧ k ≤ 9 ∧ Hid (x < 2 ^ (7 * k)) ∧ Hid (vr l = vrN k x (l.drop k))) (fun i _ => n - (intOf i).toNat)
  case atStart => exact ⟨0, 0, rfl, rfl, by omega, by omega, Lib.hid (by decide), Lib.hid rfl⟩
  case round =>
    obtain ⟨k, x, rfl, rfl, hk, hk9, hx, hv⟩ := hrel
    by_cases hlt : k < n
    · obtain ⟨ad, hA, hx0, hcell⟩ := Reads.ints_at (l := l) (by rw [Hl.out]; exact Hr.out) k (by rw [Hl.out]; exact hlt)
      subst hA
      have hc := Hb.out k
      have hd := drop_getD l k (by rw [Hl.out]; exact hlt)
      generalize l.getD k 0 = c at *
      have hv2 : vr l = vrN k x (c :: l.drop (k + 1)) := by rw [← hd]; exact hv.out
      have Hv := Lib.hid hv2
      have ha := and127 c hc
      clear hd hv2 hv
      by_cases hbig : k = 9 ∧ 1 < c
      · obtain ⟨h9, h1⟩ := hbig
        have Hres : Hid (vr l = (0, 0, 5)) := Lib.hid (by rw [Hv.out]; unfold vrN; rw [if_pos ⟨h9, h1⟩])
        have hk1 : ((k : Int) == 9) = true := by rw [beq_iff_eq]; omega
        clear h9
        go_wp2_with fail
        go_ret3
        exact ⟨by rw [Hres.out]; rfl, rfl⟩
      · have HE : Hid (bits .or .u64 (x : Int) (IntKind.u64.wrap ((c : Int) % 128 * 2 ^ (7 * k))) = ((x + c % 128 * 2 ^ (7 * k) : Nat) : Int)) := Lib.hid (vr_or k x c hk9 hx.out (fun h => by omega))
        have Hx2 := Lib.hid (vr_next k x c hx.out)
        have hk1 : k ≠ 9 → ((k : Int) == 9) = false := fun h => by rw [beq_eq_false_iff_ne]; omega
        have hk2 : k = 9 → ((k : Int) == 9) = true := fun h => by rw [beq_iff_eq]; omega
        by_cases h128 : 128 ≤ c
        · have Hres : Hid (vr l = vrN (k + 1) (x + c % 128 * 2 ^ (7 * k)) (l.drop (k + 1))) := Lib.hid (by
            rw [Hv.out]
            conv => lhs; unfold vrN
            rw [if_neg hbig, if_pos h128])
          have hk3 := hk1 (by omega)
          clear hk1 hk2
          go_wp2_with fail
          go_round
          case rel => exact ⟨k + 1, x + c % 128 * 2 ^ (7 * k), by go_num, congrArg _ HE.out, by omega, by omega, Hx2, Hres⟩
          case measure => simp [intOf]; omega
        · have hk4 : ((k : Int) == 9) = true ∧ ¬ 1 < c ∨ ((k : Int) == 9) = false := by
            by_cases h9 : k = 9
            · exact .inl ⟨hk2 h9, fun h => hbig ⟨h9, h⟩⟩
            · exact .inr (hk1 h9)
          clear hk1 hk2
          by_cases h0 : c = 0 ∧ 0 < k
          · have Hres : Hid (vr l = (0, 0, 3)) := Lib.hid (by
              rw [Hv.out]
              unfold vrN
              rw [if_neg hbig, if_neg h128, if_pos h0])
            obtain ⟨h01, h02⟩ := h0
            have hc0 : ((c : Int) == 0) = true := by rw [beq_iff_eq]; omega
            have hc1 : ¬ 1 < c := by omega
            clear h01 hbig
            rcases hk4 with ⟨hk4, _⟩ | hk4
            all_goals (
              go_wp2_with fail
              go_ret3
              exact ⟨by rw [Hres.out]; rfl, rfl⟩)
          · have Hres : Hid (vr l = (x + c % 128 * 2 ^ (7 * k), k + 1, 0)) := Lib.hid (by
              rw [Hv.out]
              unfold vrN
              rw [if_neg hbig, if_neg h128, if_neg h0])
            have hfin : ∀ v : Int, v = ((x + c % 128 * 2 ^ (7 * k) : Nat) : Int) → VrPost l w (.returned (.tuple #[.int .u64 v, .int .i64 ((k : Int) + 1), .int .i64 0])) w := fun v hv => by
              refine ⟨?_, rfl⟩
              rw [Hres.out, hv]
              rfl
            have Hfin := Lib.hid hfin
            clear hfin hbig
            by_cases h00 : c = 0
            · have hc0 : ((c : Int) == 0) = true := by rw [beq_iff_eq]; omega
              have hk0 : ¬ 0 < k := fun h => h0 ⟨h00, h⟩
              have hc1 : ¬ 1 < c := by omega
              clear h0 h00
              rcases hk4 with ⟨hk4, _⟩ | hk4
              all_goals (
                go_wp2_with fail
                go_ret3
                exact Hfin.out _ HE.out)
            · have hc0 : ((c : Int) == 0) = false := by rw [beq_eq_false_iff_ne]; omega
              clear h0 h00
              rcases hk4 with ⟨hk4, hc1⟩ | hk4
              all_goals (
                go_wp2_with fail
                go_ret3
                exact Hfin.out _ HE.out)
    · have hkn : l.drop k = [] := List.drop_eq_nil_of_le (by have := Hl.out; omega)
      have Hres : Hid (vr l = (0, 0, 4)) := Lib.hid (by rw [hv.out, hkn]; rfl)
      clear hkn
      go_wp2_with fail
      go_ret3
      exact ⟨by rw [Hres.out]; rfl, rfl⟩
end Go.Proofs.Ytkkdcojgnpmpgaa
