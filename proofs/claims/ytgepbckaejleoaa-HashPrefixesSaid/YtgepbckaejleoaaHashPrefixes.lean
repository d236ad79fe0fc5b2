/- HashPrefixes: for every word and every depth the law returns true. -/
import Derived.Test.YtgepbckaejleoaaRows
import Derived.WalkKit
import Derived.ProofKit
import Derived.OpenShut
import Derived.ShutString
import Derived.Test.YtgepbckaejleoaaWalkA
import Derived.Deep.QuietTactic
import Derived.BigQuiet
import Derived.Handy
namespace Go.Proofs.Ytgepbckaejleoaa.hashPrefixes
open Go.ChangeShapes Go.WideShapes Go.ChangeAt Go.RowKit
open Go.ChangeMaps (open_string shut_string)
set_option linter.unusedVariables false

theorem own : ownKnob Try.prog.godebug = none := by kernel_rfl

theorem u64_lo {a : Int} (h : (Lit.int .u64 a).wf = true) : 0 ≤ a ∧ a < 18446744073709551616 := by
  simp [Lit.wf, IntKind.min, IntKind.max, IntKind.signed, IntKind.bits] at h
  omega
theorem nat_lo {x : Nat} (h : (x : Int) < 18446744073709551616) : x < two64 := by unfold two64; omega
set_option maxHeartbeats 1000000 in
theorem small (h : Nat) (a : Int) (H : Hid (h < two64)) (h1 : a < 1) (w : World) :
    Calls Try.prog 7 #[.int .u64 (h : Int), .int .i64 a] w fun e w' => e = .returned (.bool true) ∧ Grown w w' := by
  rcases Int.lt_or_le a 0 with h2 | h2
  · go_enter Try.func7, Try.ntmps7
    go_wp2_with fail
    refine (prefix_none h a h1 _).mono ?_
    rintro e w' ⟨rfl, rfl⟩
    go_wp2_with fail
    refine wp_loop_rounds 1 ?_
    rw [rounds_succ]
    go_wp2_with fail
    refine (awake_any _).mono ?_
    rintro e w' ⟨rfl, rfl⟩
    go_wp2_with fail
    go_ret
    exact ⟨rfl, Grown.refl _⟩
  · obtain rfl : a = 0 := by omega
    go_enter Try.func7, Try.ntmps7
    go_wp2_with fail
    refine (prefix_none h 0 h1 _).mono ?_
    rintro e w' ⟨rfl, rfl⟩
    go_wp2_with fail
    refine wp_loop_rounds 1 ?_
    rw [rounds_succ]
    go_wp2_with fail
    refine (awake_any _).mono ?_
    rintro e w' ⟨rfl, rfl⟩
    go_wp2_with fail
    go_ret
    exact ⟨rfl, Grown.refl _⟩
theorem ofInt_i64 (a : Nat) (ha : a < 9223372036854775808) : (BitVec.ofInt 64 (a : Int)).toNat = a := by
  rw [BitVec.ofInt_natCast, BitVec.toNat_ofNat]; exact Nat.mod_eq_of_lt (by omega)
theorem i64_and_one (a : Nat) (ha : a < 9223372036854775808) : bits .and .i64 (a : Int) 1 = ((a % 2 : Nat) : Int) := by
  have hx : a &&& 1 = a % 2 := Nat.and_two_pow_sub_one_eq_mod a 1
  show IntKind.i64.wrap ((BitVec.ofInt 64 (a : Int) &&& BitVec.ofInt 64 ((1 : Nat) : Int)).toNat : Int) = _
  rw [BitVec.toNat_and, ofInt_i64 a ha, ofInt_i64 1 (by decide), IntKind.wrap_i64, hx]
  omega
theorem quo_word (x j : Nat) : ((x : Int) / 2 ^ j) = ((x / 2 ^ j : Nat) : Int) := by
  rw [Int.natCast_ediv, Int.natCast_pow]; rfl
theorem bit_same (h D k : Nat) (hh : h < two64) (hD : D ≤ 16) (hk : k < D) :
    (bits .and .i64 (((pre h D : Nat) : Int) / 2 ^ (D - 1 - k)) 1 != wrap64 (bits .and .u64 ((h : Int) / 2 ^ (63 - k)) 1)) = false := by
  have e : pre h D / 2 ^ (D - 1 - k) = h / 2 ^ (63 - k) := pre_bits h D k (by omega) hk
  have hp := pre_small h D hh hD
  have hq : pre h D / 2 ^ (D - 1 - k) < 65536 := Nat.lt_of_le_of_lt (Nat.div_le_self _ _) hp
  rw [quo_word, quo_word, ← e]
  have b := bits_and_u64_nat (pre h D / 2 ^ (D - 1 - k)) 1 (by omega) (by decide)
  have hx : pre h D / 2 ^ (D - 1 - k) &&& 1 = pre h D / 2 ^ (D - 1 - k) % 2 := Nat.and_two_pow_sub_one_eq_mod _ 1
  rw [hx] at b
  have b' : bits .and .u64 ((pre h D / 2 ^ (D - 1 - k) : Nat) : Int) 1 = ((pre h D / 2 ^ (D - 1 - k) % 2 : Nat) : Int) := b
  rw [i64_and_one _ (by omega), b', IntWalk.wrap64_in _ (by omega)]
  simp
theorem prefix_gen (h : Nat) (d : Int) (hh : h < two64) (h0 : 0 ≤ d) (h1 : d ≤ 16) (w : World) :
    Calls Try.prog 13 #[.int .u64 (h : Int), .int .i64 d] w fun e w' => e = .returned (.int .i64 (pre h d.toNat : Nat)) ∧ w = w' := by
  rcases Int.lt_or_le d 1 with h2 | h2
  · refine (prefix_none h d h2 w).mono fun e w' ⟨he, hw⟩ => ⟨he.trans (ret_i64 ?_), hw⟩
    have e0 : d.toNat = 0 := by omega
    rw [e0]
    have e3 : pre h 0 = 0 := Nat.div_eq_of_lt hh
    rw [e3]
    rfl
  · refine (prefix_some h d hh h2 w).mono fun e w' ⟨he, hw⟩ => ⟨he.trans (ret_i64 ?_), hw⟩
    rw [Int.min_eq_left h1]
theorem pre_half (h D : Nat) (h1 : 1 ≤ D) (h2 : D ≤ 16) : pre h D / 2 = pre h (D - 1) := by
  unfold pre
  rw [Nat.div_div_eq_div_mul]
  have : 2 ^ (64 - D) * 2 = 2 ^ (64 - (D - 1)) := by
    rw [← Nat.pow_succ]; congr 1; omega
  rw [this]
theorem half_same (h D : Nat) (h1 : 1 ≤ D) (h2 : D ≤ 16) : (((pre h D : Nat) : Int) / 2 == ((pre h (D - 1) : Nat) : Int)) = true := by
  have := pre_half h D h1 h2
  rw [beq_iff_eq]
  omega
theorem pow_word (D : Nat) (h2 : D ≤ 16) : wrap64 (2 ^ D) = ((2 ^ D : Nat) : Int) := by
  have : (2 : Nat) ^ D ≤ 2 ^ 16 := Nat.pow_le_pow_right (by decide) h2
  have e : ((2 : Int) ^ D) = ((2 ^ D : Nat) : Int) := by rw [Int.natCast_pow]; rfl
  rw [e]
  generalize 2 ^ D = m at *
  rw [IntWalk.wrap64_in _ (by omega)]
theorem Grown_drewN {w wr : World} (h : Grown w wr) (n : Nat) : Grown w (wr.drewN n) := h
theorem val_i64 {a b : Int} (h : a = b) : (Value.int .i64 a) = (.int .i64 b) := by rw [h]
set_option maxRecDepth 100000 in
set_option maxHeartbeats 2000000 in
theorem great (h : Nat) (a : Int) (H : Hid (h < two64)) (h1 : 1 ≤ a) (w : World) :
    Calls Try.prog 7 #[.int .u64 (h : Int), .int .i64 a] w fun e w' => e = .returned (.bool true) ∧ Grown w w' := by
  by_cases h16 : a ≤ 16
  all_goals
    have h1D : 1 ≤ (min a 16).toNat := by omega
    have h2D : (min a 16).toNat ≤ 16 := by omega
    go_enter Try.func7, Try.ntmps7
    go_wp2_with fail
    refine (prefix_some h a H.out (by omega) _).mono ?_
    rintro e w' ⟨rfl, rfl⟩
    go_wp2_with fail
    first | rw [show Value.int .i64 a = Value.int .i64 ((min a 16).toNat : Int) from val_i64 (by omega)] | rw [show Value.int .i64 16 = Value.int .i64 ((min a 16).toNat : Int) from val_i64 (by omega)]
    generalize (min a 16).toNat = D at *
    go_loopw [7] (fun i wr => ∃ k : Nat, k ≤ D ∧ i = .int .i64 k ∧ Grown w wr) (fun i _ => D - (intOf i).toNat)
    case atStart => exact ⟨0, by omega, rfl, Grown.refl _⟩
    case round =>
      obtain ⟨k, hk, rfl, hg⟩ := hrel
      have h1 := h1D
      have h2 := h2D
      clear h16
      have hp := pre_small h D H.out h2
      have hlt2 : ((pre h D : Nat) : Int) < wrap64 (2 ^ D) := by rw [pow_word D h2]; have := pre_lt h D H.out h2; omega
      have hD0 : ((D : Int) == 0) = false := by rw [beq_eq_false_iff_ne]; omega
      have hhalf := half_same h D h1 h2
      by_cases hlt : k < D
      · have a1 : (0 : Int) ≤ (D : Int) - 1 - (k : Int) := by omega
        have a2 : IntKind.i64.wrap ((D : Int) - 1) = (D : Int) - 1 := IntWalk.i64_in _ (by omega)
        have a3 : IntKind.i64.wrap ((D : Int) - 1 - (k : Int)) = (D : Int) - 1 - (k : Int) := IntWalk.i64_in _ (by omega)
        have a4 : IntKind.i64.wrap (63 - (k : Int)) = 63 - (k : Int) := IntWalk.i64_in _ (by omega)
        have a5 : (0 : Int) ≤ 63 - (k : Int) := by omega
        have hb := bit_same h D k H.out h2 hlt
        go_wp2_with fail
        go_quiet (fail)
        go_wp2_with fail
        go_roundw
        case rel => exact ⟨k + 1, by omega, by go_num, Grown_drewN hg nq⟩
        case measure => simp [intOf]; omega
      · go_wp2_with fail
        refine (prefix_gen h ((D : Int) - 1) H.out (by omega) (by omega) _).mono ?_
        have e2 : ((D : Int) - 1).toNat = D - 1 := by omega
        rw [e2]
        clear e2
        rintro e w' ⟨rfl, rfl⟩
        go_wp2_with fail
        refine (awake_any _).mono ?_
        rintro e w' ⟨rfl, rfl⟩
        go_wp2_with fail
        go_ret
        exact ⟨rfl, hg⟩
set_option maxRecDepth 100000 in
set_option maxHeartbeats 1000000 in
theorem walk (a0 : Int) (a1 : Int) (w0 : (Lit.int .u64 a0).wf = true) (w1 : (Lit.int .i64 a1).wf = true) (w : World) :
    Calls Try.prog 7 #[.int .u64 a0, .int .i64 a1] w fun e w' => e = .returned (.bool true) ∧ Grown w w' := by

  have b0 := u64_lo w0
  obtain ⟨h, rfl⟩ := Int.eq_ofNat_of_zero_le b0.1
  have H0 := Lib.hid (nat_lo b0.2)
  rcases Int.lt_or_le a1 1 with h1 | h1
  · exact small h a1 H0 h1 w
  · exact great h a1 H0 h1 w

set_option maxRecDepth 100000 in
theorem lifted (os : Os) (started : os.Started) (H : Type) (enc : TypeId × Value → H) :
    ReturnsInHanded {} Try.checked os 7 .any (Rows.hashPrefixesSpec.pre6 enc Try.prog Try.f7 Rows.hashPrefixesRow.domain false) (Rows.hashPrefixesSpec.post enc Try.prog Try.f7 false true false false) := by
  refine returnsInHanded_of_change (C := Try.checked) own started (by kernel_rfl) Try.func7
    (ChangeSpec.witness6 (enc := enc) (C := Try.checked) false ⟨#[], #[.int .u64 0, .int .i64 0], []⟩ 8 (by kernel_rfl) (by kernel_rfl) (by kernel_rfl) (by kernel_rfl)) ?_
  intro W base args ds gs before hval0 hW hcnd _
  have hval : ∀ (j : Nat) t v, Try.f7.params[j]? = some t → args[j]? = some v → Value.okWide Try.prog W .any base t v := hval0
  have hW' := hW
  obtain ⟨p, q, hA0, hV, rfl, hfz, hnd⟩ := hW
  have hA : DataW.TrodAll enc Try.prog W 0 (fun _ => true) true Try.f7.params.toList args.toList ds p := hA0
  rw [Try.params7] at hA hval
  obtain ⟨v0, vs0, d0, ds0, p0, q0, hargs, rfl, rfl, h0, r0⟩ := trodAll_cons hA
  obtain ⟨v1, vs1, d1, ds1, p1, q1, rfl, rfl, rfl, h1, r1⟩ := trodAll_cons r0
  obtain ⟨rfl, rfl, rfl⟩ := trodAll_nil r1
  obtain rfl : args = #[v0, v1] := by cases args; simp_all
  obtain ⟨rfl, rfl⟩ := trodVars_none hV
  obtain ⟨a0, rfl, rfl, rfl, w0⟩ := open_int Try.underlying22 (hval 0 22 v0 rfl rfl) h0
  obtain ⟨a1, rfl, rfl, rfl, w1⟩ := open_int Try.underlying3 (hval 1 3 v1 rfl rfl) h1
  clear hA0 hval0
  simp only [List.append_nil] at hW'
  refine (walk a0 a1 w0 w1 W).mono fun e W' ⟨he, hg⟩ => ?_
  subst he
  exact ⟨_, rfl, post_of_same (pa := []) (pv := []) hW' (fun _ _ _ => (trodAll_cons_mk (shut_bool Try.underlying4 _) trodAll_mk0)) (fun sp _ => (trodAll_cons_mk (shut_int Try.underlying22 w0) (trodAll_cons_mk (shut_int Try.underlying3 w1) trodAll_mk0))) (fun _ _ => rfl) rfl
    (hg.frame _) hg.2.1 (ok_one (by kernel_rfl) rfl (okWide_bool_mk Try.underlying4 _))⟩

theorem over : Rows.hashPrefixesRow.holds Try.pinned (OpenSpec.ofChange Rows.hashPrefixesSpec) :=
  OpenClaim.holds_of_wide 7 Try.f7 rfl rfl rfl rfl rfl rfl rfl ⟨rfl, rfl, rfl, rfl, rfl⟩ rfl rfl rfl rfl rfl (by kernel_rfl) Try.func7 (by kernel_rfl)
    (of_decide_eq_true (by kernel_rfl)) (by unfold Func.isWrapper; first | (rw [if_pos (by decide +kernel)]; kernel_rfl) | (rw [if_neg (by decide +kernel)]; exact ⟨rfl, rfl⟩))
    (fun os started H enc _ => lifted os started H enc)

theorem proved : Rows.HashPrefixesSaid :=
  over
#print axioms proved
end Go.Proofs.Ytgepbckaejleoaa.hashPrefixes
