/- HashBack: for every word the law returns true. -/
import Derived.Test.YtgepbckaejleoaaRows
import Derived.WalkKit
import Derived.ProofKit
import Derived.OpenShut
import Derived.ShutString
import Derived.Test.YtgepbckaejleoaaWalkA
namespace Go.Proofs.Ytgepbckaejleoaa.hashBack
open Go.ChangeShapes Go.WideShapes Go.ChangeAt Go.RowKit
open Go.ChangeMaps (open_string shut_string)
set_option linter.unusedVariables false

theorem own : ownKnob Try.prog.godebug = none := by kernel_rfl

theorem u64_lo {a : Int} (h : (Lit.int .u64 a).wf = true) : 0 ≤ a ∧ a < 18446744073709551616 := by
  simp [Lit.wf, IntKind.min, IntKind.max, IntKind.signed, IntKind.bits] at h
  omega
theorem nat_lo {x : Nat} (h : (x : Int) < 18446744073709551616) : x < two64 := by unfold two64; omega
theorem mul_word (a b : Nat) : IntKind.u64.wrap ((a : Int) * (b : Int)) = ((a * b % two64 : Nat) : Int) := by
  rw [IntKind.wrap_u64, Int.natCast_emod, Int.natCast_mul]; rfl
theorem sub_word (n : Nat) : IntKind.u64.wrap (2 - IntKind.u64.wrap (15485907386658061715 * (n : Int))) = (((2 + (two64 - oddN * n % two64)) % two64 : Nat) : Int) := by
  rw [IntKind.wrap_u64, IntKind.wrap_u64]
  unfold two64 oddN
  omega
theorem newt_word (k : Nat) : IntKind.u64.wrap (((newt k : Nat) : Int) * IntKind.u64.wrap (2 - IntKind.u64.wrap (15485907386658061715 * ((newt k : Nat) : Int)))) = ((newt (k + 1) : Nat) : Int) := by
  rw [sub_word, mul_word]
  show _ = ((newt k * ((2 + (two64 - oddN * newt k % two64)) % two64) % two64 : Nat) : Int)
  rfl
theorem back_steps (x : Nat) (h : x < two64) : ∃ A B C D : Nat,
    bits .xor .u64 ((mix x : Nat) : Int) (((mix x : Nat) : Int) / 4294967296) = (A : Int) ∧ IntKind.u64.wrap ((A : Int) * ((newt 6 : Nat) : Int)) = (B : Int) ∧
    bits .xor .u64 (B : Int) ((B : Int) / 4294967296) = (C : Int) ∧ IntKind.u64.wrap ((C : Int) * ((newt 6 : Nat) : Int)) = (D : Int) ∧
    bits .xor .u64 (D : Int) ((D : Int) / 4294967296) = (x : Int) := by
  refine ⟨_, _, _, _, xs_word _ (mix_lt x h), mul_word _ _, xs_word _ (Nat.mod_lt _ (by decide)), mul_word _ _, ?_⟩
  rw [xs_word _ (Nat.mod_lt _ (by decide))]
  exact congrArg _ (mix_back x h)
set_option maxRecDepth 100000 in
set_option maxHeartbeats 1000000 in
theorem walk (a0 : Int) (w0 : (Lit.int .u64 a0).wf = true) (w : World) :
    Calls Try.prog 4 #[.int .u64 a0] w fun e w' => e = .returned (.bool true) ∧ Grown w w' := by

  have b0 := u64_lo w0
  obtain ⟨x, rfl⟩ := Int.eq_ofNat_of_zero_le b0.1
  have H := Lib.hid (nat_lo b0.2)
  clear b0 w0
  obtain ⟨A, B, C, D, hA, hB, hC, hD, hx⟩ := back_steps x H.out
  go_enter Try.func4, Try.ntmps4
  go_wp2_with (go_at_call 11; refine (mix_any x H.out _).mono ?_; rintro e w' ⟨rfl, rfl⟩)
  go_loop [4, 5] (fun v i => ∃ k : Nat, k ≤ 6 ∧ i = .int .i64 k ∧ v = .int .u64 (newt k : Nat)) (fun _ i => 6 - (intOf i).toNat)
  case atStart => exact ⟨0, by omega, rfl, rfl⟩
  case round =>
    obtain ⟨k, hk, rfl, rfl⟩ := hrel
    by_cases hlt : k < 6
    · go_wp2
      go_round
      case rel => exact ⟨k + 1, by omega, by go_num, val_u64 (newt_word k)⟩
      case measure => simp [intOf]; omega
    · obtain rfl : k = 6 := by omega
      have hxx : ((x : Int) == x) = true := by simp
      go_wp2_with (go_at_call 10; refine (awake_any _).mono ?_; rintro e w' ⟨rfl, rfl⟩)
      go_ret
      exact ⟨rfl, Grown.refl _⟩

set_option maxRecDepth 100000 in
theorem lifted (os : Os) (started : os.Started) (H : Type) (enc : TypeId × Value → H) :
    ReturnsInHanded {} Try.checked os 4 .any (Rows.hashBackSpec.pre6 enc Try.prog Try.f4 Rows.hashBackRow.domain false) (Rows.hashBackSpec.post enc Try.prog Try.f4 false true false false) := by
  refine returnsInHanded_of_change (C := Try.checked) own started (by kernel_rfl) Try.func4
    (ChangeSpec.witness6 (enc := enc) (C := Try.checked) false ⟨#[], #[.int .u64 0], []⟩ 8 (by kernel_rfl) (by kernel_rfl) (by kernel_rfl) (by kernel_rfl)) ?_
  intro W base args ds gs before hval0 hW hcnd _
  have hval : ∀ (j : Nat) t v, Try.f4.params[j]? = some t → args[j]? = some v → Value.okWide Try.prog W .any base t v := hval0
  have hW' := hW
  obtain ⟨p, q, hA0, hV, rfl, hfz, hnd⟩ := hW
  have hA : DataW.TrodAll enc Try.prog W 0 (fun _ => true) true Try.f4.params.toList args.toList ds p := hA0
  rw [Try.params4] at hA hval
  obtain ⟨v0, vs0, d0, ds0, p0, q0, hargs, rfl, rfl, h0, r0⟩ := trodAll_cons hA
  obtain ⟨rfl, rfl, rfl⟩ := trodAll_nil r0
  obtain rfl : args = #[v0] := by cases args; simp_all
  obtain ⟨rfl, rfl⟩ := trodVars_none hV
  obtain ⟨a0, rfl, rfl, rfl, w0⟩ := open_int Try.underlying22 (hval 0 22 v0 rfl rfl) h0
  clear hA0 hval0
  simp only [List.append_nil] at hW'
  refine (walk a0 w0 W).mono fun e W' ⟨he, hg⟩ => ?_
  subst he
  exact ⟨_, rfl, post_of_same (pa := []) (pv := []) hW' (fun _ _ _ => (trodAll_cons_mk (shut_bool Try.underlying4 _) trodAll_mk0)) (fun sp _ => (trodAll_cons_mk (shut_int Try.underlying22 w0) trodAll_mk0)) (fun _ _ => rfl) rfl
    (hg.frame _) hg.2.1 (ok_one (by kernel_rfl) rfl (okWide_bool_mk Try.underlying4 _))⟩

theorem over : Rows.hashBackRow.holds Try.pinned (OpenSpec.ofChange Rows.hashBackSpec) :=
  OpenClaim.holds_of_wide 4 Try.f4 rfl rfl rfl rfl rfl rfl rfl ⟨rfl, rfl, rfl, rfl, rfl⟩ rfl rfl rfl rfl rfl (by kernel_rfl) Try.func4 (by kernel_rfl)
    (of_decide_eq_true (by kernel_rfl)) (by unfold Func.isWrapper; first | (rw [if_pos (by decide +kernel)]; kernel_rfl) | (rw [if_neg (by decide +kernel)]; exact ⟨rfl, rfl⟩))
    (fun os started H enc _ => lifted os started H enc)

theorem proved : Rows.HashBackSaid :=
  over
#print axioms proved
end Go.Proofs.Ytgepbckaejleoaa.hashBack
