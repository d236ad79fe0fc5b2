/- FrameLoads: for every slice of payloads, fed byte by byte or whole, the law returns true. -/
import Derived.Test.YtmpiacoddifjiaaRows
import Derived.WalkKit
import Derived.ProofKit
import Derived.OpenShut
import Derived.ShutString
import Derived.ChangeOld
import Derived.ChangeSlices
import Derived.Below
import Derived.Deep.Matrix
import Derived.Test.YtmpiacoddifjiaaFrameV
namespace Go.Proofs.Ytmpiacoddifjiaa.frameLoads
open Go.ChangeShapes Go.WideShapes Go.ChangeAt Go.RowKit
set_option linter.unusedVariables false
theorem own : ownKnob Try.prog.godebug = none := by kernel_rfl
theorem laidOut : laidOutB Try.prog = true := by kernel_rfl
theorem cellsRow : Try.prog.cellsOf 26 = 1 := by kernel_rfl
theorem cellsByte : Try.prog.cellsOf 5 = 1 := by kernel_rfl
theorem bytes_lt {l : List Nat} (h : ∀ n ∈ l, (Lit.int .u8 (n : Int)).wf = true) : ∀ i, l.getD i 0 < 256 := by
  intro i
  rcases Nat.lt_or_ge i l.length with hi | hi
  · have := (u8_lo (h _ (List.getElem_mem hi))).2
    simp [List.getD, hi]
    omega
  · simp [List.getD, hi]
theorem lifted (os : Os) (started : os.Started) (H : Type) (enc : TypeId × Value → H) :
    ReturnsInHanded {} Try.checked os 8 .any (Rows.frameLoadsSpec.pre6 enc Try.prog Try.f8 Rows.frameLoadsRow.domain false) (Rows.frameLoadsSpec.post enc Try.prog Try.f8 false true false false) := by
  refine returnsInHanded_of_change (C := Try.checked) own started (by kernel_rfl) Try.func8
    (ChangeSpec.witness6 (enc := enc) (C := Try.checked) false ⟨#[], #[.slice none 0 0, .bool false], []⟩ 8 (by kernel_rfl) (by kernel_rfl) (by kernel_rfl) (by kernel_rfl)) ?_
  intro W base args ds gs before hval0 hW hcnd _
  have hval : ∀ (j : Nat) t v, Try.f8.params[j]? = some t → args[j]? = some v → Value.okWide Try.prog W .any base t v := hval0
  have hW' := hW
  obtain ⟨p, q, hA0, hV, rfl, hfz, hnd⟩ := hW
  have hA : DataW.TrodAll enc Try.prog W 0 (fun _ => true) true Try.f8.params.toList args.toList ds p := hA0
  rw [Try.params8] at hA hval
  obtain ⟨v0, vs0, d0, ds0, p0, q0, hargs, rfl, rfl, h0, r0⟩ := trodAll_cons hA
  obtain ⟨v1, vs1, d1, ds1, p1, q1, rfl, rfl, rfl, h1, r1⟩ := trodAll_cons r0
  obtain ⟨rfl, rfl, rfl⟩ := trodAll_nil r1
  obtain rfl : args = #[v0, v1] := by cases args; simp_all
  obtain ⟨rfl, rfl⟩ := trodVars_none hV
  obtain ⟨a0, len0, cap0, rfl⟩ := okWide_slice Try.underlying43 (hval 0 43 v0 rfl rfl)
  have k0 := h0
  have lt0 : ∀ x ∈ p0, x.block < W.heap.size := by obtain ⟨m, hm⟩ := k0; exact DataW.trod_lt m _ _ _ hm
  obtain ⟨A, L, C, ps, hlen, hr, hrow⟩ : ∃ (A : Nat → Option Addr) (L C : Nat → Nat) (ps : Nat → List Nat), len0 ≤ 9223372036854775807 ∧
      Reads W W.heap.size 1 a0 len0 ((List.range len0).map fun r => Value.slice (A r) (L r) (C r)) ∧
      ∀ r, r < len0 → Reads W W.heap.size 1 (A r) (L r) (Ints .u8 (ps r)) ∧ (ps r).length = L r ∧ (∀ i, (ps r).getD i 0 < 256) ∧ L r ≤ 9223372036854775807 := by
    obtain ⟨fuel, hf⟩ := h0
    rcases Go.Deep.open_int_rows Try.underlying43 Try.underlying26 Try.underlying5 cellsRow cellsByte hf with ⟨hcs, _⟩ | ⟨x, l, c, A, L, C, Z, hcs, _, hl, hm, _, hcell⟩
    · simp [Value.cells] at hcs
      obtain ⟨rfl, rfl, rfl⟩ := hcs
      exact ⟨fun _ => none, fun _ => 0, fun _ => 0, fun _ => [], by decide, Reads.none_, fun r h => absurd h (by omega)⟩
    · simp [Value.cells] at hcs
      obtain ⟨rfl, rfl, rfl⟩ := hcs
      refine ⟨A, L, C, fun r => natsOf (L r) (Z r), by unfold maxLen at hm; omega, ⟨by simp, fun hn => ⟨x, rfl, ?_, ?_⟩⟩, ?_⟩
      · have := World.block_lt_of_cell? W _ (hcell 0 (by omega)).1
        rwa [block_of_add] at this
      · intro j u hu
        have hj : j < len0 := by have := (List.getElem?_eq_some_iff.1 hu).1; simpa using this
        rw [(hcell j (by omega)).1]
        simp [hj] at hu
        rw [← hu]
      · intro r hr
        obtain ⟨_, h1, h2, h3, h4, h5, h6⟩ := hcell r (by omega)
        have hrow : IsRow .u8 W (A r) (L r) (C r) (Z r) := by
          cases hA : A r with
          | none =>
            have hC := h5 hA
            refine .inl ⟨rfl, by omega, hC, ?_⟩
            exact List.eq_nil_of_length_eq_zero (by omega)
          | some a => exact .inr ⟨a, rfl, h1, h2, h3, fun i hi => (h6 a hA).2 i (by omega), h4⟩
        obtain ⟨g1, g2, g3, g4, g5⟩ := IsRow.reads hrow (fun n h => (u8_lo h).1)
        exact ⟨g1, g2, bytes_lt g5, by unfold maxLen at g3; exact g3⟩
  have k1 := h1
  have lt1 : ∀ x ∈ p1, x.block < W.heap.size := by obtain ⟨m, hm⟩ := k1; exact DataW.trod_lt m _ _ _ hm
  obtain ⟨b1, rfl, rfl, rfl⟩ := open_bool Try.underlying4 (hval 1 4 v1 rfl rfl) h1
  clear hA0 hval0
  refine (loads_any a0 len0 cap0 b1 A L C ps W hlen hr hrow).mono fun e W' ⟨he, bel⟩ => ?_
  subst he
  exact ⟨_, rfl, _, _, _, [], _, [], hW', trodAll_mk1 (shut_bool Try.underlying4 _), (trodAll_cons_mk (Below.trod laidOut (by kernel_rfl) (of_decide_eq_true (by kernel_rfl)) k0 bel lt0) (trodAll_cons_mk (Below.trod laidOut (by kernel_rfl) (of_decide_eq_true (by kernel_rfl)) k1 bel lt1) trodAll_mk0)), rfl, bel.frame _, fun h => by cases h⟩

theorem over : Rows.frameLoadsRow.holds Try.pinned (OpenSpec.ofChange Rows.frameLoadsSpec) :=
  OpenClaim.holds_of_wide 8 Try.f8 rfl rfl rfl rfl rfl rfl rfl ⟨rfl, rfl, rfl, rfl, rfl⟩ rfl rfl rfl rfl rfl (by kernel_rfl) Try.func8 (by kernel_rfl)
    (of_decide_eq_true (by kernel_rfl)) (by unfold Func.isWrapper; first | (rw [if_pos (by decide +kernel)]; kernel_rfl) | (rw [if_neg (by decide +kernel)]; exact ⟨rfl, rfl⟩))
    (fun os started H enc _ => lifted os started H enc)

theorem proved : Rows.FrameLoadsSaid := over
#print axioms proved
end Go.Proofs.Ytmpiacoddifjiaa.frameLoads
