/- WordsParts: for every slice of parts and every slice of bytes the law returns true (the second form's statement). -/
import Derived.Test.YtkkdcojgnpmpgaaRows
import Derived.WalkKit
import Derived.ProofKit
import Derived.OpenShut
import Derived.ShutString
import Derived.ChangeOld
import Derived.ChangeSlices
import Derived.Below
import Derived.Deep.Matrix
import Derived.JoinedCond
import Derived.Test.YtkkdcojgnpmpgaaWordsU
namespace Go.Proofs.Ytkkdcojgnpmpgaa.wordsParts
open Go.ChangeShapes Go.WideShapes Go.ChangeAt Go.RowKit
set_option linter.unusedVariables false
theorem own : ownKnob Try.prog.godebug = none := by kernel_rfl
theorem laidOut : laidOutB Try.prog = true := by kernel_rfl
theorem cellsRow : Try.prog.cellsOf 22 = 1 := by kernel_rfl
theorem cellsByte : Try.prog.cellsOf 5 = 1 := by kernel_rfl
theorem bytes_lt {l : List Nat} (h : ∀ n ∈ l, (Lit.int .u8 (n : Int)).wf = true) : ∀ i, l.getD i 0 < 256 := by
  intro i
  rcases Nat.lt_or_ge i l.length with hi | hi
  · have := (u8_lo (h _ (List.getElem_mem hi))).2
    simp [List.getD, hi]
    omega
  · simp [List.getD, hi]
theorem row_cap {k : IntKind} {w : World} {a : Option Addr} {len cap : Nat} {zs : List Int} (h : IsRow k w a len cap zs) : cap ≤ 9223372036854775807 := by
  rcases h with ⟨rfl, rfl, rfl, rfl⟩ | ⟨x, rfl, hl, hm, _⟩
  · decide
  · unfold maxLen at hm; omega
theorem contract (H : Type) (enc : TypeId × Value → H) (W : World) (base : Nat) (args : Array Value) (ds gs : List (DataW H)) (before : List MemPlace)
    (hval0 : ∀ (j : Nat) t v, Try.f5.params[j]? = some t → args[j]? = some v → Value.okWide Try.prog W .any base t v)
    (hW : DataW.Whole enc Try.prog Try.f5.params.toList Rows.wordsPartsSpec.vars false W args.toList ds gs before) :
    Calls Try.prog 5 args W fun e W' => ∃ v, e = .returned v ∧ Rows.wordsPartsSpec.post enc Try.prog Try.f5 false true false false W args v W' := by
  have hval : ∀ (j : Nat) t v, Try.f5.params[j]? = some t → args[j]? = some v → Value.okWide Try.prog W .any base t v := hval0
  have hW' := hW
  obtain ⟨p, q, hA0, hV, rfl, hfz, hnd⟩ := hW
  have hA : DataW.TrodAll enc Try.prog W 0 (fun _ => true) true Try.f5.params.toList args.toList ds p := hA0
  rw [Try.params5] at hA hval
  obtain ⟨v0, vs0, d0, ds0, p0, q0, hargs, rfl, rfl, h0, r0⟩ := trodAll_cons hA
  obtain ⟨v1, vs1, d1, ds1, p1, q1, rfl, rfl, rfl, h1, r1⟩ := trodAll_cons r0
  obtain ⟨rfl, rfl, rfl⟩ := trodAll_nil r1
  obtain rfl : args = #[v0, v1] := by cases args; simp_all
  obtain ⟨rfl, rfl⟩ := trodVars_none hV
  obtain ⟨a0, len0, cap0, rfl⟩ := okWide_slice Try.underlying37 (hval 0 37 v0 rfl rfl)
  have k0 := h0
  have lt0 : ∀ x ∈ p0, x.block < W.heap.size := by obtain ⟨m, hm⟩ := k0; exact DataW.trod_lt m _ _ _ hm
  obtain ⟨A, L, C, ps, hlen, hr, hrow⟩ : ∃ (A : Nat → Option Addr) (L C : Nat → Nat) (ps : Nat → List Nat), len0 ≤ 9223372036854775807 ∧
      Reads W W.heap.size 1 a0 len0 ((List.range len0).map fun r => Value.slice (A r) (L r) (C r)) ∧
      ∀ r, r < len0 → Reads W W.heap.size 1 (A r) (L r) (Ints .u8 (ps r)) ∧ (ps r).length = L r ∧ (∀ i, (ps r).getD i 0 < 256) ∧ L r ≤ 9223372036854775807 := by
    obtain ⟨fuel, hf⟩ := h0
    rcases Go.Deep.open_int_rows Try.underlying37 Try.underlying22 Try.underlying5 cellsRow cellsByte hf with ⟨hcs, _⟩ | ⟨x, l, c, A, L, C, Z, hcs, _, hl, hm, _, hcell⟩
    · simp [Value.cells] at hcs
      obtain ⟨rfl, rfl, rfl⟩ := hcs
      exact ⟨fun _ => none, fun _ => 0, fun _ => 0, fun _ => [], by decide, Reads.none_, fun r h => absurd h (by omega)⟩
    · simp [Value.cells] at hcs
      obtain ⟨rfl, rfl, rfl⟩ := hcs
      refine ⟨A, L, C, fun r => natsOf (L r) (Z r), by unfold maxLen at hm; omega, ⟨by simp, fun hn => ⟨x, rfl, ?_, ?_⟩⟩, ?_⟩
      · have := World.block_lt_of_cell? W _ (hcell 0 (by omega)).1
        rwa [block_of_add] at this
      · intro j u hu
        have hj : j < len0 := by have := (List.getElem?_eq_some_iff.1 hu).1; simpa using this
        rw [(hcell j (by omega)).1]
        simp [hj] at hu
        rw [← hu]
      · intro r hr
        obtain ⟨_, h1, h2, h3, h4, h5, h6⟩ := hcell r (by omega)
        have hrow : IsRow .u8 W (A r) (L r) (C r) (Z r) := by
          cases hA : A r with
          | none =>
            have hC := h5 hA
            refine .inl ⟨rfl, by omega, hC, ?_⟩
            exact List.eq_nil_of_length_eq_zero (by omega)
          | some a => exact .inr ⟨a, rfl, h1, h2, h3, fun i hi => (h6 a hA).2 i (by omega), h4⟩
        obtain ⟨g1, g2, g3, g4, g5⟩ := IsRow.reads hrow (fun n h => (u8_lo h).1)
        exact ⟨g1, g2, bytes_lt g5, by unfold maxLen at g3; exact g3⟩
  obtain ⟨a1, len1, cap1, rfl⟩ := okWide_slice Try.underlying22 (hval 1 22 v1 rfl rfl)
  have k1 := h1
  have lt1 : ∀ x ∈ p1, x.block < W.heap.size := by obtain ⟨m, hm⟩ := k1; exact DataW.trod_lt m _ _ _ hm
  obtain ⟨z1, w1⟩ : ∃ zs, IsRow .u8 W a1 len1 cap1 zs := by
    obtain ⟨fuel, hf⟩ := h1
    rcases open_ints Try.underlying22 Try.underlying5 (by kernel_rfl) hf with ⟨hcs, _⟩ | ⟨x, l, c, zs, hcs, _, hl, hm, hz, _, hcell, hwz⟩
    · simp [Value.cells] at hcs
      obtain ⟨rfl, rfl, rfl⟩ := hcs
      exact ⟨[], .inl ⟨rfl, rfl, rfl, rfl⟩⟩
    · simp [Value.cells] at hcs
      obtain ⟨rfl, rfl, rfl⟩ := hcs
      exact ⟨zs, .inr ⟨_, rfl, hl, hm, by simpa using hz, hcell, hwz⟩⟩
  have hcap1 := row_cap w1
  obtain ⟨hrb, hlb, hmaxb, hncb, hwfb⟩ := IsRow.reads w1 (fun n h => (u8_lo h).1)
  clear hA0 hval0
  have hwalk : Calls Try.prog 5 #[.slice a0 len0 cap0, .slice a1 len1 cap1] W fun e w' => e = .returned (.bool true) ∧ Below W.heap.size W w' := by
    by_cases hbig : 100 < len0 ∨ 5000 < len1
    · exact parts_big a0 a1 len0 cap0 len1 cap1 W hbig
    · exact parts_any a0 a1 len0 cap0 len1 cap1 A L C ps _ W (by omega) hr hrow hlb (by omega) hncb hcap1 (bytes_lt hwfb) hrb
  refine hwalk.mono fun e W' ⟨he, bel⟩ => ?_
  subst he
  exact ⟨_, rfl, _, _, _, [], _, [], hW', trodAll_mk1 (shut_bool Try.underlying4 _), (trodAll_cons_mk (Below.trod laidOut (by kernel_rfl) (of_decide_eq_true (by kernel_rfl)) k0 bel lt0) (trodAll_cons_mk (Below.trod laidOut (by kernel_rfl) (of_decide_eq_true (by kernel_rfl)) k1 bel lt1) trodAll_mk0)), rfl, bel.frame _, fun h => by cases h⟩

set_option maxRecDepth 100000 in
theorem lifted (os : Os) (started : os.Started) (H : Type) (enc : TypeId × Value → H) (F : Stop.Interp) :
    ReturnsInHanded {} Try.checked os 5 .any ((Rows.OpenSpec.upto Rows.wordsPartsSpec).pre6 enc Try.prog Try.f5 Rows.wordsPartsUptoRow.domain false) (((Rows.OpenSpec.upto Rows.wordsPartsSpec).at F).post enc Try.prog Try.f5 false true false false) := by
  refine returnsInHanded_of_cond (C := Try.checked) (s := Rows.OpenSpec.upto Rows.wordsPartsSpec) (k := Rows.uptoSmall) rfl own started (by kernel_rfl) Try.func5
    (OpenSpec.witness (enc := enc) (C := Try.checked) (s := Rows.OpenSpec.upto Rows.wordsPartsSpec) (k := Rows.uptoSmall) rfl false ⟨#[], #[.slice none 0 0, .slice none 0 0], []⟩ 8 (by kernel_rfl) (by kernel_rfl) (by kernel_rfl)
      (x := ([.nil, .nil], [], [])) (by kernel_rfl) rfl (by kernel_rfl)) ?_
  intro W base args ds gs before hval hW _ hk _
  exact contract H enc W base args ds gs before hval hW

theorem over : Rows.wordsPartsUptoRow.holds Try.pinned (Rows.OpenSpec.upto Rows.wordsPartsSpec) :=
  OpenClaim.holds_of_cond 5 Try.f5 rfl rfl rfl rfl rfl rfl rfl ⟨rfl, rfl, rfl, rfl, rfl⟩ rfl rfl rfl rfl rfl (by kernel_rfl) Try.func5 (by kernel_rfl)
    (of_decide_eq_true (by kernel_rfl)) (by unfold Func.isWrapper; first | (rw [if_pos (by decide +kernel)]; kernel_rfl) | (rw [if_neg (by decide +kernel)]; exact ⟨rfl, rfl⟩))
    (fun os started H enc _ F => lifted os started H enc F)

theorem proved : Rows.WordsPartsUptoSaid := over
#print axioms proved
end Go.Proofs.Ytkkdcojgnpmpgaa.wordsParts
