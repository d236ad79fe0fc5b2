/- FrameReturns: for every text and every number the law returns true. -/
import Derived.Test.YtmpiacoddifjiaaRows
import Derived.WalkKit
import Derived.ProofKit
import Derived.OpenShut
import Derived.ShutString
import Derived.ChangeOld
import Derived.Below
import Derived.Test.YtmpiacoddifjiaaFrameF
namespace Go.Proofs.Ytmpiacoddifjiaa.frameReturns
open Go.ChangeShapes Go.WideShapes Go.ChangeAt Go.RowKit
open Go.ChangeMaps (open_string shut_string)
set_option linter.unusedVariables false      -- a walk need not use every 'w<i>' (that an integer argument fits its kind)

theorem own : ownKnob Try.prog.godebug = none := by kernel_rfl

theorem conv_str (s : ByteArray) (W : World) : (convert 9 26 (.string s)).run Try.prog W = .ok (.slice (some ⟨W.heap.size, 0, none⟩) s.size (grownCap W s.size 0 5))
      (W.drew.alloc (.cells (bytesRow s (grownCap W s.size 0 5)) 5 ((bytesRow s (grownCap W s.size 0 5)).size, (bytesRow s (grownCap W s.size 0 5)).size + 1))) :=
  run_bytes_of_string W 9 26 5 s Try.underlying9 Try.underlying26 Try.underlying5
theorem rep_lt (j : Nat) : ∀ i, (List.replicate j 13).getD i 0 < 256 := by
  intro i
  simp only [List.getD, List.getElem?_replicate]
  split <;> simp
theorem no10 {l : List Nat} (h : ∀ q, q < l.length → l.getD q 0 ≠ 10) (j : Nat) : ∀ q, q < (l ++ List.replicate j 13).length → (l ++ List.replicate j 13).getD q 0 ≠ 10 := by
  intro q hq
  rcases Nat.lt_or_ge q l.length with h1 | h1
  · have := h q h1
    simp only [List.getD] at *
    rw [List.getElem?_append_left h1]
    exact this
  · simp only [List.getD]
    rw [List.getElem?_append_right h1, List.getElem?_replicate]
    split <;> simp
theorem step13 {T : ByteArray} {l : List Nat} {j : Nat} (h : T = strB (l ++ List.replicate j 13)) : T ++ ⟨#[13]⟩ = strB (l ++ List.replicate (j + 1) 13) := by
  have e : (⟨#[13]⟩ : ByteArray) = strB [13] := by decide
  rw [h, e, strB_append, List.append_assoc, List.replicate_succ']
theorem lfi_new {m : List Nat} (h : ∀ q, q < m.length → m.getD q 0 ≠ 10) : lfi (m ++ [10]) = m.length := by
  have h0 : lfi m = m.length := by
    have hl := lfi_le m
    rcases Nat.lt_or_ge (lfi m) m.length with h1 | h1
    · exact absurd (lfi_at h1) (h _ h1)
    · omega
  unfold lfi at *
  rw [List.findIdx_append, h0]
  simp
theorem lineM (B G : Nat) (m : List Nat) (w : World) (hno : ∀ q, q < m.length → m.getD q 0 ≠ 10) (hb : ∀ i, m.getD i 0 < 256) (hl : m.length ≤ 256) (hB : B ≤ w.heap.size) (hf : Frm w B G (m ++ [10]) 0 false) :
    Calls Try.prog 12 #[.pointer (some ⟨G, 0, none⟩)] w fun e w' => e = .returned (.tuple #[.string (strB (trim m)), .bool true, .int .i64 0]) ∧ Frm w' B G [] 0 false ∧ Below B w w' := by
  refine (line0 B G _ w (getD_append_lt hb (one_lt (by decide))) (by simp; omega) hB hf).mono ?_
  rintro e w' ⟨⟨h1, _, _, h4⟩, h5⟩
  have e0 := lfi_new hno
  have e1 : ¬ m.length = (m ++ [10]).length := by simp
  have e2 : (m ++ [10]).take m.length = m := by simp
  have e3 : (m ++ [10]).drop (m.length + 1) = [] := by apply List.drop_eq_nil_of_le; simp
  have e4 := trim_le m
  have e5 : ¬ 256 < (trim m).length := by omega
  have e6 : (trim m).length ≤ 256 := by omega
  have l1 : lineS (m ++ [10]) = trim m := by unfold lineS; rw [e0, if_neg e1, e2, if_neg e5]
  have l2 : lineO (m ++ [10]) = true := by unfold lineO; rw [e0, if_neg e1, e2, decide_eq_true e6]
  have l3 : lineE (m ++ [10]) = 0 := by unfold lineE; rw [e0, if_neg e1, e2, if_neg e5]
  rw [l1, l2, l3] at h1
  rw [e0, e3] at h4
  exact ⟨h1, h4 (by simp), h5⟩
theorem has13_iff (m : List Nat) (p : Nat) (hp : m.length = p + 1) : has13 m = (m.getD p 0 == 13) := by
  unfold has13
  rw [List.getLast?_eq_getElem?, hp]
  simp only [Nat.add_sub_cancel, List.getD, List.getElem?_eq_getElem (show p < m.length by omega), Option.getD_some]
  rfl
theorem strB_take (m : List Nat) (p : Nat) (hp : p ≤ m.length) : strB (m.take p) = (strB m).extract 0 p := by
  apply ByteArray.ext
  rw [ByteArray.data_extract]
  apply Array.ext'
  simp [strB, List.map_take]
theorem want_cut {T : ByteArray} {m : List Nat} {p : Nat} (hT : T = strB m) (hb : ∀ i, m.getD i 0 < 256) (hp : T.size = p + 1) (h : p < T.size) (h13 : (((T[p]).toNat : Int) == 13) = true) : strB (trim m) = T.extract 0 p := by
  have hl : m.length = p + 1 := by rw [← hp, hT, strB_size]
  subst hT
  rw [strB_byte m hb p h] at h13
  have h2 : (m.getD p 0 == 13) = true := by rw [beq_iff_eq] at *; omega
  unfold trim
  rw [has13_iff m p hl, h2, if_pos rfl, List.dropLast_eq_take, hl, ← strB_take m p (by omega)]
  rfl
theorem want_all {T : ByteArray} {m : List Nat} {p : Nat} (hT : T = strB m) (hb : ∀ i, m.getD i 0 < 256) (hp : T.size = p + 1) (h : p < T.size) (h13 : (((T[p]).toNat : Int) == 13) = false) : strB (trim m) = T := by
  have hl : m.length = p + 1 := by rw [← hp, hT, strB_size]
  subst hT
  rw [strB_byte m hb p h] at h13
  have h2 : (m.getD p 0 == 13) = false := by rw [beq_eq_false_iff_ne] at *; omega
  unfold trim
  rw [has13_iff m p hl, h2, if_neg (by decide)]
theorem want_nil {T : ByteArray} {m : List Nat} (hT : T = strB m) (hz : ¬ 0 < T.size) : strB (trim m) = T := by
  have hl : m.length = 0 := by have := strB_size m; rw [← hT] at this; omega
  have : m = [] := List.length_eq_zero_iff.1 hl
  subst this
  rw [hT]; rfl
set_option maxRecDepth 100000 in
set_option maxHeartbeats 2000000 in
theorem great (l : List Nat) (n : Int) (w : World) (hb : ∀ i, l.getD i 0 < 256) (hl : l.length ≤ maxLen) :
    Calls Try.prog 3 #[.string (strB l), .int .i64 n] w fun e w' => e = .returned (.bool true) ∧ Below w.heap.size w w' := by
  unfold maxLen at hl
  have hsz := strB_size l
  have HB := Lib.hid (strB_byte l hb)
  have Hsz := Lib.hid hsz
  have hs63 : (strB l).size ≤ 9223372036854775807 := by omega
  clear hsz
  obtain ⟨S, hS⟩ : ∃ S, S = strB l := ⟨_, rfl⟩
  rw [← hS] at HB Hsz hs63 ⊢
  have HS := Lib.hid hS
  clear hS
  go_enter Try.func3, Try.ntmps3
  go_wp2_with fail
  go_loop [5] (fun i => ∃ k : Nat, k ≤ S.size ∧ i = .int .i64 k ∧ Hid (∀ q, q < k → l.getD q 0 ≠ 10)) (fun i => S.size - (intOf i).toNat)
  case atStart => exact ⟨0, by omega, rfl, Lib.hid (fun q h => by omega)⟩
  case round =>
    obtain ⟨k, hk, rfl, hq⟩ := hrel
    by_cases hlt : k < S.size
    · have hsk := HB.out k hlt
      by_cases h10 : l.getD k 0 = 10
      · have h11 : (((S[k]).toNat : Int) == 10) = true := by rw [beq_iff_eq]; omega
        clear hsk
        go_wp2_with fail
        refine (awake_any _).mono ?_
        rintro e w2 ⟨rfl, hb2⟩
        have Hb2 := Lib.hid hb2
        clear hb2
        go_wp2_with fail
        go_ret
        exact ⟨rfl, Hb2.out⟩
      · have h11 : (((S[k]).toNat : Int) == 10) = false := by rw [beq_eq_false_iff_ne]; omega
        have H10 := Lib.hid h10
        clear hsk h10
        go_wp2_with fail
        go_round
        case rel =>
          refine ⟨k + 1, by omega, by go_num, Lib.hid (fun q h => ?_)⟩
          rcases Nat.lt_or_ge q k with h1 | h1
          · exact hq.out q h1
          · have : q = k := by omega
            rw [this]; exact H10.out
        case measure => simp [intOf]; omega
    · obtain ⟨N, hN, hmask⟩ := mask n 3 (by decide)
      have hm : bits .and .i64 n 3 = (N : Int) := hmask
      clear hmask
      by_cases h200 : 200 < S.size
      · go_wp2_with fail
        refine (awake_any _).mono ?_
        rintro e w2 ⟨rfl, hb2⟩
        have Hb2 := Lib.hid hb2
        clear hb2
        go_wp2_with fail
        go_ret
        exact ⟨rfl, Hb2.out⟩
      · go_wp2_with fail
        have hno : Hid (∀ q, q < l.length → l.getD q 0 ≠ 10) := Lib.hid (fun q h => hq.out q (by have := Hsz.out; omega))
        go_loop [0, 6] (fun v i => ∃ (j : Nat) (T : ByteArray), j ≤ N ∧ i = .int .i64 j ∧ v = .string T ∧ Hid (T = strB (l ++ List.replicate j 13))) (fun _ i => N - (intOf i).toNat)
        case atStart => exact ⟨0, S, by omega, rfl, rfl, Lib.hid (by rw [HS.out]; simp)⟩
        case round =>
          obtain ⟨j, T, hj, rfl, rfl, hT⟩ := hrel
          have hTl : T.size ≤ 203 := by have := strB_size (l ++ List.replicate j 13); rw [← hT.out] at this; have := Hsz.out; simp at *; omega
          by_cases hjl : j < N
          · go_wp2_with fail
            go_round
            case rel => exact ⟨j + 1, T ++ ⟨#[13]⟩, by omega, by go_num, rfl, Lib.hid (step13 hT.out)⟩
            case measure => simp [intOf]; omega
          · obtain ⟨m, hm1⟩ : ∃ m, m = l ++ List.replicate j 13 := ⟨_, rfl⟩
            rw [← hm1] at hT
            have hm2 : Hid (∀ q, q < m.length → m.getD q 0 ≠ 10) := Lib.hid (by rw [hm1]; exact no10 hno.out j)
            have hm3 : ∀ i, m.getD i 0 < 256 := by rw [hm1]; exact getD_append_lt hb (rep_lt j)
            have hml : m.length ≤ 203 := by have := strB_size m; rw [← hT.out] at this; omega
            have hcs := conv_str (T ++ ⟨#[10]⟩)
            have hTM : T ++ ⟨#[10]⟩ = strB (m ++ [10]) := by
              have e : (⟨#[10]⟩ : ByteArray) = strB [10] := by decide
              rw [hT.out, e, strB_append]
            have HTM := Lib.hid hTM
            have hT2 : (T ++ ⟨#[10]⟩).size = m.length + 1 := by rw [hTM, strB_size]; simp
            have HT2 := Lib.hid hT2
            clear hm1 hTM hT2
            go_wp2_with fail
            refine (new_any w.heap.size w (Nat.le_refl _)).mono ?_
            rintro e w1 ⟨rfl, hf1, hb1⟩
            have Hf1 := Lib.hid hf1
            have Hb1 := Lib.hid hb1
            clear hf1 hb1
            go_wp2_with fail
            have HBel1 := Lib.hid ((Hb1.out.alloc Hb1.out.size (.cells (bytesRow (T ++ ⟨#[10]⟩) (grownCap w1 (T.size + 1) 0 5)) 5 ((bytesRow (T ++ ⟨#[10]⟩) (grownCap w1 (T.size + 1) 0 5)).size, (bytesRow (T ++ ⟨#[10]⟩) (grownCap w1 (T.size + 1) 0 5)).size + 1))))
            have hTs : T.size + 1 = (m ++ [10]).length := by rw [hT.out, strB_size]; simp
            have hbm : ∀ i, (m ++ [10]).getD i 0 < 256 := getD_append_lt hm3 (one_lt (by decide))
            have HR := Lib.hid (row_of_string (m ++ [10]) hbm w1 5 (grownCap w1 (T.size + 1) 0 5) ((bytesRow (T ++ ⟨#[10]⟩) (grownCap w1 (T.size + 1) 0 5)).size, (bytesRow (T ++ ⟨#[10]⟩) (grownCap w1 (T.size + 1) 0 5)).size + 1))
            rw [← HTM.out, ← hTs] at HR
            have hsz1 := HBel1.out.size
            generalize (bytesRow (T ++ ⟨#[10]⟩) (grownCap w1 (T.size + 1) 0 5)) = C at *
            refine (feed0 w.heap.size w.heap.size [] (m ++ [10]) _ (T.size + 1) _ _ (by simp) hbm (by simp; omega) ?bz ?fz ?rz).mono ?_
            case bz => exact hsz1
            case fz => exact (Hf1.out.alloc _).drew
            case rz => exact HR.out
            rintro e w2 ⟨rfl, hf2, hb2⟩
            have Hf2 := Lib.hid hf2
            have Hb2 := Lib.hid (HBel1.out.drew.trans hb2)
            clear hf2 hb2
            by_cases hz : 0 < T.size
            · obtain ⟨p, hp⟩ : ∃ p, T.size = p + 1 := ⟨T.size - 1, by omega⟩
              have hp' : ((T.size : Int) - 1) = (p : Int) := by omega
              have hpl : p < T.size := by omega
              go_wp2_with fail
              · rename_i h13 K1 hK1 K2 hK2
                have hW := Lib.hid (want_cut hT.out hm3 hp hpl h13)
                have hq1 : ((T.extract 0 p).toList == (T.extract 0 p).toList) = true := beq_self_eq_true _
                clear h13
                have hB2 := Hb2.out.size
                refine (lineM w.heap.size w.heap.size m w2 hm2.out hm3 (by omega) hB2 Hf2.out).mono ?_
                rintro e w3 ⟨rfl, hf3, hb3⟩
                rw [hW.out]
                have Hf3 := Lib.hid hf3
                have Hb3 := Lib.hid (Hb2.out.trans hb3)
                clear hf3 hb3 hB2
                go_wp2_with fail
                refine (waiting_any w.heap.size w.heap.size [] 0 false w3 Hf3.out).mono ?_
                rintro e w4 ⟨rfl, rfl⟩
                go_wp2_with fail
                refine (awake_any _).mono ?_
                rintro e w5 ⟨rfl, hb5⟩
                have Hb5 := Lib.hid (Hb3.out.trans (hb5.mono Hb3.out.size))
                clear hb5
                go_wp2_with fail
                go_ret
                exact ⟨rfl, Hb5.out⟩
              · rename_i h13 K1 hK1 K2 hK2
                have hW := Lib.hid (want_all hT.out hm3 hp hpl h13)
                have hq1 : (T.toList == T.toList) = true := beq_self_eq_true _
                clear h13
                have hB2 := Hb2.out.size
                refine (lineM w.heap.size w.heap.size m w2 hm2.out hm3 (by omega) hB2 Hf2.out).mono ?_
                rintro e w3 ⟨rfl, hf3, hb3⟩
                rw [hW.out]
                have Hf3 := Lib.hid hf3
                have Hb3 := Lib.hid (Hb2.out.trans hb3)
                clear hf3 hb3 hB2
                go_wp2_with fail
                refine (waiting_any w.heap.size w.heap.size [] 0 false w3 Hf3.out).mono ?_
                rintro e w4 ⟨rfl, rfl⟩
                go_wp2_with fail
                refine (awake_any _).mono ?_
                rintro e w5 ⟨rfl, hb5⟩
                have Hb5 := Lib.hid (Hb3.out.trans (hb5.mono Hb3.out.size))
                clear hb5
                go_wp2_with fail
                go_ret
                exact ⟨rfl, Hb5.out⟩
            · have hW := Lib.hid (want_nil hT.out hz)
              have hq1 : (T.toList == T.toList) = true := beq_self_eq_true _
              go_wp2_with fail
              have hB2 := Hb2.out.size
              refine (lineM w.heap.size w.heap.size m w2 hm2.out hm3 (by omega) hB2 Hf2.out).mono ?_
              rintro e w3 ⟨rfl, hf3, hb3⟩
              rw [hW.out]
              have Hf3 := Lib.hid hf3
              have Hb3 := Lib.hid (Hb2.out.trans hb3)
              clear hf3 hb3 hB2
              go_wp2_with fail
              refine (waiting_any w.heap.size w.heap.size [] 0 false w3 Hf3.out).mono ?_
              rintro e w4 ⟨rfl, rfl⟩
              go_wp2_with fail
              refine (awake_any _).mono ?_
              rintro e w5 ⟨rfl, hb5⟩
              have Hb5 := Lib.hid (Hb3.out.trans (hb5.mono Hb3.out.size))
              clear hb5
              go_wp2_with fail
              go_ret
              exact ⟨rfl, Hb5.out⟩
set_option maxRecDepth 100000 in
set_option maxHeartbeats 2000000 in
theorem walk (a0 : ByteArray) (a1 : Int) (w0 : a0.size ≤ maxLen) (w1 : (Lit.int .i64 a1).wf = true) (w : World) :
    Calls Try.prog 3 #[.string a0, .int .i64 a1] w fun e w' => e = .returned (.bool true) ∧ Below w.heap.size w w' := by

  rw [← strB_nats a0]
  have hk : (nats a0).length ≤ maxLen := by rw [nats_length]; exact w0
  exact great (nats a0) a1 w (nats_lt a0) hk

set_option maxRecDepth 100000 in
theorem lifted (os : Os) (started : os.Started) (H : Type) (enc : TypeId × Value → H) :
    ReturnsInHanded {} Try.checked os 3 .any (Rows.frameReturnsSpec.pre6 enc Try.prog Try.f3 Rows.frameReturnsRow.domain false) (Rows.frameReturnsSpec.post enc Try.prog Try.f3 false true false false) := by
  refine returnsInHanded_of_change (C := Try.checked) own started (by kernel_rfl) Try.func3
    (ChangeSpec.witness6 (enc := enc) (C := Try.checked) false ⟨#[], #[.string ByteArray.empty, .int .i64 0], []⟩ 8 (by kernel_rfl) (by kernel_rfl) (by kernel_rfl) (by kernel_rfl)) ?_
  intro W base args ds gs before hval0 hW hcnd _
  have hval : ∀ (j : Nat) t v, Try.f3.params[j]? = some t → args[j]? = some v → Value.okWide Try.prog W .any base t v := hval0
  have hW' := hW
  obtain ⟨p, q, hA0, hV, rfl, hfz, hnd⟩ := hW
  have hA : DataW.TrodAll enc Try.prog W 0 (fun _ => true) true Try.f3.params.toList args.toList ds p := hA0
  rw [Try.params3] at hA hval
  obtain ⟨v0, vs0, d0, ds0, p0, q0, hargs, rfl, rfl, h0, r0⟩ := trodAll_cons hA
  obtain ⟨v1, vs1, d1, ds1, p1, q1, rfl, rfl, rfl, h1, r1⟩ := trodAll_cons r0
  obtain ⟨rfl, rfl, rfl⟩ := trodAll_nil r1
  obtain rfl : args = #[v0, v1] := by cases args; simp_all
  obtain ⟨rfl, rfl⟩ := trodVars_none hV
  obtain ⟨a0, rfl, rfl, rfl, w0⟩ := open_string Try.underlying9 (hval 0 9 v0 rfl rfl) h0
  obtain ⟨a1, rfl, rfl, rfl, w1⟩ := open_int Try.underlying3 (hval 1 3 v1 rfl rfl) h1
  clear hA0 hval0
  simp only [List.append_nil] at hW'
  refine (walk a0 a1 w0 w1 W).mono fun e W' ⟨he, bel⟩ => ?_
  subst he
  exact ⟨_, rfl, _, _, _, [], [], [], hW', (trodAll_cons_mk (shut_bool Try.underlying4 _) trodAll_mk0), (trodAll_cons_mk (shut_string Try.underlying9 w0) (trodAll_cons_mk (shut_int Try.underlying3 w1) trodAll_mk0)), rfl, bel.frame _, fun h => by cases h⟩

theorem over : Rows.frameReturnsRow.holds Try.pinned (OpenSpec.ofChange Rows.frameReturnsSpec) :=
  OpenClaim.holds_of_wide 3 Try.f3 rfl rfl rfl rfl rfl rfl rfl ⟨rfl, rfl, rfl, rfl, rfl⟩ rfl rfl rfl rfl rfl (by kernel_rfl) Try.func3 (by kernel_rfl)
    (of_decide_eq_true (by kernel_rfl)) (by unfold Func.isWrapper; first | (rw [if_pos (by decide +kernel)]; kernel_rfl) | (rw [if_neg (by decide +kernel)]; exact ⟨rfl, rfl⟩))
    (fun os started H enc _ => lifted os started H enc)

theorem proved : Rows.FrameReturnsSaid :=
  over
#print axioms proved
end Go.Proofs.Ytmpiacoddifjiaa.frameReturns
