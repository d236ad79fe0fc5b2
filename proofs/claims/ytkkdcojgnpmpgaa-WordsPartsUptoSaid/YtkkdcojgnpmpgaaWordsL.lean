/- The walk of words.Join. -/
import Derived.Test.YtkkdcojgnpmpgaaWordsK
namespace Go.Proofs.Ytkkdcojgnpmpgaa
open Go.RowKit
set_option linter.unusedVariables false
def jn (ps : Nat → List Nat) : Nat → List Nat
  | 0 => []
  | k + 1 => jn ps k ++ (uv (ps k).length ++ ps k)
theorem joinL_append (a b : List (List Nat)) : joinL (a ++ b) = joinL a ++ joinL b := by
  induction a with
  | nil => rfl
  | cons p a ih => show uv p.length ++ p ++ joinL (a ++ b) = uv p.length ++ p ++ joinL a ++ joinL b; rw [ih]; simp [List.append_assoc]
theorem jn_joinL (ps : Nat → List Nat) (n : Nat) : joinL ((List.range n).map ps) = jn ps n := by
  induction n with
  | zero => rfl
  | succ k ih =>
    rw [List.range_succ, List.map_append, joinL_append, ih]
    show jn ps k ++ (uv (ps k).length ++ ps k ++ []) = _
    rw [List.append_nil]
    rfl
theorem jn_le (ps : Nat → List Nat) (n k : Nat) (h : k ≤ n) : (jn ps k).length ≤ (jn ps n).length := by
  induction n with
  | zero => have : k = 0 := by omega
            subst this; exact Nat.le_refl _
  | succ m ih =>
    rcases Nat.lt_or_ge k (m + 1) with h1 | h1
    · have := ih (by omega)
      show _ ≤ (jn ps m ++ (uv (ps m).length ++ ps m)).length
      rw [List.length_append]; omega
    · have : k = m + 1 := by omega
      subst this; exact Nat.le_refl _
def JnPost (l : List Nat) (w : World) (e : Ending) (w' : World) : Prop :=
  ∃ A, e = .returned (.slice A l.length l.length) ∧ Reads w' w'.heap.size 1 A l.length (Ints .u8 l) ∧ Below w.heap.size w w'
set_option maxRecDepth 100000 in
set_option maxHeartbeats 2000000 in
theorem join_any (A0 : Option Addr) (len cap : Nat) (A : Nat → Option Addr) (L C : Nat → Nat) (ps : Nat → List Nat) (w : World) (hlen : len ≤ 9223372036854775807)
    (hr : Reads w w.heap.size 1 A0 len ((List.range len).map fun r => Value.slice (A r) (L r) (C r)))
    (hrow : ∀ r, r < len → Reads w w.heap.size 1 (A r) (L r) (Ints .u8 (ps r)) ∧ (ps r).length = L r ∧ (∀ i, (ps r).getD i 0 < 256) ∧ L r ≤ 9223372036854775807)
    (hbig : (jn ps len).length ≤ 1000000) :
    Calls Try.prog 14 #[.slice A0 len cap] w (JnPost (jn ps len) w) := by
  obtain ⟨i0, hi, hz0, hz1, hz2⟩ := info_parts info5
  have Hr := Lib.hid hr
  have Hrow := Lib.hid hrow
  have Hbig := Lib.hid hbig
  clear hr hrow hbig
  go_enter Try.func14, Try.ntmps14
  go_wp2_with fail
  go_loopw [8, 3] (fun i ov ws => ∃ (k q c : Nat) (B : Option Addr), i = .int .i64 k ∧ k ≤ len ∧ ov = .slice B q c ∧ q ≤ 1000000 ∧ Hid (q = (jn ps k).length) ∧ Hid (ws.ownsRow w.heap.size 5 1 (.slice B q c) q (Ints .u8 (jn ps k))) ∧ Hid (Below w.heap.size w ws)) (fun i _ _ => len - (intOf i).toNat)
  case atStart => exact ⟨0, 0, 0, none, rfl, by omega, rfl, by omega, Lib.hid rfl, Lib.hid ⟨rfl, .inl ⟨rfl, rfl⟩⟩, Lib.hid (Below.refl _ _)⟩
  case round =>
    obtain ⟨k, q, c, B, rfl, hk, rfl, hq1, hq, hown, hbel⟩ := hrel
    have hsz := hbel.out.size
    by_cases hlt : k < len
    · obtain ⟨ad, u, hA, hadb, hu, hcw⟩ := Hr.out.at_ hlt
      rw [List.getElem?_map, List.getElem?_range hlt, Option.map_some, Option.some.injEq] at hu
      subst hu
      subst hA
      have hcell := (hbel.out.cell (p := ad.add k) (by rw [block_of_add]; exact hadb)).trans hcw
      obtain ⟨hrk, hpl, hpb, hL63⟩ := Hrow.out k hlt
      have hj1 : (jn ps (k + 1)).length ≤ 1000000 := Nat.le_trans (jn_le ps len (k + 1) hlt) Hbig.out
      have hj2 : (jn ps (k + 1)).length = q + (uv (ps k).length).length + L k := by
        show (jn ps k ++ (uv (ps k).length ++ ps k)).length = _
        rw [List.length_append, List.length_append, hpl, ← hq.out]; omega
      have Hrk := Lib.hid hrk
      have Hj2 := Lib.hid hj2
      rw [hj2] at hj1
      rw [hpl] at hj1
      have Hpl := Lib.hid hpl
      clear hrk hpb hcw hj2 hpl
      generalize hLk : L k = Lk at *
      generalize hAk : A k = Ak at *
      generalize hCk : C k = Ck at *
      clear hLk hAk hCk
      have hwL : IntKind.u64.wrap (Lk : Int) = (Lk : Int) := IntWalk.u64_in _ (by omega)
      go_wp2_with fail
      refine (uvar_any Lk (by omega) wr).mono ?_
      rintro e w2 ⟨A1, rfl, hr1, hb1⟩
      have Hr1 := Lib.hid hr1
      have hown2 := own_below hown.out hb1
      have Hb2 := Lib.hid (hbel.out.trans (hb1.mono hsz))
      have hsz2 := Hb2.out.size
      obtain ⟨ul, hul⟩ : ∃ ul, ul = uv Lk := ⟨_, rfl⟩
      rw [← hul] at Hr1 hj1
      rw [← hul]
      have Hul := Lib.hid hul
      have Hown2 := Lib.hid hown2
      clear hr1 hb1 hul hown2 hcell
      go_wp2_with (first
        | (at_builtin; refine wpList_append_any _ rfl (.tmp 12) (.tmp 16) 22 rfl w.heap.size 5 i0 (.int .u8 0) 1 1 Try.underlying22 hi hz0 hz1 hz2 rfl (by decide) _ q (Ints .u8 (jn ps k)) rfl Hown2.out w2.heap.size A1 ul.length ul.length (Ints .u8 ul) rfl Hr1.out (Ints_one _ _) (by unfold maxLen; omega) (by omega) hsz2 ?_; intro v1 w3 hown3 hgrow3 hat3; obtain ⟨A3, c3, rfl⟩ := own_shape hown3; have HB3 := Lib.hid (Hb2.out.grown hgrow3 hsz2 (fun g hg => (Hown2.out.lt g hg).1)); have Hown3 := Lib.hid hown3; have hsz3 := HB3.out.size; clear hown3 hgrow3 hat3)
        | (at_builtin; refine wpList_append_any _ rfl (.tmp 17) (.tmp 18) 22 rfl w.heap.size 5 i0 (.int .u8 0) 1 1 Try.underlying22 hi hz0 hz1 hz2 rfl (by decide) _ (q + ul.length) (Ints .u8 (jn ps k) ++ Ints .u8 ul) rfl Hown3.out w.heap.size Ak Lk Ck (Ints .u8 (ps k)) rfl (Hrk.out.below HB3.out) (Ints_one _ _) (by unfold maxLen; omega) (by omega) hsz3 ?_; intro v2 w4 hown4 hgrow4 hat4; obtain ⟨A4, c4, rfl⟩ := own_shape hown4; have HB4 := Lib.hid (HB3.out.grown hgrow4 hsz3 (fun g hg => (Hown3.out.lt g hg).1)); have Hown4 := Lib.hid hown4; clear hown4 hgrow4 hat4))
      go_roundw
      case rel =>
        refine ⟨k + 1, q + ul.length + Lk, c4, A4, by go_num, by omega, rfl, by omega, Lib.hid (by rw [Hj2.out, Hpl.out, Hul.out]), Lib.hid ?_, HB4⟩
        have h1 := Hown4.out
        have e : Ints .u8 (jn ps k) ++ Ints .u8 ul ++ Ints .u8 (ps k) = Ints .u8 (jn ps (k + 1)) := by
          show _ = Ints .u8 (jn ps k ++ (uv (ps k).length ++ ps k))
          rw [Hpl.out, ← Hul.out]
          simp [Ints, List.append_assoc]
        rw [e] at h1
        exact h1
      case measure => simp [intOf]; omega
    · have hkl : k = len := by omega
      have hcap := cons_row hown.out
      have hrd := Reads.of_own hown.out
      rw [hkl] at hq hrd
      have Hrd := Lib.hid hrd
      have Hq := Lib.hid hq.out
      clear hkl hrd
      go_wp2_with fail
      refine (clip_any B q c hcap.1 hcap.2 wr).mono ?_
      rintro e w2 ⟨rfl, rfl⟩
      go_wp2_with fail
      go_ret
      refine ⟨B, by rw [← Hq.out]; rfl, ?_, hbel.out⟩
      rw [← Hq.out]
      exact Hrd.out
end Go.Proofs.Ytkkdcojgnpmpgaa
