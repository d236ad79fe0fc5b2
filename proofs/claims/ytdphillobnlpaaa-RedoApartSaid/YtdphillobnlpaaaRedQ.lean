/- redo: IndexFunc, ContainsFunc. -/
import Derived.Test.YtdphillobnlpaaaRedP
namespace Go.Proofs.Ytdphillobnlpaaa
open Go.RowKit
set_option linter.unusedVariables false
theorem add_next (ad : Addr) (j : Nat) : ad.add (j + 1) = ⟨(ad.add j).block, (ad.add j).off + 1, none⟩ := by
  unfold Addr.add
  by_cases h : j = 0
  · subst h; simp
  · simp [h]; omega
/-- A row of writes, read. -/
def WR (w : World) (B : Nat) (A : Option Addr) (ps : List (Int × Int)) : Prop := ∀ i, i < ps.length → ∃ ad, A = some ad ∧ ad.block < B ∧ w.cell? (ad.add (i * 2)) = some (.int .i64 (ps.getD i (0, 0)).1) ∧ w.cell? (ad.add (i * 2 + 1)) = some (.int .u64 (ps.getD i (0, 0)).2)
theorem WR.mv {w w' : World} {S : Nat → Prop} {B : Nat} {A : Option Addr} {ps : List (Int × Int)} (h : WR w B A ps) (hB : B ≤ w.heap.size) (hm : Mv S w w') (hs : ∀ b, b < B → ¬ S b) : WR w' B A ps := fun i hi => by
  obtain ⟨ad, e, h1, h2, h3⟩ := h i hi
  exact ⟨ad, e, h1, (mv_cell hm (by rw [block_of_add]; omega) (by rw [block_of_add]; exact hs _ h1)).trans h2, (mv_cell hm (by rw [block_of_add]; omega) (by rw [block_of_add]; exact hs _ h1)).trans h3⟩
set_option maxRecDepth 100000 in
set_option maxHeartbeats 4000000 in
theorem index_any (w : World) (A : Nat → Prop) (G : Dv) (n : Nat) (s : DS) (lg at_ words bl : Nat) (A0 : Option Addr) (c0 : Nat) (ps : List (Int × Int)) (k : Nat) (hk : ps.length = k) (hk1 : k ≤ 1000000) (hr : WR w w.heap.size A0 ps) (hD : DevA w A G n s) (hl : Lg w lg G at_ words) (hb : Blk w bl 24 #[.pointer (some ⟨lg, 0, none⟩)]) (hw : at_ ≤ 65536 ∧ words ≤ 65536) :
    Calls Try.prog 48 #[.slice A0 k c0, .func (.func 36) #[] #[.pointer (some ⟨bl, 0, none⟩)]] w fun e w' => (∃ j : Int, e = .returned (.int .i64 j) ∧ -1 ≤ j ∧ (0 ≤ j ↔ ∃ p ∈ ps, badB n at_ words p.1 = true)) ∧ Mv (fun _ => False) w w' := by
  have Hk := Lib.hid hk
  have Hr := Lib.hid hr
  have HD := Lib.hid hD
  have Hl := Lib.hid hl
  have Hb := Lib.hid hb
  have Hw := Lib.hid hw
  clear hk hr hD hl hb hw
  go_enter Try.func48, Try.ntmps48
  go_wp2_with fail
  go_loopw [8] (fun v8 wr => ∃ i : Nat, v8 = .int .i64 (i : Int) ∧ i ≤ k ∧ Hid (∀ p ∈ ps.take i, badB n at_ words p.1 = false) ∧ Hid (Mv (fun _ => False) w wr))
    (fun v8 _ => k - (intOf v8).toNat)
  case atStart => exact ⟨0, rfl, Nat.zero_le _, Lib.hid (by simp), Lib.hid (Mv.refl _ _)⟩
  case round =>
    obtain ⟨i, rfl, hi, hno, hm⟩ := hrel
    rcases Nat.lt_or_ge i k with hlt | hge
    · obtain ⟨ad, hA, hab, h1, h2⟩ := (Hr.out.mv (Nat.le_refl _) hm.out (fun _ _ e => e)) i (by rw [Hk.out]; exact hlt)
      subst hA
      have hlx : i < ps.length := by rw [Hk.out]; exact hlt
      have htk := Lib.hid (List.take_succ_eq_append_getElem hlx)
      have hg : ps.getD i (0, 0) = ps[i] := by simp [hlx]
      have hmem := Lib.hid (List.getElem_mem hlx)
      rw [hg] at h1 h2
      generalize ps[i] = p at h1 h2 htk hmem
      have hbad := Lib.hid (bad_any wr A G n s lg at_ words bl p (HD.out.keep hm.out (fun _ e => e.elim) (fun _ _ e => e)) (Blk.mv Hl.out hm.out (fun e => e)) (Hb.out.mv hm.out (fun e => e)) Hw.out)
      have hwi : IntKind.i64.wrap ((i : Int) + 1) = (i : Int) + 1 := IntWalk.i64_in _ (by omega)
      rw [add_next] at h2
      clear hg hlx
      generalize hbb : badB n at_ words p.1 = bb at hbad
      have Hbb := Lib.hid hbb
      clear hbb
      cases bb
      · go_wp2_with (first
          | (go_at_call 36; refine hbad.out.mono ?_; rintro e w4 ⟨rfl, h5⟩; have H5 := Lib.hid h5; clear h5)
          | fail)
        refine ⟨⟨i + 1, by go_num, by omega, Lib.hid ?_, Lib.hid (hm.out.trans H5.out)⟩, ?_⟩
        · rw [htk.out]
          intro q hq
          rcases List.mem_append.1 hq with hq | hq
          · exact hno.out q hq
          · simp at hq; subst hq; exact Hbb.out
        · show k - ((i : Int) + 1).toNat < k - ((i : Int)).toNat
          omega
      · go_wp2_with (first
          | (go_at_call 36; refine hbad.out.mono ?_; rintro e w4 ⟨rfl, h5⟩; have H5 := Lib.hid h5; clear h5)
          | fail)
        go_ret
        exact ⟨⟨i, by simp, by omega, fun _ => ⟨p, hmem.out, Hbb.out⟩, fun _ => by omega⟩, hm.out.trans H5.out⟩
    · have hall := Lib.hid (show ∀ p ∈ ps, badB n at_ words p.1 = false by
        have := hno.out
        rw [List.take_of_length_le (by rw [Hk.out]; exact hge)] at this
        exact this)
      go_wp2_with fail
      go_ret
      refine ⟨⟨-1, by simp, by omega, fun h => by omega, fun ⟨p, hp, h⟩ => ?_⟩, hm.out⟩
      rw [hall.out p hp] at h
      cases h
set_option maxRecDepth 100000 in
theorem contains_any (w : World) (A : Nat → Prop) (G : Dv) (n : Nat) (s : DS) (lg at_ words bl : Nat) (A0 : Option Addr) (c0 : Nat) (ps : List (Int × Int)) (k : Nat) (hk : ps.length = k) (hk1 : k ≤ 1000000) (hr : WR w w.heap.size A0 ps) (hD : DevA w A G n s) (hl : Lg w lg G at_ words) (hb : Blk w bl 24 #[.pointer (some ⟨lg, 0, none⟩)]) (hw : at_ ≤ 65536 ∧ words ≤ 65536) :
    Calls Try.prog 35 #[.slice A0 k c0, .func (.func 36) #[] #[.pointer (some ⟨bl, 0, none⟩)]] w fun e w' => e = .returned (.bool (ps.any fun p => badB n at_ words p.1)) ∧ Mv (fun _ => False) w w' := by
  have Hx := Lib.hid (index_any w A G n s lg at_ words bl A0 c0 ps k hk hk1 hr hD hl hb hw)
  clear hk hr hD hl hb hw
  go_enter Try.func35, Try.ntmps35
  go_wp2_with fail
  refine Hx.out.mono ?_
  rintro e w4 ⟨⟨j, rfl, h1, h2⟩, h5⟩
  have H5 := Lib.hid h5
  clear h5
  by_cases hj : 0 ≤ j
  · have Hr := Lib.hid (show (ps.any fun p => badB n at_ words p.1) = true from List.any_eq_true.2 (h2.1 hj))
    have b1 : decide (j ≥ 0) = true := by simp [hj]
    clear h2
    go_wp2_with fail
    go_ret
    exact ⟨by rw [Hr.out]; simp, H5.out⟩
  · have Hr := Lib.hid (show (ps.any fun p => badB n at_ words p.1) = false by
      rw [Bool.eq_false_iff]
      intro h
      exact hj (h2.2 (List.any_eq_true.1 h)))
    have b1 : decide (j ≥ 0) = false := by simp; omega
    clear h2
    go_wp2_with fail
    go_ret
    exact ⟨by rw [Hr.out]; simp, H5.out⟩
end Go.Proofs.Ytdphillobnlpaaa
