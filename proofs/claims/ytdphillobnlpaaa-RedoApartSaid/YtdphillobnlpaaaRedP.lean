/- redo: what may not be written (Commit's closure, IndexFunc, ContainsFunc). -/
import Derived.Test.YtdphillobnlpaaaRedO
namespace Go.Proofs.Ytdphillobnlpaaa
open Go.RowKit
set_option linter.unusedVariables false
def badB (n at_ words : Nat) (z : Int) : Bool := decide (z < 0 ∨ (n : Int) ≤ z) || ownB at_ words z
def Wv (p : Int × Int) : Value := .agg #[.int .i64 p.1, .int .u64 p.2]
set_option maxRecDepth 100000 in
set_option maxHeartbeats 4000000 in
theorem bad_any (w : World) (A : Nat → Prop) (G : Dv) (n : Nat) (s : DS) (lg at_ words bl : Nat) (p : Int × Int) (hD : DevA w A G n s) (hl : Lg w lg G at_ words) (hb : Blk w bl 24 #[.pointer (some ⟨lg, 0, none⟩)]) (hw : at_ ≤ 65536 ∧ words ≤ 65536) :
    Calls Try.prog 36 #[Wv p, .pointer (some ⟨bl, 0, none⟩)] w fun e w' => e = .returned (.bool (badB n at_ words p.1)) ∧ Mv (fun _ => False) w w' := by
  obtain ⟨z, v⟩ := p
  have Hm := Lib.hid ((Mv.refl (fun _ => False) w).alloc (.cells #[.int .i64 z, .int .u64 v] 32))
  obtain ⟨w1, hw1⟩ : ∃ w1, w1 = w.alloc (.cells #[.int .i64 z, .int .u64 v] 32) := ⟨_, rfl⟩
  have hx : Blk w1 w.heap.size 32 #[.int .i64 z, .int .u64 v] := by rw [hw1]; exact blk_new w _ _ rfl
  rw [← hw1] at Hm
  have x0 := fun q => (show (w1.drewN q).cell? ⟨w.heap.size, 0, none⟩ = some (.int .i64 z) from (hx.cell 0).trans rfl)
  have l0 := fun q => (show (w1.drewN q).cell? ⟨bl, 0, none⟩ = some (.pointer (some ⟨lg, 0, none⟩)) from ((hb.mv Hm.out (fun e => e)).cell 0).trans rfl)
  have Hl1 := Lib.hid (Blk.mv hl Hm.out (fun e => e))
  have D1 := Lib.hid (hD.keep Hm.out (fun _ e => e.elim) (fun _ _ e => e))
  have c0 := fun q => (Lg.drewN Hl1.out q).c0
  have HWo := Lib.hid (fun q => words_any (w1.drewN q) A G n s (D1.out.drewN q).1)
  have HOw := Lib.hid (fun q => own_any (w := w1.drewN q) z (Lg.drewN Hl1.out q) hw)
  have HWq : Hid (∀ q, Calls Try.prog 37 #[.pointer (some ⟨G.d, 0, none⟩)] (w1.drewN q) fun e w' => e = .returned (.int .i64 (n : Int)) ∧ ∃ m', w' = w1.drewN m') := Lib.hid (fun q => (HWo.out q).mono (by rintro e w' ⟨rfl, rfl⟩; exact ⟨rfl, q, rfl⟩))
  have HOq : Hid (∀ q, Calls Try.prog 38 #[.pointer (some ⟨lg, 0, none⟩), .int .i64 z] (w1.drewN q) fun e w' => e = .returned (.bool (ownB at_ words z)) ∧ ∃ m', w' = w1.drewN m') := Lib.hid (fun q => (HOw.out q).mono (by rintro e w' ⟨rfl, m, rfl⟩; exact ⟨rfl, q + m, by simp⟩))
  have Hw1 := Lib.hid hw1
  clear hD hl hb hx HWo HOw hw1
  unfold Wv
  by_cases h1 : z < 0
  · have b1 : decide (z < 0) = true := by simp [h1]
    have Hr := Lib.hid (show badB n at_ words z = true by unfold badB; simp [h1])
    clear h1
    go_enter Try.func36, Try.ntmps36
    go_upto_region 1 with fail
    rw [← Hw1.out]
    go_quiet (first | (go_at_call 37; exact HWq.out _) | (go_at_call 38; exact HOq.out _))
    go_wp2_with fail
    go_ret
    exact ⟨by rw [Hr.out]; simp, Hm.out.drewN nq⟩
  · have b1 : decide (z < 0) = false := by simp; omega
    by_cases h2 : z < (n : Int)
    · have b2 : decide (z ≥ (n : Int)) = false := by simp; omega
      have b3 : decide ((n : Int) ≤ z) = false := by simp; omega
      have Hr := Lib.hid (show badB n at_ words z = ownB at_ words z by unfold badB; simp; intro h; omega)
      clear h1 h2
      go_enter Try.func36, Try.ntmps36
      go_upto_region 1 with fail
      rw [← Hw1.out]
      generalize ownB at_ words z = ob at HOq Hr
      go_quiet (first | (go_at_call 37; exact HWq.out _) | (go_at_call 38; exact HOq.out _))
      go_wp2_with fail
      go_ret
      exact ⟨by rw [Hr.out]; simp, Hm.out.drewN nq⟩
    · have b2 : decide (z ≥ (n : Int)) = true := by simp; omega
      have b3 : decide ((n : Int) ≤ z) = true := by simp; omega
      have Hr := Lib.hid (show badB n at_ words z = true by unfold badB; simp; left; omega)
      clear h1 h2
      go_enter Try.func36, Try.ntmps36
      go_upto_region 1 with fail
      rw [← Hw1.out]
      go_quiet (first | (go_at_call 37; exact HWq.out _) | (go_at_call 38; exact HOq.out _))
      go_wp2_with fail
      go_ret
      exact ⟨by rw [Hr.out]; simp, Hm.out.drewN nq⟩
end Go.Proofs.Ytdphillobnlpaaa
