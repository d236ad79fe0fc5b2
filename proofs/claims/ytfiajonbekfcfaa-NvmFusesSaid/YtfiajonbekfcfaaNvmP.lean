/- NvmFuses: the closures' walks. -/
import Derived.Test.YtfiajonbekfcfaaNvmJ
import Derived.Test.YtfiajonbekfcfaaNvmM
import Derived.StillTailTactics
namespace Go.Proofs.Ytfiajonbekfcfaa
open Go.RowKit
set_option linter.unusedVariables false
set_option maxRecDepth 100000 in
set_option maxHeartbeats 8000000 in
theorem fuses1_l (w : World) (A : Nat → Prop) (G : Dv) (s : DS) (fK fI fD : Nat) (ad : Addr) (len cap j : Nat) (z : Int) (h : DevA w A G 16 s) (hf : s.dead = true ∨ s.fuse = 0) (hj : j < len) (hj2 : j < 50)
    (bK : Blk w fK 22 #[.slice (some ad) len cap]) (bI : Blk w fI 3 #[.int .i64 (j : Int)]) (bD : Blk w fD 23 #[.pointer (some ⟨G.d, 0, none⟩)]) (hz : w.cell? (ad.add j) = some (.int .i64 z)) :
    Calls Try.prog 23 #[.pointer (some ⟨fK, 0, none⟩), .pointer (some ⟨fI, 0, none⟩), .pointer (some ⟨fD, 0, none⟩)] w fun e w' => Panics lostV e ∧ DevA w' A G 16 s.kill ∧ Mv G.own w w' := by
  have h' := Lib.hid h
  have hf' := Lib.hid hf
  clear h hf
  have cK : w.cell? ⟨fK, 0, none⟩ = some (.slice (some ad) len cap) := (bK.cell 0).trans rfl
  have cI : w.cell? ⟨fI, 0, none⟩ = some (.int .i64 (j : Int)) := (bI.cell 0).trans rfl
  have cD : w.cell? ⟨fD, 0, none⟩ = some (.pointer (some ⟨G.d, 0, none⟩)) := (bD.cell 0).trans rfl
  obtain ⟨N, hN, hm⟩ := mask z 3 (by decide)
  have hm' : bits .and .i64 z 3 = (N : Int) := hm
  obtain ⟨N2, hN2, hn⟩ := mask (z / 4) 15 (by decide)
  have hn' : bits .and .i64 (z / 4) 15 = (N2 : Int) := hn
  have h16 := Lib.hid (show (0 : Int) ≤ (N2 : Int) ∧ (N2 : Int) < ((16 : Nat) : Int) by omega)
  have hk16 : N2 < 16 := by omega
  have hdr := Lib.hid (h'.out.keep (Mv.refl (fun _ => False) w).drew (fun _ e _ => e.elim) (fun _ _ e => e))
  clear hm hn bK bD bI
  rcases (show N = 0 ∨ N = 1 ∨ (2 ≤ N) by omega) with rfl | rfl | hN3
  · go_enter Try.func23, Try.ntmps23
    go_wp2_with fail
    refine (fence_lost w A G 16 s h'.out.1 hf'.out).mono ?_
    rintro e w1 ⟨he, hd, hm⟩
    unfold Panics at he
    subst he
    have Hd := Lib.hid (h'.out.to hd (show Mv G.own w w1 from hm))
    have Hm := Lib.hid (show Mv G.own w w1 from hm)
    clear hd hm
    go_wp2_with fail
    simp only [bodyPost]
    exact ⟨trivial, rfl, Hd.out, Hm.out⟩
  · go_enter Try.func23, Try.ntmps23
    go_wp2_with fail
    go_still_tail 7, (by kernel_rfl)
    change wpList _ _ _ _ _ w.drew
    go_wp2_with fail
    refine (flush_lost w.drew A G 16 s (N2 : Int) hdr.out.1 h16.out hf'.out).mono ?_
    rintro e w1 ⟨he, hd, hm⟩
    unfold Panics at he
    subst he
    have Hd := Lib.hid (h'.out.to hd (show Mv G.own w w1 from ((Mv.refl G.own w).drew).trans hm))
    have Hm := Lib.hid (show Mv G.own w w1 from ((Mv.refl G.own w).drew).trans hm)
    clear hd hm
    go_wp2_with fail
    simp only [bodyPost]
    exact ⟨trivial, rfl, Hd.out, Hm.out⟩
  · have t0 : ((N : Int) == 0) = false := by simp; omega
    have t1 : ((N : Int) == 1) = false := by simp; omega
    go_enter Try.func23, Try.ntmps23
    go_wp2_with fail
    go_still_tail 7, (by kernel_rfl)
    change wpList _ _ _ _ _ w.drew
    go_wp2_with fail
    refine (store_lost w.drew A G 16 s (N2 : Int) 7 hdr.out.1 h16.out hf'.out).mono ?_
    rintro e w1 ⟨he, hd, hm⟩
    unfold Panics at he
    subst he
    have Hd := Lib.hid (h'.out.to hd (show Mv G.own w w1 from ((Mv.refl G.own w).drew).trans hm))
    have Hm := Lib.hid (show Mv G.own w w1 from ((Mv.refl G.own w).drew).trans hm)
    clear hd hm
    go_wp2_with fail
    simp only [bodyPost]
    exact ⟨trivial, rfl, Hd.out, Hm.out⟩
set_option maxRecDepth 100000 in
set_option maxHeartbeats 8000000 in
theorem fuses1_o (w : World) (A : Nat → Prop) (G : Dv) (s : DS) (fK fI fD : Nat) (ad : Addr) (len cap j : Nat) (z : Int) (h : DevA w A G 16 s) (hf : s.dead = false ∧ s.fuse ≠ 0 ∧ s.steps < 1000000000) (hj : j < len) (hj2 : j < 50)
    (bK : Blk w fK 22 #[.slice (some ad) len cap]) (bI : Blk w fI 3 #[.int .i64 (j : Int)]) (bD : Blk w fD 23 #[.pointer (some ⟨G.d, 0, none⟩)]) (hz : w.cell? (ad.add j) = some (.int .i64 z)) :
    Calls Try.prog 23 #[.pointer (some ⟨fK, 0, none⟩), .pointer (some ⟨fI, 0, none⟩), .pointer (some ⟨fD, 0, none⟩)] w fun e w' => e = .returned (.tuple #[]) ∧ ∃ s', DevA w' A G 16 s' ∧ s'.dead = false ∧ s'.fuse = max (s.fuse - 1) (-1) ∧ s'.steps = s.steps + 1 ∧ Mv G.own w w' := by
  have h' := Lib.hid h
  have hf' := Lib.hid hf
  clear h hf
  have cK : w.cell? ⟨fK, 0, none⟩ = some (.slice (some ad) len cap) := (bK.cell 0).trans rfl
  have cI : w.cell? ⟨fI, 0, none⟩ = some (.int .i64 (j : Int)) := (bI.cell 0).trans rfl
  have cD : w.cell? ⟨fD, 0, none⟩ = some (.pointer (some ⟨G.d, 0, none⟩)) := (bD.cell 0).trans rfl
  obtain ⟨N, hN, hm⟩ := mask z 3 (by decide)
  have hm' : bits .and .i64 z 3 = (N : Int) := hm
  obtain ⟨N2, hN2, hn⟩ := mask (z / 4) 15 (by decide)
  have hn' : bits .and .i64 (z / 4) 15 = (N2 : Int) := hn
  have h16 := Lib.hid (show (0 : Int) ≤ (N2 : Int) ∧ (N2 : Int) < ((16 : Nat) : Int) by omega)
  have hk16 : N2 < 16 := by omega
  have hdr := Lib.hid (h'.out.keep (Mv.refl (fun _ => False) w).drew (fun _ e _ => e.elim) (fun _ _ e => e))
  clear hm hn bK bD bI
  rcases (show N = 0 ∨ N = 1 ∨ (2 ≤ N) by omega) with rfl | rfl | hN3
  · go_enter Try.func23, Try.ntmps23
    go_wp2_with fail
    refine (fence_ok w A G 16 s h'.out.1 h'.out.2 hf'.out.1 hf'.out.2.1 hf'.out.2.2).mono ?_
    rintro e w1 ⟨rfl, hd, hm⟩
    have Hd := Lib.hid (h'.out.to hd (show Mv G.own w w1 from hm))
    have Hm := Lib.hid (show Mv G.own w w1 from hm)
    clear hd hm
    go_wp2_with fail
    go_end0
    exact ⟨rfl, _, Hd.out, hf'.out.1, rfl, rfl, Hm.out⟩
  · go_enter Try.func23, Try.ntmps23
    go_wp2_with fail
    go_still_tail 7, (by kernel_rfl)
    change wpList _ _ _ _ _ w.drew
    go_wp2_with fail
    refine (flush_ok w.drew A G 16 s N2 hdr.out.1 hdr.out.2 hk16 hf'.out.1 hf'.out.2.1 hf'.out.2.2).mono ?_
    rintro e w1 ⟨rfl, hd, hm⟩
    have Hd := Lib.hid (h'.out.to hd (show Mv G.own w w1 from ((Mv.refl G.own w).drew).trans hm))
    have Hm := Lib.hid (show Mv G.own w w1 from ((Mv.refl G.own w).drew).trans hm)
    clear hd hm
    go_wp2_with fail
    go_end0
    exact ⟨rfl, _, Hd.out, hf'.out.1, rfl, rfl, Hm.out⟩
  · have t0 : ((N : Int) == 0) = false := by simp; omega
    have t1 : ((N : Int) == 1) = false := by simp; omega
    go_enter Try.func23, Try.ntmps23
    go_wp2_with fail
    go_still_tail 7, (by kernel_rfl)
    change wpList _ _ _ _ _ w.drew
    go_wp2_with fail
    refine (store_ok w.drew A G 16 s (N2 : Int) 7 hdr.out.1 h16.out hf'.out.1 hf'.out.2.1 hf'.out.2.2).mono ?_
    rintro e w1 ⟨rfl, hd, hm⟩
    have Hd := Lib.hid (h'.out.to hd (show Mv G.own w w1 from ((Mv.refl G.own w).drew).trans hm))
    have Hm := Lib.hid (show Mv G.own w w1 from ((Mv.refl G.own w).drew).trans hm)
    clear hd hm
    go_wp2_with fail
    go_end0
    exact ⟨rfl, _, Hd.out, hf'.out.1, rfl, rfl, Hm.out⟩
theorem fuses2_o (w : World) (A : Nat → Prop) (G : Dv) (s : DS) (fD : Nat) (h : DevA w A G 16 s) (hd : s.dead = false) (bD : Blk w fD 23 #[.pointer (some ⟨G.d, 0, none⟩)]) :
    Calls Try.prog 25 #[.pointer (some ⟨fD, 0, none⟩)] w fun e w' => e = .returned (.tuple #[]) ∧ w = w' := by
  have h' := Lib.hid h
  have hd' := Lib.hid hd
  clear h hd
  have cD : w.cell? ⟨fD, 0, none⟩ = some (.pointer (some ⟨G.d, 0, none⟩)) := (bD.cell 0).trans rfl
  go_enter Try.func25, Try.ntmps25
  go_wp2_with fail
  refine (load_ok w A G 16 s 3 h'.out.1 (by omega) hd'.out).mono ?_
  rintro e w1 ⟨rfl, rfl⟩
  go_wp2_with fail
  go_end0
  exact ⟨rfl, rfl⟩
theorem fuses2_l (w : World) (A : Nat → Prop) (G : Dv) (s : DS) (fD : Nat) (h : DevA w A G 16 s) (hd : s.dead = true) (bD : Blk w fD 23 #[.pointer (some ⟨G.d, 0, none⟩)]) :
    Calls Try.prog 25 #[.pointer (some ⟨fD, 0, none⟩)] w fun e w' => Panics lostV e ∧ w = w' := by
  have h' := Lib.hid h
  have hd' := Lib.hid hd
  clear h hd
  have cD : w.cell? ⟨fD, 0, none⟩ = some (.pointer (some ⟨G.d, 0, none⟩)) := (bD.cell 0).trans rfl
  go_enter Try.func25, Try.ntmps25
  go_wp2_with fail
  refine (load_lost w A G 16 s 3 h'.out.1 (by omega) hd'.out).mono ?_
  rintro e w1 ⟨he, rfl⟩
  unfold Panics at he
  subst he
  go_wp2_with fail
  simp only [bodyPost]
  exact ⟨trivial, rfl, trivial⟩
end Go.Proofs.Ytfiajonbekfcfaa
