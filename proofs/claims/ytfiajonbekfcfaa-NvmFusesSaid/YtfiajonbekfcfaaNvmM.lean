/- NvmWrong: the closure's walks and the law's walk. -/
import Derived.Test.YtfiajonbekfcfaaNvmJ
namespace Go.Proofs.Ytfiajonbekfcfaa
open Go.RowKit
set_option linter.unusedVariables false

set_option maxHeartbeats 4000000 in
theorem wrong1_w (w : World) (A : Nat → Prop) (G : Dv) (s : DS) (fK fD fI : Nat) (kind i : Int) (h : DevA w A G 16 s) (hi : i < 0 ∨ (16 : Nat) ≤ i)
    (bK : Blk w fK 3 #[.int .i64 kind]) (bD : Blk w fD 23 #[.pointer (some ⟨G.d, 0, none⟩)]) (bI : Blk w fI 3 #[.int .i64 i]) :
    Calls Try.prog 21 #[.pointer (some ⟨fK, 0, none⟩), .pointer (some ⟨fD, 0, none⟩), .pointer (some ⟨fI, 0, none⟩)] w fun e w' => Panics (wrongV i) e ∧ w = w' := by
  have h' := Lib.hid h
  have hi' := Lib.hid hi
  clear h hi
  have cK : w.cell? ⟨fK, 0, none⟩ = some (.int .i64 kind) := (bK.cell 0).trans rfl
  have cD : w.cell? ⟨fD, 0, none⟩ = some (.pointer (some ⟨G.d, 0, none⟩)) := (bD.cell 0).trans rfl
  have cI : w.cell? ⟨fI, 0, none⟩ = some (.int .i64 i) := (bI.cell 0).trans rfl
  obtain ⟨N, hN, hm⟩ := mask kind 3 (by decide)
  have hm' : bits .and .i64 kind 3 = (N : Int) := hm
  clear hm bK bD bI
  rcases (show N = 0 ∨ N = 1 ∨ (2 ≤ N) by omega) with rfl | rfl | hN2
  · go_enter Try.func21, Try.ntmps21
    go_wp2_with fail
    refine (load_wrong w A G 16 s i h'.out.1 hi'.out).mono ?_
    rintro e w1 ⟨he, rfl⟩
    unfold Panics at he
    subst he
    go_wp2_with fail
    simp only [bodyPost]
    exact ⟨trivial, rfl, trivial⟩
  · go_enter Try.func21, Try.ntmps21
    go_wp2_with fail
    refine (flush_wrong w A G 16 s i h'.out.1 hi'.out).mono ?_
    rintro e w1 ⟨he, rfl⟩
    unfold Panics at he
    subst he
    go_wp2_with fail
    simp only [bodyPost]
    exact ⟨trivial, rfl, trivial⟩
  · have t0 : ((N : Int) == 0) = false := by simp; omega
    have t1 : ((N : Int) == 1) = false := by simp; omega
    go_enter Try.func21, Try.ntmps21
    go_wp2_with fail
    refine (store_wrong w A G 16 s i 7 h'.out.1 hi'.out).mono ?_
    rintro e w1 ⟨he, rfl⟩
    unfold Panics at he
    subst he
    go_wp2_with fail
    simp only [bodyPost]
    exact ⟨trivial, rfl, trivial⟩
set_option maxHeartbeats 4000000 in
theorem wrong1_l (w : World) (A : Nat → Prop) (G : Dv) (s : DS) (fK fD fI : Nat) (kind i : Int) (h : DevA w A G 16 s) (hi : 0 ≤ i ∧ i < (16 : Nat)) (hd : s.dead = true)
    (bK : Blk w fK 3 #[.int .i64 kind]) (bD : Blk w fD 23 #[.pointer (some ⟨G.d, 0, none⟩)]) (bI : Blk w fI 3 #[.int .i64 i]) :
    Calls Try.prog 21 #[.pointer (some ⟨fK, 0, none⟩), .pointer (some ⟨fD, 0, none⟩), .pointer (some ⟨fI, 0, none⟩)] w fun e w' => Panics lostV e ∧ DevA w' A G 16 s.kill ∧ Mv G.own w w' := by
  have h' := Lib.hid h
  have hi' := Lib.hid hi
  clear h hi
  have cK : w.cell? ⟨fK, 0, none⟩ = some (.int .i64 kind) := (bK.cell 0).trans rfl
  have cD : w.cell? ⟨fD, 0, none⟩ = some (.pointer (some ⟨G.d, 0, none⟩)) := (bD.cell 0).trans rfl
  have cI : w.cell? ⟨fI, 0, none⟩ = some (.int .i64 i) := (bI.cell 0).trans rfl
  obtain ⟨N, hN, hm⟩ := mask kind 3 (by decide)
  have hm' : bits .and .i64 kind 3 = (N : Int) := hm
  clear hm bK bD bI
  rcases (show N = 0 ∨ N = 1 ∨ (2 ≤ N) by omega) with rfl | rfl | hN2
  · go_enter Try.func21, Try.ntmps21
    go_wp2_with fail
    refine (load_lost w A G 16 s i h'.out.1 hi'.out hd).mono ?_
    rintro e w1 ⟨he, rfl⟩
    unfold Panics at he
    subst he
    go_wp2_with fail
    simp only [bodyPost]
    exact ⟨trivial, rfl, h'.out.to (h'.out.1.killed hd) (Mv.refl G.own w), Mv.refl _ _⟩
  · go_enter Try.func21, Try.ntmps21
    go_wp2_with fail
    refine (flush_lost w A G 16 s i h'.out.1 hi'.out (Or.inl hd)).mono ?_
    rintro e w1 ⟨he, hd, hm⟩
    unfold Panics at he
    subst he
    have Hd := Lib.hid (h'.out.to hd hm)
    have Hm := Lib.hid hm
    clear hd hm
    go_wp2_with fail
    simp only [bodyPost]
    exact ⟨trivial, rfl, Hd.out, Hm.out⟩
  · have t0 : ((N : Int) == 0) = false := by simp; omega
    have t1 : ((N : Int) == 1) = false := by simp; omega
    go_enter Try.func21, Try.ntmps21
    go_wp2_with fail
    refine (store_lost w A G 16 s i 7 h'.out.1 hi'.out (Or.inl hd)).mono ?_
    rintro e w1 ⟨he, hd, hm⟩
    unfold Panics at he
    subst he
    have Hd := Lib.hid (h'.out.to hd hm)
    have Hm := Lib.hid hm
    clear hd hm
    go_wp2_with fail
    simp only [bodyPost]
    exact ⟨trivial, rfl, Hd.out, Hm.out⟩
set_option maxHeartbeats 4000000 in
theorem wrong1_o (w : World) (A : Nat → Prop) (G : Dv) (s : DS) (fK fD fI : Nat) (kind i : Int) (h : DevA w A G 16 s) (hi : 0 ≤ i ∧ i < (16 : Nat)) (hF : Free s 0)
    (bK : Blk w fK 3 #[.int .i64 kind]) (bD : Blk w fD 23 #[.pointer (some ⟨G.d, 0, none⟩)]) (bI : Blk w fI 3 #[.int .i64 i]) :
    Calls Try.prog 21 #[.pointer (some ⟨fK, 0, none⟩), .pointer (some ⟨fD, 0, none⟩), .pointer (some ⟨fI, 0, none⟩)] w fun e w' => e = .returned (.tuple #[]) ∧ Mv G.own w w' := by
  have h' := Lib.hid h
  have hi' := Lib.hid hi
  clear h hi
  have cK : w.cell? ⟨fK, 0, none⟩ = some (.int .i64 kind) := (bK.cell 0).trans rfl
  have cD : w.cell? ⟨fD, 0, none⟩ = some (.pointer (some ⟨G.d, 0, none⟩)) := (bD.cell 0).trans rfl
  have cI : w.cell? ⟨fI, 0, none⟩ = some (.int .i64 i) := (bI.cell 0).trans rfl
  obtain ⟨N, hN, hm⟩ := mask kind 3 (by decide)
  have hm' : bits .and .i64 kind 3 = (N : Int) := hm
  clear hm bK bD bI
  rcases (show N = 0 ∨ N = 1 ∨ (2 ≤ N) by omega) with rfl | rfl | hN2
  · go_enter Try.func21, Try.ntmps21
    go_wp2_with fail
    obtain ⟨k, rfl⟩ : ∃ k : Nat, i = (k : Int) := ⟨i.toNat, by have := hi'.out; omega⟩
    refine (loadA w A G 16 s 0 k _ h'.out hF (by have := hi'.out; omega) rfl).mono ?_
    rintro e w1 ⟨rfl, rfl⟩
    go_wp2_with fail
    go_end0
    exact ⟨rfl, Mv.refl _ _⟩
  · go_enter Try.func21, Try.ntmps21
    go_wp2_with fail
    obtain ⟨k, rfl⟩ : ∃ k : Nat, i = (k : Int) := ⟨i.toNat, by have := hi'.out; omega⟩
    refine (flushA w A G 16 s 0 k h'.out hF (by decide) (by have := hi'.out; omega)).mono ?_
    rintro e w1 ⟨rfl, hd, hm⟩
    have Hm := Lib.hid hm
    clear hd hm
    go_wp2_with fail
    go_end0
    exact ⟨rfl, Hm.out⟩
  · have t0 : ((N : Int) == 0) = false := by simp; omega
    have t1 : ((N : Int) == 1) = false := by simp; omega
    go_enter Try.func21, Try.ntmps21
    go_wp2_with fail
    obtain ⟨k, rfl⟩ : ∃ k : Nat, i = (k : Int) := ⟨i.toNat, by have := hi'.out; omega⟩
    refine (storeA w A G 16 s 0 k 7 h'.out hF (by decide) (by have := hi'.out; omega)).mono ?_
    rintro e w1 ⟨rfl, hd, hm⟩
    have Hm := Lib.hid hm
    clear hd hm
    go_wp2_with fail
    go_end0
    exact ⟨rfl, Hm.out⟩
set_option maxRecDepth 100000 in
set_option maxHeartbeats 16000000 in
theorem wrongW (i kind : Int) (dead : Bool) (w : World) :
    Calls Try.prog 5 #[.int .i64 i, .int .i64 kind, .bool dead] w fun e w' => e = .returned (.bool true) ∧ Below w.heap.size w w' := by
  have hmf : ∀ (fn : Fn) (first cap : Array Value) (w : World), (Instr.makeFunc fn first cap).run Try.prog w = .ok (.func fn first cap) w := fun _ _ _ _ => rfl
  go_enter Try.func5, Try.ntmps5
  go_wp2_with fail
  refine (new_any _ 16 (by decide)).mono ?_
  rintro e w3 ⟨G, rfl, hF, hD, hM⟩
  have hs0 := hM.size
  simp at hs0
  have bI3 : Blk w3 w.heap.size 3 #[.int .i64 i] := Blk.mv ((Blk.new w _ _).alloc _) hM (fun e => e)
  have bK3 : Blk w3 (w.heap.size + 1) 3 #[.int .i64 kind] := Blk.mv (blk_new _ _ _ (by simp)) hM (fun e => e)
  have bD4 := Blk.new w3 23 #[.pointer (some ⟨G.d, 0, none⟩)]
  obtain ⟨F1, F2, F3, F4⟩ := hF
  simp at F1 F2 F3 F4
  have hap := hD.apart
  have own2 : ∀ b, G.own b → w.heap.size + 2 ≤ b ∧ b < w3.heap.size := fun b e => by rcases e with rfl | rfl | rfl | rfl <;> exact ⟨by omega, by omega⟩
  have hb3 : Below w.heap.size w w3 := (((Below.refl _ w).alloc (Nat.le_refl _) _).alloc (by simp) _).trans (hM.below (by simp; omega) (fun b e => e.elim))
  have m34 : Mv (fun _ => False) w3 (w3.alloc (.cells #[.pointer (some ⟨G.d, 0, none⟩)] 23)) := (Mv.refl (fun _ => False) w3).alloc _
  have hA4 : DevA (w3.alloc (.cells #[.pointer (some ⟨G.d, 0, none⟩)] 23)) (Iv w.heap.size (w3.heap.size + 1)) G 16 noughts :=
    DevA.more (DevA.rebase (A' := Iv w.heap.size w3.heap.size) hD (fun _ => rfl) (fun b e => by have := own2 b e; exact ⟨by omega, by omega⟩) (fun b e => e.2)).1 m34 (fun b hb e => ⟨e.1, hb⟩) (fun b e => by have := e.2; simp; omega) (fun b e => by have := own2 b e; exact ⟨by omega, by omega⟩)
  have HM4 := Lib.hid ((Below.refl w.heap.size w).trans (hb3.trans (m34.below (by omega) (fun b e => e.elim))))
  have bI4 := bI3.mv m34 (fun e => e)
  have bK4 := bK3.mv m34 (fun e => e)
  have hs4 : (w3.alloc (.cells #[.pointer (some ⟨G.d, 0, none⟩)] 23)).heap.size = w3.heap.size + 1 := by simp
  clear hM hD bI3 bK3 hap F1 F2 F3 F4
  have cI4 : (w3.alloc (.cells #[.pointer (some ⟨G.d, 0, none⟩)] 23)).cell? ⟨w.heap.size, 0, none⟩ = some (.int .i64 i) := (bI4.cell 0).trans rfl
  cases dead with
  | false =>
    go_wp2_with fail
    generalize w3.alloc (.cells #[.pointer (some ⟨G.d, 0, none⟩)] 23) = w4 at *
    generalize hfD : w3.heap.size = fD at *
    generalize hB : w.heap.size = B at *
    have HA5 := Lib.hid hA4
    have HbI5 := Lib.hid bI4
    have HbK5 := Lib.hid bK4
    have HbD5 := Lib.hid bD4
    have Hb5 := HM4
    obtain ⟨A5, hA5⟩ : ∃ A5 : Nat → Prop, A5 = Iv B (fD + 1) := ⟨_, rfl⟩
    rw [← hA5] at HA5
    generalize w4 = w5 at HA5 HbI5 HbK5 HbD5 Hb5 ⊢
    have cI5 : w5.cell? ⟨B, 0, none⟩ = some (.int .i64 i) := (HbI5.out.cell 0).trans rfl
    have cD5 : w5.cell? ⟨fD, 0, none⟩ = some (.pointer (some ⟨G.d, 0, none⟩)) := (HbD5.out.cell 0).trans rfl
    have hsz5 : B ≤ w5.heap.size := by have := Hb5.out.size; omega
    have lD := HbD5.out.lt
    have lI := HbI5.out.lt
    rcases (show (i < 0 ∨ (0 ≤ i ∧ 15 < i)) ∨ (0 ≤ i ∧ i < 16) by omega) with hi | hi
    · rcases hi with hi | ⟨hi0, hi⟩
      all_goals (
        refine (tellW i 21 Try.f21 _ w5 (fun _ => False) (fun w' => DevA w' (fun b => A5 b ∨ b = w5.heap.size + 1) G 16 (noughts)) Try.func21 (by kernel_rfl) (by kernel_rfl) (fun _ e => e.elim) (fun v hv hs => (wrong1_w v _ G (noughts) (B + 1) fD B kind i (HA5.out.told hv hs) (by omega) (HbK5.out.mv hv (fun e => e)) (HbD5.out.mv hv (fun e => e)) (HbI5.out.mv hv (fun e => e))).mono (by
          rintro e w' ⟨he, rfl⟩
          exact ⟨he, HA5.out.told hv hs, Mv.refl _ _⟩))).mono ?_
        rintro e w7 ⟨rfl, w6, hQ, m56, m67⟩
        have hA7 := Lib.hid (HA5.out.back hQ m67)
        have hbD7 := (HbD5.out.mv m56 (fun e => e)).mv m67 (by omega)
        have hbI7 := (HbI5.out.mv m56 (fun e => e)).mv m67 (by omega)
        have Hb7 := Lib.hid (Hb5.out.trans ((m56.below hsz5 (fun b e => e.elim)).trans (m67.below (by have := m56.size; omega) (fun b e => by omega))))
        have cI7 : w7.cell? ⟨B, 0, none⟩ = some (.int .i64 i) := (hbI7.cell 0).trans rfl
        have cD7 : w7.cell? ⟨fD, 0, none⟩ = some (.pointer (some ⟨G.d, 0, none⟩)) := (hbD7.cell 0).trans rfl
        have hst := Lib.hid (steps_any w7 _ G 16 _ hA7.out.1)
        clear hQ m56 m67 hbD7 hbI7 cI5 cD5
        go_wp2_with fail
        refine hst.out.mono ?_
        rintro e w8 ⟨rfl, rfl⟩
        go_wp2_with fail
        refine (waiting_any w7 _ G 16 _ hA7.out.1).mono ?_
        rintro e w8 ⟨A8, q, hq, rfl, hr8, hg8, hb8⟩
        have hq0 : q = 0 := hq
        subst hq0
        have Hb8 := Lib.hid (Hb7.out.trans (hb8.mono (by have := Hb7.out.size; omega)))
        clear hq hr8 hg8 hb8
        go_wp2_with fail
        refine (awake_any _).mono ?_
        rintro e w9 ⟨rfl, hb9⟩
        have Hb9 := Lib.hid (Hb8.out.trans (hb9.mono (by have := Hb8.out.size; omega)))
        clear hb9
        go_wp2_with fail
        go_ret
        exact ⟨by simp, by rw [hB]; exact Hb9.out⟩)
    · have hi0 := hi.1
      have hi1 := hi.2
      refine (tellR i 21 Try.f21 _ w5 G.own (fun _ => True) Try.func21 (by kernel_rfl) (by kernel_rfl) HA5.out.own_lt (fun v hv hs => (wrong1_o v _ G (noughts) (B + 1) fD B kind i (HA5.out.told hv hs) hi Free.noughts (HbK5.out.mv hv (fun e => e)) (HbD5.out.mv hv (fun e => e)) (HbI5.out.mv hv (fun e => e))).mono (by
        rintro e w' ⟨he, hm⟩
        exact ⟨he, trivial, hm⟩))).mono ?_
      rintro e w7 ⟨rfl, w6, -, m56, m67⟩
      have hbI7 := (HbI5.out.mv m56 (fun e => by have := own2 _ e; omega)).mv m67 (by omega)
      have cI7 : w7.cell? ⟨B, 0, none⟩ = some (.int .i64 i) := (hbI7.cell 0).trans rfl
      have Hb8 := Lib.hid (Hb5.out.trans ((m56.below hsz5 (fun b e => by have := own2 _ e; omega)).trans (m67.below (by have := m56.size; omega) (fun b e => by omega))))
      clear m56 m67 hbI7 cI5 cD5
      go_wp2_with fail
      refine (awake_any _).mono ?_
      rintro e w9 ⟨rfl, hb9⟩
      have Hb9 := Lib.hid (Hb8.out.trans (hb9.mono (by have := Hb8.out.size; omega)))
      clear hb9
      go_wp2_with fail
      go_ret
      exact ⟨by simp, by rw [hB]; exact Hb9.out⟩
    
  | true =>
    go_wp2_with fail
    generalize w3.alloc (.cells #[.pointer (some ⟨G.d, 0, none⟩)] 23) = w4 at *
    generalize hfD : w3.heap.size = fD at *
    generalize hB : w.heap.size = B at *
    have HA4 := Lib.hid hA4
    have HbI4 := Lib.hid bI4
    have HbK4 := Lib.hid bK4
    have HbD4 := Lib.hid bD4
    clear hA4 bI4 bK4 bD4
    refine (fuse_any w4 _ G 16 noughts 0 HA4.out.1 (by omega)).mono ?_
    rintro e wf ⟨rfl, hDf, hMf⟩
    have HAf := Lib.hid (HA4.out.to hDf hMf)
    have hbDf := HbD4.out.mv hMf (fun e => by have := own2 _ (.inl rfl); omega)
    have hbIf := HbI4.out.mv hMf (fun e => by have := own2 _ (.inl rfl); omega)
    have hbKf := HbK4.out.mv hMf (fun e => by have := own2 _ (.inl rfl); omega)
    have HMf := Lib.hid (HM4.out.trans (hMf.below (by have := HM4.out.size; omega) (fun b e => by have := own2 _ (.inl rfl); omega)))
    have cDf : wf.cell? ⟨fD, 0, none⟩ = some (.pointer (some ⟨G.d, 0, none⟩)) := (hbDf.cell 0).trans rfl
    obtain ⟨A4, hA4⟩ : ∃ A4 : Nat → Prop, A4 = Iv B (fD + 1) := ⟨_, rfl⟩
    rw [← hA4] at HAf
    go_wp2_with fail
    refine (tellML 0 14 Try.f14 _ wf G.own (fun w' => DevA w' (fun b => A4 b ∨ b = wf.heap.size + 1) G 16 (DS.kill { noughts with fuse := 0 })) Try.func14 (by kernel_rfl) (by kernel_rfl) HAf.out.own_lt (fun v hv hs => (fence_lost v _ G 16 _ (HAf.out.told hv hs).1 (Or.inr rfl)).mono (by
      rintro e w' ⟨he, hd, hm⟩
      exact ⟨he, (HAf.out.told hv hs).to hd hm, hm⟩))).mono ?_
    rintro e w5 ⟨rfl, wg, hQ, m56, m67⟩
    have HA5 := Lib.hid (HAf.out.back hQ m67)
    have hsf : B ≤ wf.heap.size := by have := HMf.out.size; omega
    have lf1 := hbDf.lt
    have lf2 := hbIf.lt
    have lf3 := hbKf.lt
    have HbD5 := Lib.hid ((hbDf.mv m56 (fun e => by have := own2 _ e; omega)).mv m67 (by omega))
    have HbI5 := Lib.hid ((hbIf.mv m56 (fun e => by have := own2 _ e; omega)).mv m67 (by omega))
    have HbK5 := Lib.hid ((hbKf.mv m56 (fun e => by have := own2 _ e; omega)).mv m67 (by omega))
    have Hb5 := Lib.hid (HMf.out.trans ((m56.below hsf (fun b e => by have := own2 _ e; omega)).trans (m67.below (by have := m56.size; omega) (fun b e => by omega))))
    have cI5' : w5.cell? ⟨B, 0, none⟩ = some (.int .i64 i) := (HbI5.out.cell 0).trans rfl
    clear hQ m56 m67 hbDf hbIf hbKf hDf hMf cDf
    obtain ⟨A5, hA5⟩ : ∃ A5 : Nat → Prop, A5 = fun b => A4 b ∨ b = wf.heap.size + 1 := ⟨_, rfl⟩
    rw [← hA5] at HA5
    go_wp2_with fail
    have cI5 : w5.cell? ⟨B, 0, none⟩ = some (.int .i64 i) := (HbI5.out.cell 0).trans rfl
    have cD5 : w5.cell? ⟨fD, 0, none⟩ = some (.pointer (some ⟨G.d, 0, none⟩)) := (HbD5.out.cell 0).trans rfl
    have hsz5 : B ≤ w5.heap.size := by have := Hb5.out.size; omega
    have lD := HbD5.out.lt
    have lI := HbI5.out.lt
    rcases (show (i < 0 ∨ (0 ≤ i ∧ 15 < i)) ∨ (0 ≤ i ∧ i < 16) by omega) with hi | hi
    · rcases hi with hi | ⟨hi0, hi⟩
      all_goals (
        refine (tellW i 21 Try.f21 _ w5 (fun _ => False) (fun w' => DevA w' (fun b => A5 b ∨ b = w5.heap.size + 1) G 16 (DS.kill { noughts with fuse := 0 })) Try.func21 (by kernel_rfl) (by kernel_rfl) (fun _ e => e.elim) (fun v hv hs => (wrong1_w v _ G (DS.kill { noughts with fuse := 0 }) (B + 1) fD B kind i (HA5.out.told hv hs) (by omega) (HbK5.out.mv hv (fun e => e)) (HbD5.out.mv hv (fun e => e)) (HbI5.out.mv hv (fun e => e))).mono (by
          rintro e w' ⟨he, rfl⟩
          exact ⟨he, HA5.out.told hv hs, Mv.refl _ _⟩))).mono ?_
        rintro e w7 ⟨rfl, w6, hQ, m56, m67⟩
        have hA7 := Lib.hid (HA5.out.back hQ m67)
        have hbD7 := (HbD5.out.mv m56 (fun e => e)).mv m67 (by omega)
        have hbI7 := (HbI5.out.mv m56 (fun e => e)).mv m67 (by omega)
        have Hb7 := Lib.hid (Hb5.out.trans ((m56.below hsz5 (fun b e => e.elim)).trans (m67.below (by have := m56.size; omega) (fun b e => by omega))))
        have cI7 : w7.cell? ⟨B, 0, none⟩ = some (.int .i64 i) := (hbI7.cell 0).trans rfl
        have cD7 : w7.cell? ⟨fD, 0, none⟩ = some (.pointer (some ⟨G.d, 0, none⟩)) := (hbD7.cell 0).trans rfl
        have hst := Lib.hid (steps_any w7 _ G 16 _ hA7.out.1)
        clear hQ m56 m67 hbD7 hbI7 cI5 cD5
        go_wp2_with fail
        refine hst.out.mono ?_
        rintro e w8 ⟨rfl, rfl⟩
        go_wp2_with fail
        refine (waiting_any w7 _ G 16 _ hA7.out.1).mono ?_
        rintro e w8 ⟨A8, q, hq, rfl, hr8, hg8, hb8⟩
        have hq0 : q = 0 := hq
        subst hq0
        have Hb8 := Lib.hid (Hb7.out.trans (hb8.mono (by have := Hb7.out.size; omega)))
        clear hq hr8 hg8 hb8
        go_wp2_with fail
        refine (awake_any _).mono ?_
        rintro e w9 ⟨rfl, hb9⟩
        have Hb9 := Lib.hid (Hb8.out.trans (hb9.mono (by have := Hb8.out.size; omega)))
        clear hb9
        go_wp2_with fail
        go_ret
        exact ⟨by simp, by rw [hB]; exact Hb9.out⟩)
    · have hi0 := hi.1
      have hi1 := hi.2
      refine (tellL i 21 Try.f21 _ w5 G.own (fun w' => DevA w' (fun b => A5 b ∨ b = w5.heap.size + 1) G 16 (DS.kill (DS.kill { noughts with fuse := 0 }))) Try.func21 (by kernel_rfl) (by kernel_rfl) HA5.out.own_lt (fun v hv hs => (wrong1_l v _ G (DS.kill { noughts with fuse := 0 }) (B + 1) fD B kind i (HA5.out.told hv hs) hi rfl (HbK5.out.mv hv (fun e => e)) (HbD5.out.mv hv (fun e => e)) (HbI5.out.mv hv (fun e => e))).mono (by
        rintro e w' ⟨he, hd, hm⟩
        exact ⟨he, hd, hm⟩))).mono ?_
      rintro e w7 ⟨rfl, w6, hQ, m56, m67⟩
      have hA7 := Lib.hid (HA5.out.back hQ m67)
      have hbD7 := (HbD5.out.mv m56 (fun e => by have := own2 _ e; omega)).mv m67 (by omega)
      have hbI7 := (HbI5.out.mv m56 (fun e => by have := own2 _ e; omega)).mv m67 (by omega)
      have Hb7 := Lib.hid (Hb5.out.trans ((m56.below hsz5 (fun b e => by have := own2 _ e; omega)).trans (m67.below (by have := m56.size; omega) (fun b e => by omega))))
      have cI7 : w7.cell? ⟨B, 0, none⟩ = some (.int .i64 i) := (hbI7.cell 0).trans rfl
      have cD7 : w7.cell? ⟨fD, 0, none⟩ = some (.pointer (some ⟨G.d, 0, none⟩)) := (hbD7.cell 0).trans rfl
      have hst := Lib.hid (steps_any w7 _ G 16 _ hA7.out.1)
      clear hQ m56 m67 hbD7 hbI7 cI5 cD5
      go_wp2_with fail
      refine hst.out.mono ?_
      rintro e w8 ⟨rfl, rfl⟩
      go_wp2_with fail
      refine (waiting_any w7 _ G 16 _ hA7.out.1).mono ?_
      rintro e w8 ⟨A8, q, hq, rfl, hr8, hg8, hb8⟩
      have hq0 : q = 0 := hq
      subst hq0
      have Hb8 := Lib.hid (Hb7.out.trans (hb8.mono (by have := Hb7.out.size; omega)))
      clear hq hr8 hg8 hb8
      go_wp2_with fail
      refine (awake_any _).mono ?_
      rintro e w9 ⟨rfl, hb9⟩
      have Hb9 := Lib.hid (Hb8.out.trans (hb9.mono (by have := Hb8.out.size; omega)))
      clear hb9
      go_wp2_with fail
      go_ret
      exact ⟨by simp, by rw [hB]; exact Hb9.out⟩
    
end Go.Proofs.Ytfiajonbekfcfaa
