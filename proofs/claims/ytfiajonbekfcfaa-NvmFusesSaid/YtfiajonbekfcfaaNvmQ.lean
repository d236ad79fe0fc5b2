/- NvmFuses: the law's walk. -/
import Derived.Test.YtfiajonbekfcfaaNvmP
import Derived.Deep.RegionHeld3
import Derived.BigQuiet
namespace Go.Proofs.Ytfiajonbekfcfaa
open Go.RowKit
set_option linter.unusedVariables false
theorem int_atQ {w : World} {B n : Nat} {a : Option Addr} {zs : List Int} {k : Nat} (h : Reads w B 1 a n (zs.map (Value.int .i64))) (hk : k < n) : ∃ ad z, a = some ad ∧ ad.block < B ∧ z ∈ zs ∧ zs[k]? = some z ∧ w.cell? (ad.add k) = some (.int .i64 z) := by
  obtain ⟨ad, u, e, hb, hu, hc⟩ := h.at_ hk
  rw [List.getElem?_map] at hu
  rcases hz : zs[k]? with _ | z
  · rw [hz] at hu; cases hu
  · rw [hz] at hu
    cases hu
    exact ⟨ad, z, e, hb, List.mem_of_getElem? hz, rfl, hc⟩
/-- A fuse that burns: so many steps are left, so many went well. -/
def Fu (s : DS) (k j : Nat) : Prop := s.steps = ((min j k : Nat) : Int) ∧ (j ≤ k → s.dead = false ∧ s.fuse = ((k - j : Nat) : Int)) ∧ (k < j → s.dead = true)
theorem DevA.drewN {w : World} {A : Nat → Prop} {G : Dv} {n : Nat} {s : DS} (h : DevA w A G n s) (m : Nat) : DevA (w.drewN m) A G n s := h.keep ((Mv.refl (fun _ => False) w).drewN m) (fun _ e _ => e.elim) (fun _ _ e => e)
/-- The rounds that are left, by the counter's cell. -/
def fuM (v : Value) (w : World) : Nat := match v with
  | .pointer (some x) => (match w.cell? x with
    | some (.int _ n) => 50 - n.toNat
    | _ => 0)
  | _ => 0
theorem fuM_at {w : World} {x : Addr} {k : IntKind} {n : Nat} (h : w.cell? x = some (.int k (n : Int))) : fuM (.pointer (some x)) w = 50 - n := by
  unfold fuM
  simp [h]
set_option maxRecDepth 100000 in
set_option maxHeartbeats 16000000 in
theorem fusesW (a1 : Option Addr) (len1 cap1 : Nat) (z1 : List Int) (a0 : Int) (w : World) (w1 : IsRow .i64 w a1 len1 cap1 z1) :
    Calls Try.prog 6 #[.slice a1 len1 cap1, .int .i64 a0] w fun e w' => e = .returned (.bool true) ∧ Below w.heap.size w w' := by
  have hmf : ∀ (fn : Fn) (first cap : Array Value) (w : World), (Instr.makeFunc fn first cap).run Try.prog w = .ok (.func fn first cap) w := fun _ _ _ _ => rfl
  obtain ⟨r1, hz1, hl1, -, -⟩ := isrow_rd w1
  obtain ⟨K, hK, hm⟩ := mask a0 31 (by decide)
  have hm' : bits .and .i64 a0 31 = (K : Int) := hm
  have R1 := Lib.hid r1
  clear hm w1 r1
  go_enter Try.func6, Try.ntmps6
  go_wp2_with fail
  refine (new_any _ 16 (by decide)).mono ?_
  rintro e w3 ⟨G, rfl, hF, hD, hM⟩
  have hs0 := hM.size
  simp at hs0
  have bK3 : Blk w3 w.heap.size 22 #[.slice a1 len1 cap1] := Blk.mv (Blk.new w _ _) hM (fun e => e)
  have bD4 := Blk.new w3 23 #[.pointer (some ⟨G.d, 0, none⟩)]
  obtain ⟨F1, F2, F3, F4⟩ := hF
  simp at F1 F2 F3 F4
  have hap := hD.apart
  have own2 : ∀ b, G.own b → w.heap.size + 1 ≤ b ∧ b < w3.heap.size := fun b e => by rcases e with rfl | rfl | rfl | rfl <;> exact ⟨by omega, by omega⟩
  have hb3 : Below w.heap.size w w3 := ((Below.refl _ w).alloc (Nat.le_refl _) _).trans (hM.below (by simp) (fun b e => e.elim))
  have m34 : Mv (fun _ => False) w3 (w3.alloc (.cells #[.pointer (some ⟨G.d, 0, none⟩)] 23)) := (Mv.refl (fun _ => False) w3).alloc _
  have hA4 : DevA (w3.alloc (.cells #[.pointer (some ⟨G.d, 0, none⟩)] 23)) (Iv w.heap.size (w3.heap.size + 1)) G 16 noughts :=
    DevA.more (DevA.rebase (A' := Iv w.heap.size w3.heap.size) hD (fun _ => rfl) (fun b e => by have := own2 b e; exact ⟨by omega, by omega⟩) (fun b e => e.2)).1 m34 (fun b hb e => ⟨e.1, hb⟩) (fun b e => by have := e.2; simp; omega) (fun b e => by have := own2 b e; exact ⟨by omega, by omega⟩)
  have HM4 := Lib.hid (hb3.trans (m34.below (by omega) (fun b e => e.elim)))
  have bK4 := bK3.mv m34 (fun e => e)
  have hs4 : (w3.alloc (.cells #[.pointer (some ⟨G.d, 0, none⟩)] 23)).heap.size = w3.heap.size + 1 := by simp
  clear hM hD bK3 hap F1 F2 F3 F4
  go_wp2_with fail
  refine (fuse_any _ _ G 16 noughts (K : Int) hA4.1 (by omega)).mono ?_
  rintro e w5 ⟨rfl, hDf, hMf⟩
  have hA5 := hA4.to hDf hMf
  have hse := hMf.size
  have bK5 := bK4.mv hMf (fun e => by have := own2 _ (.inl rfl); omega)
  have bD5 := bD4.mv hMf (fun e => by have := own2 _ (.inl rfl); omega)
  have HM5 := HM4.out.trans (hMf.below (by omega) (fun b e => by have := own2 _ (.inl rfl); omega))
  have bI6 := Blk.new w5 3 #[.int .i64 0]
  have bK6 := Lib.hid (bK5.alloc (.cells #[.int .i64 0] 3))
  have bD6 := Lib.hid (bD5.alloc (.cells #[.int .i64 0] 3))
  have HM6 := Lib.hid (HM5.alloc (by omega) (.cells #[.int .i64 0] 3))
  have hA6 : Hid (∃ A, DevA (w5.alloc (.cells #[.int .i64 0] 3)) A G 16 { noughts with fuse := (K : Int) }) := Lib.hid ⟨_, hA5.keep ((Mv.refl (fun _ => False) w5).alloc (.cells #[.int .i64 0] 3)) (fun _ e _ => e.elim) (fun _ _ e => e)⟩
  have BI6 := Lib.hid bI6
  clear hA4 hDf hMf hA5 bK5 bD5 HM5 HM4 bI6 bK4 bD4 hb3 m34
  go_wp2_with fail
  generalize hfD : w3.heap.size = fD at *
  generalize hB : w.heap.size = B at *
  generalize w5.alloc (.cells #[.int .i64 0] 3) = w6 at *
  have hfI : Hid (fD < w5.heap.size) := Lib.hid (by omega)
  generalize w5.heap.size = fI0 at *
  clear hs0 hs4 hse
  go_loopw [7] (fun v wr => ∃ (j fI : Nat) (A : Nat → Prop) (s : DS), v = .pointer (some ⟨fI, 0, none⟩) ∧ j ≤ 50 ∧ Hid (DevA wr A G 16 s) ∧ Hid (Fu s K j) ∧ Hid (Blk wr fI 3 #[.int .i64 (j : Int)]) ∧ Hid (Blk wr B 22 #[.slice a1 len1 cap1]) ∧ Hid (Blk wr fD 23 #[.pointer (some ⟨G.d, 0, none⟩)]) ∧ Hid (Below B w wr) ∧ Hid (fD < fI))
    (fun v wr => fuM v wr)
  case atStart =>
    obtain ⟨A6, hA6⟩ := hA6.out
    exact ⟨0, fI0, A6, _, rfl, by omega, Lib.hid hA6, Lib.hid ⟨by simp [noughts], fun _ => ⟨rfl, rfl⟩, fun e => by omega⟩, BI6, bK6, bD6, HM6, hfI⟩
  case round =>
    clear BI6 bK6 bD6 HM6 hfI hA6
    obtain ⟨j, fI, A, s, rfl, hj, HA, hFu, HbI, HbK, HbD, HM, hfI⟩ := hrel
    have cI : wr.cell? ⟨fI, 0, none⟩ = some (.int .i64 (j : Int)) := (HbI.out.cell 0).trans rfl
    have cK : wr.cell? ⟨B, 0, none⟩ = some (.slice a1 len1 cap1) := (HbK.out.cell 0).trans rfl
    have cD : wr.cell? ⟨fD, 0, none⟩ = some (.pointer (some ⟨G.d, 0, none⟩)) := (HbD.out.cell 0).trans rfl
    by_cases hlt : j < len1 ∧ j < 50
    · obtain ⟨hlt, h50⟩ := hlt
      have hsz : B ≤ wr.heap.size := by have := HM.out.size; omega
      obtain ⟨ad, z, rfl, hadb, -, -, hcl⟩ := int_atQ (R1.out.below HM.out) hlt
      have lI := HbI.out.lt
      have lK := HbK.out.lt
      have lD := HbD.out.lt
      by_cases hjK : j < K
      · go_wp2_with fail
        refine (tellR 0 23 Try.f23 _ wr G.own (fun w' => ∃ s', DevA w' (fun b => A b ∨ b = wr.heap.size + 1) G 16 s' ∧ s'.dead = false ∧ s'.fuse = max (s.fuse - 1) (-1) ∧ s'.steps = s.steps + 1) Try.func23 (by kernel_rfl) (by kernel_rfl) HA.out.own_lt (fun v hv hs => (fuses1_o v _ G s B fI fD ad len1 cap1 j z (HA.out.told hv hs) ⟨(hFu.out.2.1 (by omega)).1, by rw [(hFu.out.2.1 (by omega)).2]; omega, by rw [hFu.out.1]; omega⟩ hlt h50 (HbK.out.mv hv (fun e => e)) (HbI.out.mv hv (fun e => e)) (HbD.out.mv hv (fun e => e)) ((mv_cell hv (p := ad.add j) (by rw [block_of_add]; omega) (fun e => e)).trans hcl)).mono (by
          rintro e w' ⟨he, s', h1, h2, h3, h4, h5⟩
          exact ⟨he, ⟨s', h1, h2, h3, h4⟩, h5⟩))).mono ?_
        rintro e w7 ⟨rfl, w6, ⟨s', hQ, hq1, hq2, hq3⟩, m56, m67⟩
        have hFu' : Hid (Fu s' K (j + 1)) := Lib.hid (by
          obtain ⟨f1, f2, f3⟩ := hFu.out
          have f2' := f2 (by omega)
          refine ⟨?_, fun e => ⟨hq1, ?_⟩, fun e => by omega⟩
          · rw [hq3, f1]; omega
          · rw [hq2, f2'.2]; omega)
        have HA7 := Lib.hid (HA.out.back hQ m67)
        have HbI7 := Lib.hid ((HbI.out.mv m56 (fun e => by have := own2 _ e; have := hfI.out; omega)).mv m67 (by omega))
        have HbK7 := Lib.hid ((HbK.out.mv m56 (fun e => by have := own2 _ e; omega)).mv m67 (by omega))
        have HbD7 := Lib.hid ((HbD.out.mv m56 (fun e => by have := own2 _ e; omega)).mv m67 (by omega))
        have HM7 := Lib.hid (HM.out.trans ((m56.below hsz (fun b e => by have := own2 _ e; omega)).trans (m67.below (by have := m56.size; omega) (fun b e => by omega))))
        have hsz7 : wr.heap.size ≤ w7.heap.size := by have := m56.size; have := m67.size; omega
        obtain ⟨A7, hA7⟩ : ∃ A7 : Nat → Prop, A7 = fun b => A b ∨ b = wr.heap.size + 1 := ⟨_, rfl⟩
        rw [← hA7] at HA7
        have dI : w7.cell? ⟨fI, 0, none⟩ = some (.int .i64 (j : Int)) := (HbI7.out.cell 0).trans rfl
        have dD : w7.cell? ⟨fD, 0, none⟩ = some (.pointer (some ⟨G.d, 0, none⟩)) := (HbD7.out.cell 0).trans rfl
        clear hQ m56 m67 cI cK cD hA7
        have hw1 : IntKind.i64.wrap ((j : Int) + 1) = (j : Int) + 1 := IntWalk.i64_in _ (by omega)
        have hst : s'.steps = (j : Int) + 1 := by rw [hFu'.out.1]; omega
        have hdv : s'.dead = false := hq1
        have Hdd : Hid (∀ m, Calls Try.prog 24 #[.pointer (some ⟨G.d, 0, none⟩)] (w7.drewN m) fun e w' => e = .returned (.bool false) ∧ ∃ m', w' = w7.drewN m') := Lib.hid (fun m => (dead_any (w7.drewN m) _ G 16 s' (HA7.out.drewN m).1).mono (by
          rintro e w8 ⟨rfl, rfl⟩
          rw [hdv]
          exact ⟨rfl, _, rfl⟩))
        have Hss : Hid (∀ m, Calls Try.prog 22 #[.pointer (some ⟨G.d, 0, none⟩)] (w7.drewN m) fun e w' => e = .returned (.int .i64 ((j : Int) + 1)) ∧ ∃ m', w' = w7.drewN m') := Lib.hid (fun m => (steps_any (w7.drewN m) _ G 16 s' (HA7.out.drewN m).1).mono (by
          rintro e w8 ⟨rfl, rfl⟩
          rw [hst]
          exact ⟨rfl, _, rfl⟩))
        have Hdv := Lib.hid hdv
        have jK1 : (j : Int) < (K : Int) := by omega
        have jK2 : (j : Int) + 1 ≤ (K : Int) := by omega
        have jK3 : ¬ (K : Int) < (j : Int) + 1 := by omega
        have jK4 : ¬ K ≤ j := by omega
        have hmn : ((j : Int) + 1 != if (K : Int) < (j : Int) + 1 then (K : Int) else (j : Int) + 1) = false := by rw [if_neg jK3]; simp
        clear hst hdv
        go_wp2_with fail
        go_quiet (first
          | (go_at_call 24; exact Hdd.out _)
          | (go_at_call 22; exact Hss.out _))
        have HA8 := Lib.hid (HA7.out.drewN nq)
        have HbI8 : Hid (Blk (w7.drewN nq) fI 3 #[.int .i64 (j : Int)]) := Lib.hid (HbI7.out.drewN nq)
        have HbK8 : Hid (Blk (w7.drewN nq) B 22 #[.slice (some ad) len1 cap1]) := Lib.hid (HbK7.out.drewN nq)
        have HbD8 : Hid (Blk (w7.drewN nq) fD 23 #[.pointer (some ⟨G.d, 0, none⟩)]) := Lib.hid (HbD7.out.drewN nq)
        have HM8 : Hid (Below B w (w7.drewN nq)) := Lib.hid (below_drewN HM7.out nq)
        have hsz8 : wr.heap.size ≤ (w7.drewN nq).heap.size := hsz7
        clear HA7 HbI7 HbK7 HbD7 HM7 Hdd Hss dI dD hsz7
        generalize w7.drewN nq = w8 at *
        have dI : w8.cell? ⟨fI, 0, none⟩ = some (.int .i64 (j : Int)) := (HbI8.out.cell 0).trans rfl
        have dD : w8.cell? ⟨fD, 0, none⟩ = some (.pointer (some ⟨G.d, 0, none⟩)) := (HbD8.out.cell 0).trans rfl
        have lI8 := HbI8.out.lt
        have lK8 := HbK8.out.lt
        have lD8 := HbD8.out.lt
        have own8 := Lib.hid HA8.out.own_lt
        have dr8 := Lib.hid (HA8.out.keep (Mv.refl (fun _ => False) w8).drew (fun _ e _ => e.elim) (fun _ _ e => e))
        have Hdd := Lib.hid (dead_any w8.drew _ G 16 s' dr8.out.1)
        rw [Hdv.out] at Hdd
        have Htl := Lib.hid (tellR 0 25 Try.f25 #[.pointer (some ⟨fD, 0, none⟩)] w8.drew (fun _ => False) (fun w' => DevA w' (fun b => A7 b ∨ b = w8.drew.heap.size + 1) G 16 s') Try.func25 (by kernel_rfl) (by kernel_rfl) (fun _ e => e.elim) (fun v hv hs => (fuses2_o v _ G s' fD (dr8.out.told hv hs) Hdv.out (HbD8.out.mv ((Mv.refl (fun _ => False) w8).drew.trans hv) (fun e => e))).mono (by
          rintro e w' ⟨he, rfl⟩
          exact ⟨he, dr8.out.told hv hs, Mv.refl _ _⟩)))
        go_wp2_with fail
        go_region_held3 (fun w' => w'.cell? ⟨fD, 0, none⟩ = some (.pointer (some ⟨G.d, 0, none⟩))) (first | assumption | (simp [*]; done)) (first
          | (go_simp; go_at_call 10; refine Htl.out.mono ?_; rintro e w9 ⟨rfl, wg, hQ9, m89, m99⟩; have hA9 := dr8.out.back hQ9 m99; have m9 : Mv (fun b => b = w8.heap.size + 1) w8 w9 := ((Mv.refl (fun b => b = w8.heap.size + 1) w8).drew.trans (m89.mono (fun _ _ e => e.elim))).trans m99; have dD9 : w9.cell? ⟨fD, 0, none⟩ = some (.pointer (some ⟨G.d, 0, none⟩)) := ((HbD8.out.mv m9 (by omega)).cell 0).trans rfl; have hd9 := dead_any w9 _ G 16 s' hA9.1; rw [Hdv.out] at hd9)
          | (go_simp; go_at_call 24; refine Hdd.out.mono ?_; rintro e w10 ⟨rfl, rfl⟩)
          | (go_simp; go_at_call 24; refine hd9.mono ?_; rintro e w10 ⟨rfl, rfl⟩))
        all_goals (
          have HA9 := Lib.hid hA9
          have HbI9 := Lib.hid (HbI8.out.mv m9 (by omega))
          have HbK9 := Lib.hid (HbK8.out.mv m9 (by omega))
          have HbD9 := Lib.hid (HbD8.out.mv m9 (by omega))
          have HM9 := Lib.hid (HM8.out.trans (m9.below (by omega) (fun b e => by omega)))
          have hsz9 : w8.heap.size ≤ w9.heap.size := m9.size
          have dI9 : w9.cell? ⟨fI, 0, none⟩ = some (.int .i64 (j : Int)) := (HbI9.out.cell 0).trans rfl
          clear hA9 hQ9 m89 m99 m9 Htl Hdd hd9 dD dI dr8 dD9
          have e1 : (j : Int) + 1 = ((j + 1 : Nat) : Int) := by omega
          have bI10 : Blk (w9.alloc (.cells #[.int .i64 ((j : Int) + 1)] 3)) w9.heap.size 3 #[.int .i64 ((j + 1 : Nat) : Int)] := by
            rw [e1]
            exact Blk.new w9 _ _
          have BI10 := Lib.hid bI10
          have Hme := Lib.hid (fuM_at (w := w9.alloc (.cells #[.int .i64 ((j : Int) + 1)] 3)) (x := ⟨w9.heap.size, 0, none⟩) (k := .i64) (n := j + 1) ((bI10.cell 0).trans rfl))
          have Hm0 := Lib.hid (fuM_at (w := wr) (x := ⟨fI, 0, none⟩) (k := .i64) (n := j) ((HbI.out.cell 0).trans rfl))
          clear bI10 e1
          go_wp2_with fail
          go_roundw
          case rel =>
            exact ⟨j + 1, w9.heap.size, _, s', rfl, by omega, Lib.hid (HA9.out.keep ((Mv.refl (fun _ => False) w9).alloc _) (fun _ e _ => e.elim) (fun _ _ e => e)), hFu', BI10, Lib.hid (HbK9.out.alloc _), Lib.hid (HbD9.out.alloc _), Lib.hid (HM9.out.alloc (by omega) _), Lib.hid (by omega)⟩
          case measure =>
            rw [Hme.out, Hm0.out]; omega)
      · go_wp2_with fail
        refine (tellL 0 23 Try.f23 _ wr G.own (fun w' => DevA w' (fun b => A b ∨ b = wr.heap.size + 1) G 16 s.kill) Try.func23 (by kernel_rfl) (by kernel_rfl) HA.out.own_lt (fun v hv hs => (fuses1_l v _ G s B fI fD ad len1 cap1 j z (HA.out.told hv hs) (by
          rcases Nat.eq_or_lt_of_le (show K ≤ j by omega) with e | e
          · right; rw [(hFu.out.2.1 (by omega)).2]; omega
          · left; exact hFu.out.2.2 e) hlt h50 (HbK.out.mv hv (fun e => e)) (HbI.out.mv hv (fun e => e)) (HbD.out.mv hv (fun e => e)) ((mv_cell hv (p := ad.add j) (by rw [block_of_add]; omega) (fun e => e)).trans hcl)).mono (by
          rintro e w' ⟨he, h1, h5⟩
          exact ⟨he, h1, h5⟩))).mono ?_
        rintro e w7 ⟨rfl, w6, hQ, m56, m67⟩
        obtain ⟨s', hs'⟩ : ∃ s', s' = s.kill := ⟨_, rfl⟩
        rw [← hs'] at hQ
        have hFu' : Hid (Fu s' K (j + 1)) := Lib.hid (by
          obtain ⟨f1, f2, f3⟩ := hFu.out
          subst hs'
          refine ⟨?_, fun e => by omega, fun e => rfl⟩
          · show s.steps = _
            rw [f1]; omega)
        have HA7 := Lib.hid (HA.out.back hQ m67)
        have HbI7 := Lib.hid ((HbI.out.mv m56 (fun e => by have := own2 _ e; have := hfI.out; omega)).mv m67 (by omega))
        have HbK7 := Lib.hid ((HbK.out.mv m56 (fun e => by have := own2 _ e; omega)).mv m67 (by omega))
        have HbD7 := Lib.hid ((HbD.out.mv m56 (fun e => by have := own2 _ e; omega)).mv m67 (by omega))
        have HM7 := Lib.hid (HM.out.trans ((m56.below hsz (fun b e => by have := own2 _ e; omega)).trans (m67.below (by have := m56.size; omega) (fun b e => by omega))))
        have hsz7 : wr.heap.size ≤ w7.heap.size := by have := m56.size; have := m67.size; omega
        obtain ⟨A7, hA7⟩ : ∃ A7 : Nat → Prop, A7 = fun b => A b ∨ b = wr.heap.size + 1 := ⟨_, rfl⟩
        rw [← hA7] at HA7
        have dI : w7.cell? ⟨fI, 0, none⟩ = some (.int .i64 (j : Int)) := (HbI7.out.cell 0).trans rfl
        have dD : w7.cell? ⟨fD, 0, none⟩ = some (.pointer (some ⟨G.d, 0, none⟩)) := (HbD7.out.cell 0).trans rfl
        clear hQ m56 m67 cI cK cD hA7
        have hw1 : IntKind.i64.wrap ((j : Int) + 1) = (j : Int) + 1 := IntWalk.i64_in _ (by omega)
        have hst : s'.steps = (K : Int) := by rw [hFu'.out.1]; omega
        have hdv : s'.dead = true := hFu'.out.2.2 (by omega)
        have Hdd : Hid (∀ m, Calls Try.prog 24 #[.pointer (some ⟨G.d, 0, none⟩)] (w7.drewN m) fun e w' => e = .returned (.bool true) ∧ ∃ m', w' = w7.drewN m') := Lib.hid (fun m => (dead_any (w7.drewN m) _ G 16 s' (HA7.out.drewN m).1).mono (by
          rintro e w8 ⟨rfl, rfl⟩
          rw [hdv]
          exact ⟨rfl, _, rfl⟩))
        have Hss : Hid (∀ m, Calls Try.prog 22 #[.pointer (some ⟨G.d, 0, none⟩)] (w7.drewN m) fun e w' => e = .returned (.int .i64 ((K : Int))) ∧ ∃ m', w' = w7.drewN m') := Lib.hid (fun m => (steps_any (w7.drewN m) _ G 16 s' (HA7.out.drewN m).1).mono (by
          rintro e w8 ⟨rfl, rfl⟩
          rw [hst]
          exact ⟨rfl, _, rfl⟩))
        have Hdv := Lib.hid hdv
        have jK1 : ¬ (j : Int) < (K : Int) := by omega
        clear hst hdv
        go_wp2_with fail
        go_quiet (first
          | (go_at_call 24; exact Hdd.out _)
          | (go_at_call 22; exact Hss.out _))
        have HA8 := Lib.hid (HA7.out.drewN nq)
        have HbI8 : Hid (Blk (w7.drewN nq) fI 3 #[.int .i64 (j : Int)]) := Lib.hid (HbI7.out.drewN nq)
        have HbK8 : Hid (Blk (w7.drewN nq) B 22 #[.slice (some ad) len1 cap1]) := Lib.hid (HbK7.out.drewN nq)
        have HbD8 : Hid (Blk (w7.drewN nq) fD 23 #[.pointer (some ⟨G.d, 0, none⟩)]) := Lib.hid (HbD7.out.drewN nq)
        have HM8 : Hid (Below B w (w7.drewN nq)) := Lib.hid (below_drewN HM7.out nq)
        have hsz8 : wr.heap.size ≤ (w7.drewN nq).heap.size := hsz7
        clear HA7 HbI7 HbK7 HbD7 HM7 Hdd Hss dI dD hsz7
        generalize w7.drewN nq = w8 at *
        have dI : w8.cell? ⟨fI, 0, none⟩ = some (.int .i64 (j : Int)) := (HbI8.out.cell 0).trans rfl
        have dD : w8.cell? ⟨fD, 0, none⟩ = some (.pointer (some ⟨G.d, 0, none⟩)) := (HbD8.out.cell 0).trans rfl
        have lI8 := HbI8.out.lt
        have lK8 := HbK8.out.lt
        have lD8 := HbD8.out.lt
        have own8 := Lib.hid HA8.out.own_lt
        have dr8 := Lib.hid (HA8.out.keep (Mv.refl (fun _ => False) w8).drew (fun _ e _ => e.elim) (fun _ _ e => e))
        have Hdd := Lib.hid (dead_any w8.drew _ G 16 s' dr8.out.1)
        rw [Hdv.out] at Hdd
        have Htl := Lib.hid (tellL 0 25 Try.f25 #[.pointer (some ⟨fD, 0, none⟩)] w8.drew (fun _ => False) (fun w' => DevA w' (fun b => A7 b ∨ b = w8.drew.heap.size + 1) G 16 s') Try.func25 (by kernel_rfl) (by kernel_rfl) (fun _ e => e.elim) (fun v hv hs => (fuses2_l v _ G s' fD (dr8.out.told hv hs) Hdv.out (HbD8.out.mv ((Mv.refl (fun _ => False) w8).drew.trans hv) (fun e => e))).mono (by
          rintro e w' ⟨he, rfl⟩
          exact ⟨he, dr8.out.told hv hs, Mv.refl _ _⟩)))
        go_wp2_with fail
        go_region_held3 (fun w' => w'.cell? ⟨fD, 0, none⟩ = some (.pointer (some ⟨G.d, 0, none⟩))) (first | assumption | (simp [*]; done)) (first
          | (go_simp; go_at_call 10; refine Htl.out.mono ?_; rintro e w9 ⟨rfl, wg, hQ9, m89, m99⟩; have hA9 := dr8.out.back hQ9 m99; have m9 : Mv (fun b => b = w8.heap.size + 1) w8 w9 := ((Mv.refl (fun b => b = w8.heap.size + 1) w8).drew.trans (m89.mono (fun _ _ e => e.elim))).trans m99; have dD9 : w9.cell? ⟨fD, 0, none⟩ = some (.pointer (some ⟨G.d, 0, none⟩)) := ((HbD8.out.mv m9 (by omega)).cell 0).trans rfl; have hd9 := dead_any w9 _ G 16 s' hA9.1; rw [Hdv.out] at hd9)
          | (go_simp; go_at_call 24; refine Hdd.out.mono ?_; rintro e w10 ⟨rfl, rfl⟩)
          | (go_simp; go_at_call 24; refine hd9.mono ?_; rintro e w10 ⟨rfl, rfl⟩))
        all_goals (
          have HA9 := Lib.hid hA9
          have HbI9 := Lib.hid (HbI8.out.mv m9 (by omega))
          have HbK9 := Lib.hid (HbK8.out.mv m9 (by omega))
          have HbD9 := Lib.hid (HbD8.out.mv m9 (by omega))
          have HM9 := Lib.hid (HM8.out.trans (m9.below (by omega) (fun b e => by omega)))
          have hsz9 : w8.heap.size ≤ w9.heap.size := m9.size
          have dI9 : w9.cell? ⟨fI, 0, none⟩ = some (.int .i64 (j : Int)) := (HbI9.out.cell 0).trans rfl
          clear hA9 hQ9 m89 m99 m9 Htl Hdd hd9 dD dI dr8 dD9
          have e1 : (j : Int) + 1 = ((j + 1 : Nat) : Int) := by omega
          have bI10 : Blk (w9.alloc (.cells #[.int .i64 ((j : Int) + 1)] 3)) w9.heap.size 3 #[.int .i64 ((j + 1 : Nat) : Int)] := by
            rw [e1]
            exact Blk.new w9 _ _
          have BI10 := Lib.hid bI10
          have Hme := Lib.hid (fuM_at (w := w9.alloc (.cells #[.int .i64 ((j : Int) + 1)] 3)) (x := ⟨w9.heap.size, 0, none⟩) (k := .i64) (n := j + 1) ((bI10.cell 0).trans rfl))
          have Hm0 := Lib.hid (fuM_at (w := wr) (x := ⟨fI, 0, none⟩) (k := .i64) (n := j) ((HbI.out.cell 0).trans rfl))
          clear bI10 e1
          go_wp2_with fail
          go_roundw
          case rel =>
            exact ⟨j + 1, w9.heap.size, _, s', rfl, by omega, Lib.hid (HA9.out.keep ((Mv.refl (fun _ => False) w9).alloc _) (fun _ e _ => e.elim) (fun _ _ e => e)), hFu', BI10, Lib.hid (HbK9.out.alloc _), Lib.hid (HbD9.out.alloc _), Lib.hid (HM9.out.alloc (by omega) _), Lib.hid (by omega)⟩
          case measure =>
            rw [Hme.out, Hm0.out]; omega)
    · go_wp2_with fail
      all_goals (
        have hsz : B ≤ wr.heap.size := by have := HM.out.size; omega
        refine (powerA wr A G 16 s true none 0 0 [] HA.out Reads.none_ (by simp) (by omega) (fun _ => true) (fun j => by simp)).mono ?_
        rintro e w2 ⟨rfl, hD2, hM2⟩
        have HA2 := Lib.hid hD2
        have HbD2 := Lib.hid (HbD.out.mv hM2 (fun e => by have := own2 _ e; omega))
        have HM2 := Lib.hid (HM.out.trans (hM2.below hsz (fun b e => by have := own2 _ e; omega)))
        have hF2 : Hid (∃ c, c ≤ 50 ∧ Free (s.power fun _ => true) c) := Lib.hid ⟨min j K, by omega, rfl, rfl, hFu.out.1⟩
        have hdd := dead_any w2 _ G 16 _ hD2.1
        rw [show (s.power fun _ => true).dead = false from rfl] at hdd
        have Hdd := Lib.hid hdd
        have cD2 : w2.cell? ⟨fD, 0, none⟩ = some (.pointer (some ⟨G.d, 0, none⟩)) := (HbD2.out.cell 0).trans rfl
        have hsz2 : B ≤ w2.heap.size := by have := HM2.out.size; omega
        generalize (s.power fun _ => true) = s2 at HA2 hF2
        clear hD2 hM2 hdd cI cK cD HbI HbK HM hFu HA
        go_wp2_with fail
        refine Hdd.out.mono ?_
        rintro e w4 ⟨rfl, rfl⟩
        go_wp2_with fail
        obtain ⟨c, hc, hfr⟩ := hF2.out
        refine (tellMR 0 14 Try.f14 _ w2 G.own (fun _ => True) Try.func14 (by kernel_rfl) (by kernel_rfl) HA2.out.own_lt (fun v hv hs => (fenceA v _ G 16 s2 c (HA2.out.told hv hs) hfr (by omega)).mono (by
          rintro e w' ⟨he, hd, hm⟩
          exact ⟨he, trivial, hm⟩))).mono ?_
        rintro e w5 ⟨rfl, wg, -, m25, m55⟩
        have HM5 := Lib.hid (HM2.out.trans ((m25.below hsz2 (fun b e => by have := own2 _ e; omega)).trans (m55.below (by have := m25.size; omega) (fun b e => by omega))))
        clear m25 m55 hfr
        go_wp2_with fail
        refine (awake_any w5).mono ?_
        rintro e w6 ⟨rfl, hb6⟩
        have Hb6 := Lib.hid (HM5.out.trans (hb6.mono (by have := HM5.out.size; omega)))
        clear hb6
        go_wp2_with fail
        go_ret
        exact ⟨by simp, by rw [hB]; exact Hb6.out⟩)
end Go.Proofs.Ytfiajonbekfcfaa
