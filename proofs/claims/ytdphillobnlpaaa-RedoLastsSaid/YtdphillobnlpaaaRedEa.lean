/- redo: RedoLasts' walk. -/
import Derived.Test.YtdphillobnlpaaaRedDk
import Derived.Deep.CutBlock
namespace Go.Proofs.Ytdphillobnlpaaa
open Go.RowKit
set_option linter.unusedVariables false
theorem Cu.weak {s : DS} {f f2 : Nat → Int} {b : Bool} {t t' : Nat} (h : Cu s f f2 b t) (ht : t ≤ t') : Cu s f f2 false t' :=
  ⟨fun p => by
    rcases h.cut p with h | ⟨_, h⟩
    · exact .inl h
    · exact .inr ⟨rfl, h⟩, by have := h.steps; omega⟩
theorem Wh.cu0 {s : DS} {f f2 : Nat → Int} {t : Nat} (h : Wh s f) (hs : s.steps ≤ 300000 * t) : Cu s f f2 false t := ⟨fun p => .inr ⟨rfl, (h.power p).rd⟩, hs⟩
/-- What RedoLasts holds between its loops. -/
structure La (w : World) (G : Dv) (lg bd bg b13 b14 t : Nat) (f f2 : Nat → Int) (A : Nat → Prop) (sd s : DS) (wx : World) : Prop where
  dev : DevA wx A G 256 sd
  cu : Cu s f f2 false t
  en : En w G lg bd bg wx
  w13 : Blk wx b13 40 (words .u64 256 f)
  w14 : Blk wx b14 40 (words .u64 256 f2)
theorem La.next {w : World} {G : Dv} {lg bd bg b13 b14 t t' : Nat} {f f2 : Nat → Int} {s s' sd sd' : DS} {wx w' : World} {A A' : Nat → Prop} (h : La w G lg bd bg b13 b14 t f f2 A sd s wx) (hx : bg < b13 ∧ b13 < b14) (hno : ∀ b, bg < b → ¬ G.own b)
    (hm : Mv G.own wx w') (hd : DevA w' A' G 256 sd') (hc : Cu s' f f2 false t') : La w G lg bd bg b13 b14 t' f f2 A' sd' s' w' :=
  ⟨hd, hc, h.en.to hm, h.w13.mv hm (hno _ hx.1), h.w14.mv hm (hno _ (by omega))⟩
set_option maxRecDepth 100000 in
set_option maxHeartbeats 16000000 in
theorem lasts_any (w : World) (n c0 m3 c3 m4 c4 : Nat) (W0 A3 A4 : Option Addr) (A : Nat → Option Addr) (L C : Nat → Nat) (zs : Nat → List Int) (a1 : Int) (a2 : Bool) (ks ys : List Int)
    (hn : n ≤ 9223372036854775807) (hweb : Web w w.heap.size W0 n A L C zs) (h1 : (Lit.int .i64 a1).wf = true)
    (hr3 : Reads w w.heap.size 1 A3 m3 (ks.map (Value.int .i64))) (hm3 : m3 ≤ 9223372036854775807) (hw3 : ∀ z ∈ ks, (Lit.int .i64 z).wf = true)
    (hr4 : Reads w w.heap.size 1 A4 m4 (ys.map (Value.int .i64))) (hy4 : ys.length = m4) (hm4 : m4 ≤ 9223372036854775807) (hw4 : ∀ z ∈ ys, (Lit.int .i64 z).wf = true) :
    Calls Try.prog 8 #[.slice W0 n c0, .int .i64 a1, .bool a2, .slice A3 m3 c3, .slice A4 m4 c4] w fun e w' => e = .returned (.bool true) ∧ Mv (fun _ => False) w w' := by
  have Hweb := Lib.hid hweb
  have Hn := Lib.hid hn
  have H1 := Lib.hid (i64_rng h1)
  have Hr3 := Lib.hid hr3
  have Hm3 := Lib.hid hm3
  have Hw3 := Lib.hid hw3
  have Hr4 := Lib.hid hr4
  have Hy4 := Lib.hid hy4
  have Hm4 := Lib.hid hm4
  have Hw4 := Lib.hid hw4
  have hmf : ∀ (fn : Fn) (first cap : Array Value) (w : World), (Instr.makeFunc fn first cap).run Try.prog w = .ok (.func fn first cap) w := fun _ _ _ _ => rfl
  clear hweb hn h1 hr3 hm3 hw3 hr4 hy4 hm4 hw4
  go_enter Try.func8, Try.ntmps8
  go_wp2_with fail
  refine (open6_any w).mono ?_
  rintro e w1 ⟨G, lg, rfl, hO⟩
  have HO := Lib.hid hO
  clear hO
  go_wp2_with fail
  obtain ⟨w2, hw2⟩ : ∃ w2, w2 = (w1.alloc (.cells #[.pointer (some ⟨G.d, 0, none⟩)] 23)).alloc (.cells #[.pointer (some ⟨lg, 0, none⟩)] 24) := ⟨_, rfl⟩
  obtain ⟨bd, hbd⟩ : ∃ bd, bd = w1.heap.size := ⟨_, rfl⟩
  obtain ⟨bg, hbg⟩ : ∃ bg, bg = w1.heap.size + 1 := ⟨_, rfl⟩
  rw [← hw2, ← hbg, ← hbd]
  obtain ⟨hE, hD, hs2⟩ := En.start HO.out hbd hbg hw2
  have HE := Lib.hid hE
  have Hs2 := Lib.hid hs2
  have Hf := Lib.hid (fuseC w2 G 256 noughts a1 hD H1.out)
  clear hw2 hbd hbg hE hD hs2 HO
  refine Hf.out.mono ?_
  rintro e w5 ⟨rfl, hD5, hm5⟩
  have HE5 := Lib.hid (HE.out.to hm5)
  have HD5 := Lib.hid hD5
  have Hs5 := Lib.hid (show bg < w5.heap.size by have := Hs2.out; have := hm5.size; omega)
  obtain ⟨s5, hs5⟩ : ∃ s5, s5 = ({ noughts with fuse := max a1 (-1) } : DS) := ⟨_, rfl⟩
  rw [← hs5] at HD5
  have hst5 : s5.steps = 0 := by rw [hs5]; rfl
  have Hwh5 := Lib.hid (show Wh s5 (fun _ => 0) ∧ s5.steps ≤ 300000 * 0 from ⟨by rw [hs5]; exact wh_noughts.fuse _, by omega⟩)
  clear hD5 hm5 Hf hs5 hst5 HE Hs2
  go_upto_block 0 with fail
  obtain ⟨w6, hw6⟩ : ∃ w6, w6 = (w5.alloc (.cells Try.zeroCells40 40)).alloc (.cells Try.zeroCells40 40) := ⟨_, rfl⟩
  obtain ⟨b13, hb13⟩ : ∃ b13, b13 = w5.heap.size := ⟨_, rfl⟩
  obtain ⟨b14, hb14⟩ : ∃ b14, b14 = w5.heap.size + 1 := ⟨_, rfl⟩
  rw [← hw6, ← hb14, ← hb13]
  have m6 : Mv (fun _ => False) w5 w6 := by rw [hw6]; exact ((Mv.refl _ w5).alloc _).alloc _
  have HE6 := Lib.hid (HE5.out.none m6)
  have HD6 := Lib.hid (dev_turn HD5.out Hwh5.out.1.calm m6 (fun _ _ e => e))
  have H13 := Lib.hid (show Blk w6 b13 40 (words .u64 256 fun _ => 0) by rw [hw6, ← zero256, hb13]; exact (Blk.new w5 _ _).alloc _)
  have H14 := Lib.hid (show Blk w6 b14 40 (words .u64 256 fun _ => 0) by rw [hw6, ← zero256]; exact blk_new _ _ _ (by rw [hb14]; simp))
  have Hbb := Lib.hid (show bg < b13 ∧ b13 < b14 by have := Hs5.out; omega)
  have Hnob := Lib.hid (show ∀ b, bg < b → ¬ G.own b from fun b h e => by have := (HE6.out.own _ e).2; have := HE6.out.new.2.1; omega)
  clear hw6 hb13 hb14 m6 HE5 HD5 Hs5
  go_cut [15, 16] from 32 to 57 (fun s15 s16 wx => ∃ (A : Nat → Prop) (s : DS) (f f2 : Nat → Int), Hid (La w G lg bd bg b13 b14 21 f f2 A s s wx))
  case first =>
    go_wp2_with fail
    go_loopw [15] (fun v15 wr => ∃ (i : Nat) (s : DS) (f fx : Nat → Int), v15 = .int .i64 (i : Int) ∧ i ≤ n ∧ i ≤ 20 ∧ Hid (Wh s f ∧ s.steps ≤ 300000 * i) ∧ Hid (DevA wr G.own G 256 s) ∧ Hid (En w G lg bd bg wr) ∧ Hid (Blk wr b13 40 (words .u64 256 f)) ∧ Hid (Blk wr b14 40 (words .u64 256 fx)))
      (fun v15 _ => 20 - (intOf v15).toNat)
    case atStart => exact ⟨0, s5, _, _, rfl, Nat.zero_le _, by omega, Hwh5, HD6, HE6, H13, H14⟩
    case round =>
      obtain ⟨i, s, f, fx, rfl, hin, hi20, hwh, hdv, hen, hb13, hb14⟩ := hrel
      clear Hwh5 HD6 HE6 H13 H14
      by_cases hgo : i < n ∧ i < 20
      · obtain ⟨hlt, hl20⟩ := hgo
        obtain ⟨ad, u, hA1, hadb, hu, hcl⟩ := Hweb.out.out.at_ hlt
        subst hA1
        simp [hlt] at hu
        subst hu
        have hcl2 := (mv_cell hen.out.mv (by rw [block_of_add]; exact hadb) (fun e => e)).trans hcl
        obtain ⟨hrow, hzl, hL⟩ := Hweb.out.row i hlt
        obtain ⟨m, hm⟩ : ∃ m, m = 100 * i + 1 := ⟨_, rfl⟩
        have Hw := Lib.hid (writes_any wr (A i) (L i) (C i) m (zs i) (hrow.mvx hen.out.mv) hzl hL (by omega))
        have hwi := wrap_small (z := (i : Int) + 1) (by omega) (by omega)
        have e1 := wrap_small (z := 100 * (i : Int)) (by omega) (by omega)
        have e2 : IntKind.i64.wrap (100 * (i : Int) + 1) = (m : Int) := by rw [wrap_small (by omega) (by omega)]; omega
        have e3 : IntKind.u64.wrap (m : Int) = (m : Int) := IntWalk.u64_in _ (by omega)
        have hm5 : m ≤ 100000 := by omega
        clear hm hcl hadb hrow hzl hL
        have hK : min (L i) 24 ≤ 24 := Nat.min_le_right _ _
        generalize min (L i) 24 = K at Hw hK
        go_wp2_with fail
        refine Hw.out.mono ?_
        rintro e wa ⟨A2, c2, rfl, hwo, hma⟩
        have Hwo := Lib.hid hwo
        have Hma := Lib.hid hma
        clear hwo hma Hw hcl2
        have hsz := Hma.out.size
        have mB : Mv (fun _ => False) wr (wa.alloc (.cells #[.slice A2 K c2] 30)) := Hma.out.alloc _
        have hB13 := hb13.out.mv mB (fun e => e)
        have hX := blk_new wa 30 #[.slice A2 K c2] rfl
        have cX : (wa.alloc (.cells #[.slice A2 K c2] 30)).cell? ⟨wa.heap.size, 0, none⟩ = some (.slice A2 K c2) := (hX.cell 0).trans rfl
        have Hdn := Lib.hid (done_any (wa.alloc (.cells #[.slice A2 K c2] 30)) A2 K c2 wr.heap.size (wrs (zs i) m K) f (Hwo.out.mv ((Mv.refl (fun _ => False) wa).alloc _) (fun _ _ e => e)) (wrs_len _ _ _) (by omega) (fun p hp => by have := wrs_mem hp; omega))
        have HX := Lib.hid hX
        have MB := Lib.hid mB
        have Hsz := Lib.hid hsz
        clear hX mB hsz
        go_wp2_with (first
          | (refine wpList_loadA rfl (.tmp 13) rfl b13 rfl f hB13 ?_)
          | fail)
        refine Hdn.out.mono ?_
        rintro e wb ⟨rfl, hmb⟩
        have hB14 := (hb14.out.mv MB.out (fun e => e)).mv hmb (fun e => e)
        obtain ⟨bx, hbx⟩ : ∃ bx, bx = wa.heap.size := ⟨_, rfl⟩
        rw [← hbx]
        have HBxb := Lib.hid (show Blk wb bx 30 #[.slice A2 K c2] by rw [hbx]; exact HX.out.mv hmb (fun e => e))
        have HBb := Lib.hid (hB13.mv hmb (fun e => e))
        have HEb := Lib.hid ((hen.out.none MB.out).none hmb)
        have HDb := Lib.hid (dev_turn (dev_turn hdv.out hwh.out.1.calm MB.out (fun _ _ e => e)) hwh.out.1.calm hmb (fun _ _ e => e))
        have HWb := Lib.hid ((Hwo.out.mv ((Mv.refl (fun _ => False) wa).alloc (.cells #[.slice A2 K c2] 30)) (fun _ _ e => e)).mv hmb (fun _ _ e => e))
        have Hbx := Lib.hid (show b14 < bx by have := hb14.out.lt; have := Hsz.out; omega)
        have Hwx := Lib.hid (show ∀ b, (Value.slice A2 K c2).ownBlock = some b → b14 < b from fun b e => by have := (Hwo.out.lt e).1; have := hb14.out.lt; omega)
        clear hbx HX hB13 cX hmb Hdn Hwo Hma MB hb13 hb14 hen hdv Hsz
        go_wp2_with (first
          | (refine wpList_storeA rfl (.tmp 14) (.tmp 53) rfl b14 rfl fx (puts f (nat2 (wrs (zs i) m K))) rfl hB14 ?_; intro wd hBd hMd hsd; have HBd := Lib.hid hBd; have HMd := Lib.hid hMd; clear hBd hMd hsd hB14)
          | fail)
        have nb : ∀ b, b14 < b → ¬ b = b14 := fun b h e => by omega
        have no14 : ∀ b, G.own b → ¬ b = b14 := fun b e h => Hnob.out b (by rw [h]; exact Nat.lt_trans Hbb.out.1 Hbb.out.2) e
        have HBxd := Lib.hid (HBxb.out.mv HMd.out (nb _ Hbx.out))
        have HB13d := Lib.hid (HBb.out.mv HMd.out (fun e => by have := Hbb.out; omega))
        have HEd := Lib.hid (HEb.out.go HMd.out (fun b e => .inr (by have := Hbb.out; omega)))
        have HDd := Lib.hid (dev_turn HDb.out hwh.out.1.calm HMd.out no14)
        have HWd := Lib.hid (HWb.out.mv HMd.out (fun x hx => nb x (Hwx.out x hx)))
        have hA2 : ∀ ad, A2 = some ad → ¬ G.own ad.block := fun ad e => by subst e; exact Hnob.out _ (Nat.lt_trans (Nat.lt_trans Hbb.out.1 Hbb.out.2) (Hwx.out _ rfl))
        have hwv := wrs_val (zs := zs i) (mark := m) (k := K) hm5 hK
        have Ht := Lib.hid (told_b (told_r 29 Try.f29 #[.pointer (some ⟨bg, 0, none⟩), .pointer (some ⟨bx, 0, none⟩)] wd G 256 (commitD 256 0 64 (wrs (zs i) m K) s) Try.func29 (by kernel_rfl) (by kernel_rfl) HEd.out.lt (fun v hv hs =>
          lasts1 v _ G s lg bg bx A2 c2 (wrs (zs i) m K) K (HEd.out.L.mv hv (fun e => e)) (HBxd.out.mv hv (fun e => e)) (wrs_len _ _ _) (by omega) (dev_told HDd.out hv hs) hwh.out.1.calm.2.2 (Blk.mv HEd.out.log hv (fun e => e)) HEd.out.lo hwh.out.1.u (by have := hwh.out.2; omega) ((HWd.out.mv hv (fun _ _ e => e)).wr) hA2 hwv)))
        have Hcu := Lib.hid (hwh.out.1.cu (wrs_v (zs := zs i) (mark := m) hK) hwv hwh.out.2)
        have hst := commit_steps 256 0 64 (wrs (zs i) m K) s (by decide)
        have Hcm := Lib.hid (fun hr : (commitD 256 0 64 (wrs (zs i) m K) s).2 = true => (⟨hwh.out.1.commit (wrs_v (zs := zs i) (mark := m) hK) hwv hr, by have := hwh.out.2; omega⟩ : Wh (commitD 256 0 64 (wrs (zs i) m K) s).1 (puts f (nat2 (wrs (zs i) m K))) ∧ (commitD 256 0 64 (wrs (zs i) m K) s).1.steps ≤ 300000 * (i + 1)))
        clear hst hwv hA2 nb HBxb HBb HEb HDb HWb HMd HWd
        generalize commitD 256 0 64 (wrs (zs i) m K) s = r5 at Ht Hcu Hcm
        generalize puts f (nat2 (wrs (zs i) m K)) = f2 at Hcu Hcm HBd ⊢
        refine Ht.out.mono ?_
        rintro e we ⟨q, rfl, hq, hDe, hme⟩
        have nown : ∀ b, b14 ≤ b → ¬ G.own b := fun b h => Hnob.out b (by have := Hbb.out; omega)
        have HEe := Lib.hid (HEd.out.to hme)
        have HB13e := Lib.hid (HB13d.out.mv hme (Hnob.out _ Hbb.out.1))
        have hB14e := HBd.out.mv hme (nown _ (Nat.le_refl _))
        have HB14e := Lib.hid hB14e
        have HDe := Lib.hid hDe
        have hq2 : (q != 0) = !r5.2 := by rw [← hq]; rfl
        clear hDe hme Ht HEd HB13d HBd HDd HBxd
        cases hb : r5.2
        · rw [hb] at hq hq2
          have Hlt := Lib.hid hlt
          have Hcu2 := Lib.hid (Hcu.out.weak (t' := 21) (by omega))
          clear Hcm Hcu hb
          go_wp2_with fail
          go_meet
          case rel => exact ⟨_, r5.1, f, f2, Lib.hid ⟨HDe.out, Hcu2.out, HEe.out, HB13e.out, HB14e.out⟩⟩
        · rw [hb] at hq hq2
          have Hcm2 := Lib.hid (Hcm.out hb)
          clear Hcm Hcu hb
          have hB13e := HB13e.out
          go_wp2_with (first
            | (refine wpList_loadA rfl (.tmp 14) rfl b14 rfl f2 hB14e ?_)
            | (refine wpList_storeA rfl (.tmp 13) (.tmp 57) rfl b13 rfl f f2 rfl hB13e ?_; intro wf hBf hMf hsf; have HBf := Lib.hid hBf; have HMf := Lib.hid hMf; clear hBf hMf hsf hB13e hB14e)
            | fail)
          have HDf := Lib.hid (dev_turn (dev_calm HDe.out Hcm2.out.1.calm) Hcm2.out.1.calm HMf.out (fun b e h => Hnob.out b (by rw [h]; exact Hbb.out.1) e))
          have HEf := Lib.hid (HEe.out.go HMf.out (fun b e => .inr (by have := Hbb.out; omega)))
          have HB14f := Lib.hid (HB14e.out.mv HMf.out (fun e => by have := Hbb.out; omega))
          refine ⟨⟨i + 1, r5.1, f2, f2, by go_num, by omega, by omega, Hcm2, HDf, HEf, HBf, HB14f⟩, ?_⟩
          show 20 - ((i : Int) + 1).toNat < 20 - ((i : Int)).toNat
          omega
      · have Hcu := Lib.hid (hwh.out.1.cu0 (f2 := fx) (t := 21) (by have := hwh.out.2; omega))
        rcases Nat.lt_or_ge i n with hlt | hge
        · have h20 : ¬ (i : Int) < 20 := by omega
          go_wp2_with fail
          go_meet
          case rel => exact ⟨_, s, f, fx, Lib.hid ⟨hdv.out, Hcu.out, hen.out, hb13.out, hb14.out⟩⟩
        · have hnl : ¬ (i : Int) < (n : Int) := by omega
          go_wp2_with fail
          go_meet
          case rel => exact ⟨_, s, f, fx, Lib.hid ⟨hdv.out, Hcu.out, hen.out, hb13.out, hb14.out⟩⟩
  case rest =>
    obtain ⟨A', s, f, f2, hla⟩ := hcut
    clear Hwh5 HE6 HD6 H13 H14
    have hdv := hla.out.dev
    have Hpw := Lib.hid (powerC wc A' G 256 s a2 A3 m3 c3 ks hdv (Hr3.out.mvx hla.out.en.mv) Hw3.out Hm3.out)
    have cD := hla.out.en.cD
    clear hdv
    go_wp2_with fail
    refine Hpw.out.mono ?_
    rintro e w7 ⟨rfl, hD7, hm7⟩
    generalize pw ks a2 = p at hD7
    have Hla7 := Lib.hid (hla.out.next Hbb.out Hnob.out hm7 hD7 hla.out.cu)
    clear hD7 hm7 Hpw hla cD
    go_upto_block 2 with fail
    go_cut [17] from 62 to 83 (fun s17 wx => ∃ (s : DS) (p : Nat → Bool), Hid (La w G lg bd bg b13 b14 26 f f2 G.own (s.power p) s wx))
    case first =>
      go_wp2_with fail
      go_loopw [17] (fun v17 wr => ∃ (i : Nat) (s : DS) (p : Nat → Bool), v17 = .int .i64 (i : Int) ∧ i ≤ m4 ∧ i ≤ 4 ∧ Hid (La w G lg bd bg b13 b14 (21 + i) f f2 G.own (s.power p) s wr))
        (fun v17 _ => 4 - (intOf v17).toNat)
      case atStart => exact ⟨0, s, p, rfl, Nat.zero_le _, by omega, Hla7⟩
      case round =>
        obtain ⟨i, s, p, rfl, him, hi4, hla⟩ := hrel
        clear Hla7
        by_cases hgo : i < m4 ∧ i < 4
        · obtain ⟨hlt, hl4⟩ := hgo
          obtain ⟨ad, u, hA2, hadb, hu, hcl⟩ := Hr4.out.at_ hlt
          subst hA2
          have hu' := ints_get hu
          subst hu'
          have hzwf := Lib.hid (Hw4.out (ys.getD i 0) (by rw [List.getD_eq_getElem?_getD, List.getElem?_eq_getElem (by rw [Hy4.out]; exact hlt)]; exact List.getElem_mem _))
          generalize ys.getD i 0 = z at hcl hzwf hu
          clear hu
          have hwi := wrap_small (z := (i : Int) + 1) (by omega) (by omega)
          have cD := hla.out.en.cD
          have hcl7 := (mv_cell hla.out.en.mv (by rw [block_of_add]; exact hadb) (fun e => e)).trans hcl
          clear hcl hadb
          go_wp2_with fail
          go_still_tail 5, (by kernel_rfl)
          change wpList _ _ _ _ _ wr.drew
          have Hf := Lib.hid (fuseC wr.drew G 256 _ z (hla.out.dev.drewN 1) (i64_rng hzwf.out))
          go_wp2_with fail
          refine Hf.out.mono ?_
          rintro e w8 ⟨rfl, hD8, hm8⟩
          have hm8 : Mv G.own wr w8 := ⟨hm8.os, hm8.tape, hm8.output, hm8.size, hm8.block⟩
          have hcu8 := hla.out.cu.open p (max z (-1))
          obtain ⟨hc8, hu8⟩ := hla.out.cu.fused p (max z (-1))
          have hst8 : ({ s.power p with fuse := max z (-1) } : DS).steps < 600000000 := by have := hla.out.cu.steps; show s.steps < _; omega
          have Hla8 := Lib.hid (hla.out.next Hbb.out Hnob.out hm8 hD8 hla.out.cu)
          clear cD hcl7 hD8 hm8 Hf hla
          have cD := Hla8.out.en.cD
          generalize ({ s.power p with fuse := max z (-1) } : DS) = s8 at Hla8 hcu8 hc8 hu8 hst8
          have Hcu8 := Lib.hid hcu8
          have Hc8 := Lib.hid hc8
          have Hu8 := Lib.hid hu8
          have Ht := Lib.hid (told_b (told_r 30 Try.f30 #[.pointer (some ⟨bd, 0, none⟩)] w8 G 256 (runS (homeL s8.now 256 0 64) s8) Try.func30 (by kernel_rfl) (by kernel_rfl) Hla8.out.en.lt (fun v hv hs =>
            lasts2 v _ G s8 bd (Hla8.out.en.D.mv hv (fun e => e)) (dev_told Hla8.out.dev hv hs) Hc8.out.2.2 Hu8.out hst8)))
          clear hcu8 hc8 hu8 hst8
          generalize runS (homeL s8.now 256 0 64) s8 = r8 at Hcu8 Ht
          go_wp2_with fail
          refine Ht.out.mono ?_
          rintro e w9 ⟨q9, rfl, hq9, hD9, hm9⟩
          have Hla9 := Lib.hid (Hla8.out.next Hbb.out Hnob.out hm9 hD9 Hcu8.out)
          have Hpw := Lib.hid (powerC w9 _ G 256 r8.1 a2 A3 m3 c3 ks hD9 (Hr3.out.mvx Hla9.out.en.mv) Hw3.out Hm3.out)
          clear cD hD9 hm9 hq9 Ht Hla8 Hc8 Hu8 Hcu8
          have cD := Hla9.out.en.cD
          go_wp2_with fail
          refine Hpw.out.mono ?_
          rintro e wx ⟨rfl, hDx, hmx⟩
          generalize pw ks a2 = px at hDx
          have Hlax := Lib.hid (Hla9.out.next Hbb.out Hnob.out hmx hDx Hla9.out.cu)
          clear cD hDx hmx Hpw Hla9
          go_wp2_with fail
          refine ⟨⟨i + 1, r8.1, px, by go_num, by omega, by omega, Hlax⟩, ?_⟩
          show 4 - ((i : Int) + 1).toNat < 4 - ((i : Int)).toNat
          omega
        · rcases Nat.lt_or_ge i m4 with hlt | hge
          · have h4 : ¬ (i : Int) < 4 := by omega
            go_wp2_with fail
            go_meet
            case rel => exact ⟨s, p, Lib.hid ⟨hla.out.dev, hla.out.cu.le (by omega), hla.out.en, hla.out.w13, hla.out.w14⟩⟩
          · have hnl : ¬ (i : Int) < (m4 : Int) := by omega
            go_wp2_with fail
            go_meet
            case rel => exact ⟨s, p, Lib.hid ⟨hla.out.dev, hla.out.cu.le (by omega), hla.out.en, hla.out.w13, hla.out.w14⟩⟩
    case rest =>
      clear Hla7
      obtain ⟨s, p, hla⟩ := hcut
      have hrdy : U64 (s.power p).now := (hla.out.cu.fused p (-1)).2
      have Ho := Lib.hid (open_whole wc G.own G 256 (s.power p) 0 64 hla.out.dev rfl (by decide) hrdy (by have := hla.out.cu.steps; show s.steps < _; omega) rfl)
      have Hwhole := Lib.hid (hla.out.cu.whole p)
      generalize (runS (homeL (s.power p).now 256 0 64) (s.power p)).1 = s8 at Ho Hwhole
      have HE := Lib.hid hla.out.en
      have H13 := Lib.hid hla.out.w13
      have H14 := Lib.hid hla.out.w14
      have cD := hla.out.en.cD
      clear hrdy hla
      go_wp2_with fail
      refine Ho.out.mono ?_
      rintro e w8 ⟨lg2, hlg2, rfl, hL8, hD8, hm8⟩
      have hc8 : Calm s8 := by rcases Hwhole.out.1 with h | ⟨_, h⟩; exact h.calm; exact h.calm
      have Hc8 := Lib.hid hc8
      have hE8 := HE.out.to hm8
      have HE8 := Lib.hid hE8
      have hB13 := H13.out.mv hm8 (Hnob.out _ Hbb.out.1)
      have hB14 := H14.out.mv hm8 (Hnob.out _ (Nat.lt_trans Hbb.out.1 Hbb.out.2))
      have H138 := Lib.hid hB13
      have H148 := Lib.hid hB14
      have HD8 := Lib.hid hD8
      have Hst8 := Lib.hid (show s8.steps < 100000000 by have := Hwhole.out.2.2; omega)
      have Ht := Lib.hid (tells_any w8 G.own G s8 f hD8 Hc8.out.2.2 Hc8.out.2.1)
      clear hlg2 hL8 hD8 hm8 Ho HE H13 H14 cD hB14 hc8
      have cD := hE8.cD
      clear hE8
      cases hT : tB s8.now f 256
      · rw [hT] at Ht
        have Hg0 : Hid (Wh s8 f2) := Lib.hid (by rcases Hwhole.out.1 with h | ⟨_, h⟩; exact h; have := h.tells; rw [hT] at this; cases this)
        have Hg : Hid (∃ g, Wh s8 g) := Lib.hid ⟨_, Hg0.out⟩
        have HT := Lib.hid hT
        clear hT Hwhole
        go_wp2_with fail
        refine wp_loadA (.tmp 13) rfl b13 rfl f hB13 ?_
        go_wp2_with fail
        clear cD hB13
        refine Ht.out.mono ?_
        rintro e w9 ⟨rfl, hm9⟩
        have hE9 := HE8.out.none hm9
        have HE9 := Lib.hid hE9
        have hB13 := H138.out.mv hm9 (fun e => e)
        have H139 := Lib.hid hB13
        have hB14 := H148.out.mv hm9 (fun e => e)
        have H149 := Lib.hid hB14
        have HD9 := Lib.hid (dev_turn HD8.out Hc8.out hm9 (fun _ _ e => e))
        have cD := hE9.cD
        clear hE9 hm9 Ht HE8 H138 H148 HD8
        have Ht := Lib.hid (tells_any w9 G.own G s8 f2 HD9.out Hc8.out.2.2 Hc8.out.2.1)
        rw [Hg0.out.tells] at Ht
        clear hB13
        go_wp2_with fail
        refine wp_loadA (.tmp 14) rfl b14 rfl f2 hB14 ?_
        go_wp2_with fail
        clear cD hB14
        refine Ht.out.mono ?_
        rintro e w10 ⟨rfl, hm10⟩
        have hE10 := HE9.out.none hm10
        have HE10 := Lib.hid hE10
        have hB13 := H139.out.mv hm10 (fun e => e)
        have H1310 := Lib.hid hB13
        have hB14 := H149.out.mv hm10 (fun e => e)
        have H1410 := Lib.hid hB14
        have HD10 := Lib.hid (dev_turn HD9.out Hc8.out hm10 (fun _ _ e => e))
        have cD := hE10.cD
        clear hE10 hm10 Ht HE9 H139 H149 HD9
        have Ht := Lib.hid (tells_any w10 G.own G s8 f HD10.out Hc8.out.2.2 Hc8.out.2.1)
        rw [HT.out] at Ht
        clear hB14
        go_wp2_with (first
          | (refine wpList_loadA rfl (.tmp 13) rfl b13 rfl f hB13 ?_)
          | fail)
        clear cD hB13
        refine Ht.out.mono ?_
        rintro e w11 ⟨rfl, hm11⟩
        have hE11 := HE10.out.none hm11
        have HE11 := Lib.hid hE11
        have hB13 := H1310.out.mv hm11 (fun e => e)
        have H1311 := Lib.hid hB13
        have hB14 := H1410.out.mv hm11 (fun e => e)
        have H1411 := Lib.hid hB14
        have HD11 := Lib.hid (dev_turn HD10.out Hc8.out hm11 (fun _ _ e => e))
        have cD := hE11.cD
        clear hE11 hm11 Ht HE10 H1310 H1410 HD10 hB13 hB14
        have Hp := Lib.hid (powerC w11 G.own G 256 s8 (!a2) A3 m3 c3 ks HD11.out (Hr3.out.mvx HE11.out.mv) Hw3.out Hm3.out)
        go_wp2_with fail
        refine Hp.out.mono ?_
        rintro e w12 ⟨rfl, hD12, hm12⟩
        generalize pw ks (!a2) = p2 at hD12
        have hE12 := HE11.out.to hm12
        have HE12 := Lib.hid hE12
        have H1312 := Lib.hid (H1311.out.mv hm12 (Hnob.out _ Hbb.out.1))
        have H1412 := Lib.hid (H1411.out.mv hm12 (Hnob.out _ (Nat.lt_trans Hbb.out.1 Hbb.out.2)))
        have hW : ∃ g, Wh s8 g ∧ Wh (s8.power p2) g := by obtain ⟨g, hg⟩ := Hg.out; exact ⟨g, hg, hg.power p2⟩
        have hS : ∀ g, Wh s8 g → Wh (runS (homeL (s8.power p2).now 256 0 64) (s8.power p2)).1 g := fun g hg => ((hg.power p2).rd.open rfl).1
        have Ho := Lib.hid (open_whole w12 G.own G 256 (s8.power p2) 0 64 hD12 rfl (by decide) (by obtain ⟨g, _, hg⟩ := hW; exact hg.u) (by have := Hst8.out; show s8.steps < _; omega) rfl)
        generalize (runS (homeL (s8.power p2).now 256 0 64) (s8.power p2)).1 = sE at Ho hS
        have HS := Lib.hid hS
        have HcE : Hid (Calm sE) := Lib.hid (by obtain ⟨g, hg, _⟩ := hW; exact (hS g hg).calm)
        clear cD hS hW hD12 hm12 Hp HE11 H1311 H1411 HD11
        have cD := hE12.cD
        clear hE12
        go_wp2_with fail
        refine Ho.out.mono ?_
        rintro e w13 ⟨lg3, hlg3, rfl, hL13, hD13, hm13⟩
        have hE13 := HE12.out.to hm13
        have HE13 := Lib.hid hE13
        have hB13 := H1312.out.mv hm13 (Hnob.out _ Hbb.out.1)
        have hB14 := H1412.out.mv hm13 (Hnob.out _ (Nat.lt_trans Hbb.out.1 Hbb.out.2))
        have Ht := Lib.hid (tells_any w13 G.own G sE f2 hD13 HcE.out.2.2 HcE.out.2.1)
        rw [(HS.out _ Hg0.out).tells] at Ht
        clear cD hlg3 hL13 hD13 hm13 Ho HE12 H1312 H1412
        have cD := hE13.cD
        clear hE13
        go_wp2_with fail
        refine wp_loadA (.tmp 14) rfl b14 rfl f2 hB14 ?_
        go_wp2_with fail
        refine Ht.out.mono ?_
        rintro e wy ⟨rfl, hmy⟩
        have HEy := Lib.hid (HE13.out.none hmy)
        clear hmy hB13 hB14 Ht cD
        go_wp2_with fail
        refine (awake6_any _).mono ?_
        rintro e wz ⟨rfl, hmz⟩
        have HEz := Lib.hid (HEy.out.none hmz)
        clear hmz
        go_wp2_with fail
        go_ret
        exact ⟨by simp, HEz.out.mv⟩
      · rw [hT] at Ht
        have Hg : Hid (∃ g, Wh s8 g) := Lib.hid (by rcases Hwhole.out.1 with h | ⟨_, h⟩; exact ⟨_, h⟩; exact ⟨_, h⟩)
        have HT := Lib.hid hT
        clear hT Hwhole
        go_wp2_with fail
        refine wp_loadA (.tmp 13) rfl b13 rfl f hB13 ?_
        go_wp2_with fail
        clear cD hB13
        refine Ht.out.mono ?_
        rintro e w9 ⟨rfl, hm9⟩
        have hE9 := HE8.out.none hm9
        have HE9 := Lib.hid hE9
        have hB13 := H138.out.mv hm9 (fun e => e)
        have H139 := Lib.hid hB13
        have hB14 := H148.out.mv hm9 (fun e => e)
        have H149 := Lib.hid hB14
        have HD9 := Lib.hid (dev_turn HD8.out Hc8.out hm9 (fun _ _ e => e))
        have cD := hE9.cD
        clear hE9 hm9 Ht HE8 H138 H148 HD8
        have Ht := Lib.hid (tells_any w9 G.own G s8 f HD9.out Hc8.out.2.2 Hc8.out.2.1)
        rw [HT.out] at Ht
        clear hB14
        go_wp2_with (first
          | (refine wpList_loadA rfl (.tmp 13) rfl b13 rfl f hB13 ?_)
          | fail)
        clear cD hB13
        refine Ht.out.mono ?_
        rintro e w10 ⟨rfl, hm10⟩
        have hE10 := HE9.out.none hm10
        have HE10 := Lib.hid hE10
        have hB13 := H139.out.mv hm10 (fun e => e)
        have H1310 := Lib.hid hB13
        have hB14 := H149.out.mv hm10 (fun e => e)
        have H1410 := Lib.hid hB14
        have HD10 := Lib.hid (dev_turn HD9.out Hc8.out hm10 (fun _ _ e => e))
        have cD := hE10.cD
        clear hE10 hm10 Ht HE9 H139 H149 HD9 hB13 hB14
        have Hp := Lib.hid (powerC w10 G.own G 256 s8 (!a2) A3 m3 c3 ks HD10.out (Hr3.out.mvx HE10.out.mv) Hw3.out Hm3.out)
        go_wp2_with fail
        refine Hp.out.mono ?_
        rintro e w11 ⟨rfl, hD11, hm11⟩
        generalize pw ks (!a2) = p2 at hD11
        have hE11 := HE10.out.to hm11
        have HE11 := Lib.hid hE11
        have H1311 := Lib.hid (H1310.out.mv hm11 (Hnob.out _ Hbb.out.1))
        have H1411 := Lib.hid (H1410.out.mv hm11 (Hnob.out _ (Nat.lt_trans Hbb.out.1 Hbb.out.2)))
        have hW : ∃ g, Wh s8 g ∧ Wh (s8.power p2) g := by obtain ⟨g, hg⟩ := Hg.out; exact ⟨g, hg, hg.power p2⟩
        have hS : ∀ g, Wh s8 g → Wh (runS (homeL (s8.power p2).now 256 0 64) (s8.power p2)).1 g := fun g hg => ((hg.power p2).rd.open rfl).1
        have Ho := Lib.hid (open_whole w11 G.own G 256 (s8.power p2) 0 64 hD11 rfl (by decide) (by obtain ⟨g, _, hg⟩ := hW; exact hg.u) (by have := Hst8.out; show s8.steps < _; omega) rfl)
        generalize (runS (homeL (s8.power p2).now 256 0 64) (s8.power p2)).1 = sE at Ho hS
        have HS := Lib.hid hS
        have HcE : Hid (Calm sE) := Lib.hid (by obtain ⟨g, hg, _⟩ := hW; exact (hS g hg).calm)
        clear cD hS hW hD11 hm11 Hp HE10 H1310 H1410 HD10
        have cD := hE11.cD
        clear hE11
        go_wp2_with fail
        refine Ho.out.mono ?_
        rintro e w12 ⟨lg3, hlg3, rfl, hL12, hD12, hm12⟩
        have hE12 := HE11.out.to hm12
        have HE12 := Lib.hid hE12
        have hB13 := H1311.out.mv hm12 (Hnob.out _ Hbb.out.1)
        have hB14 := H1411.out.mv hm12 (Hnob.out _ (Nat.lt_trans Hbb.out.1 Hbb.out.2))
        have Ht := Lib.hid (tells_any w12 G.own G sE f hD12 HcE.out.2.2 HcE.out.2.1)
        have hTE : tB sE.now f 256 = true := by obtain ⟨g, hg⟩ := Hg.out; rw [← hg.tells2 (HS.out g hg) f]; exact HT.out
        rw [hTE] at Ht
        clear cD hlg3 hL12 hD12 hm12 Ho HE11 H1311 H1411 hTE
        have cD := hE12.cD
        clear hE12
        go_wp2_with fail
        refine wp_loadA (.tmp 13) rfl b13 rfl f hB13 ?_
        go_wp2_with fail
        refine Ht.out.mono ?_
        rintro e wy ⟨rfl, hmy⟩
        have HEy := Lib.hid (HE12.out.none hmy)
        clear hmy hB13 hB14 Ht cD
        go_wp2_with fail
        refine (awake6_any _).mono ?_
        rintro e wz ⟨rfl, hmz⟩
        have HEz := Lib.hid (HEy.out.none hmz)
        clear hmz
        go_wp2_with fail
        go_ret
        exact ⟨by simp, HEz.out.mv⟩
end Go.Proofs.Ytdphillobnlpaaa
