/- redo: RedoAgain's walk. Printed by db.py. -/
import Derived.Test.YtdphillobnlpaaaRedDk
namespace Go.Proofs.Ytdphillobnlpaaa
open Go.RowKit
set_option linter.unusedVariables false
set_option maxRecDepth 100000 in
set_option maxHeartbeats 16000000 in
theorem again_any (w : World) (n c m c2 : Nat) (A0 A2 : Option Addr) (a1 : Int) (a3 : Bool) (zs ys : List Int) (hr : Reads w w.heap.size 1 A0 n (zs.map (Value.int .i64))) (hz : zs.length = n) (hn : n ≤ 9223372036854775807)
    (hr2 : Reads w w.heap.size 1 A2 m (ys.map (Value.int .i64))) (hy : ys.length = m) (hm : m ≤ 9223372036854775807) (hw2 : ∀ z ∈ ys, (Lit.int .i64 z).wf = true) :
    Calls Try.prog 6 #[.slice A0 n c, .int .i64 a1, .slice A2 m c2, .bool a3] w fun e w' => e = .returned (.bool true) ∧ Mv (fun _ => False) w w' := by
  have Hr2 := Lib.hid hr2
  have Hr := Lib.hid hr
  have Hz := Lib.hid hz
  have Hn := Lib.hid hn
  have Hy := Lib.hid hy
  have Hm := Lib.hid hm
  have Hw2 := Lib.hid hw2
  have hmf : ∀ (fn : Fn) (first cap : Array Value) (w : World), (Instr.makeFunc fn first cap).run Try.prog w = .ok (.func fn first cap) w := fun _ _ _ _ => rfl
  obtain ⟨N, hN, hmask⟩ := mask a1 255 (by decide)
  have hmk : bits .and .i64 a1 255 = (N : Int) := hmask
  clear hmask hr2 hn hy hm hw2 hr hz
  go_enter Try.func6, Try.ntmps6
  go_wp2_with fail
  refine (open6_any w).mono ?_
  rintro e w1 ⟨G, lg, rfl, hO⟩
  have HO := Lib.hid hO
  clear hO
  go_wp2_with fail
  obtain ⟨w2, hw2⟩ : ∃ w2, w2 = (w1.alloc (.cells #[.pointer (some ⟨G.d, 0, none⟩)] 23)).alloc (.cells #[.pointer (some ⟨lg, 0, none⟩)] 24) := ⟨_, rfl⟩
  obtain ⟨bd, hbd⟩ : ∃ bd, bd = w1.heap.size := ⟨_, rfl⟩
  obtain ⟨bg, hbg⟩ : ∃ bg, bg = w1.heap.size + 1 := ⟨_, rfl⟩
  rw [← hw2, ← hbg, ← hbd]
  obtain ⟨hE, hD, hs2⟩ := En.start HO.out hbd hbg hw2
  have HE := Lib.hid hE
  have HD := Lib.hid hD
  have Hs2 := Lib.hid hs2
  have Hwr := Lib.hid (writes_any w2 A0 n c 7 zs (Hr.out.mvx hE.mv) Hz.out Hn.out (by decide))
  clear hw2 hbd hbg hE hD hs2 HO
  refine Hwr.out.mono ?_
  rintro e w3 ⟨A3, c3, rfl, hwo, hm3⟩
  have hK : min n 24 ≤ 24 := Nat.min_le_right _ _
  generalize min n 24 = K at hwo hK
  have Hwo := Lib.hid hwo
  have Hm3 := Lib.hid hm3
  clear hwo hm3 Hwr
  obtain ⟨w4, hw4⟩ : ∃ w4, w4 = w3.alloc (.cells #[.slice A3 K c3] 30) := ⟨_, rfl⟩
  obtain ⟨bx, hbx⟩ : ∃ bx, bx = w3.heap.size := ⟨_, rfl⟩
  have m4 : Mv (fun _ => False) w2 w4 := by rw [hw4]; exact Hm3.out.alloc _
  have hE4 := HE.out.none m4
  have HE4 := Lib.hid hE4
  have HD4 := Lib.hid (dev_turn HD.out calm_noughts m4 (fun _ _ e => e))
  have HB4 := Lib.hid (show Blk w4 bx 30 #[.slice A3 K c3] by rw [hw4]; exact blk_new _ _ _ hbx)
  have Hwo4 := Lib.hid (show WO w4 w2.heap.size (.slice A3 K c3) (wrs zs 7 K) by rw [hw4]; exact Hwo.out.mv ((Mv.refl (fun _ => False) w3).alloc _) (fun _ _ e => e))
  have Hbx := Lib.hid (show bg < bx ∧ bx < w4.heap.size by have := Hs2.out; have := Hm3.out.size; have := HB4.out.lt; omega)
  have Hbx3 := Lib.hid Hbx.out.1
  have cD := hE4.cD
  rw [hw4] at cD
  have Hw4 := Lib.hid hw4
  have Hbx2 := Lib.hid hbx
  clear hw4 hbx m4 hE4 HE HD
  go_wp2_with fail
  rw [← Hw4.out, ← Hbx2.out]
  clear cD Hw4 Hbx2
  have Hf := Lib.hid (fuseC w4 G 256 noughts (N : Int) HD4.out (by omega))
  refine Hf.out.mono ?_
  rintro e w5 ⟨rfl, hD5, hm5⟩
  have hE5 := HE4.out.to hm5
  have nob : ∀ {b}, bg < b → ¬ G.own b := fun h e => by have := (HE4.out.own _ e).2; have := HE4.out.new.2.1; omega
  have Hnob := Lib.hid (show ∀ b, bg < b → ¬ G.own b from fun b h => nob h)
  have Hwx := Lib.hid (show ∀ b, (Value.slice A3 K c3).ownBlock = some b → bg < b from fun b e => by have := (Hwo4.out.lt e).1; have := Hs2.out; omega)
  have HB5 := Lib.hid (HB4.out.mv hm5 (nob Hbx.out.1))
  have Hwo5 := Lib.hid (Hwo4.out.mv hm5 (fun x hx => nob (Hwx.out x hx)))
  have HE5 := Lib.hid hE5
  have HD5 := Lib.hid hD5
  obtain ⟨s5, hs5⟩ : ∃ s5, s5 = ({ noughts with fuse := max (N : Int) (-1) } : DS) := ⟨_, rfl⟩
  rw [← hs5] at HD5
  have Hwh5 := Lib.hid (show Wh s5 (fun _ => 0) by rw [hs5]; exact wh_noughts.fuse _)
  have hst5 : s5.steps = 0 := by rw [hs5]; rfl
  clear hD5 hm5 hE5 nob Hf hs5
  have hA3 : ∀ ad, A3 = some ad → ¬ G.own ad.block := fun ad e => by subst e; exact Hnob.out _ (Hwx.out _ rfl)
  have hwv := wrs_val (zs := zs) (mark := 7) (k := K) (by decide) hK
  have Ht := Lib.hid (told_b (told_r 25 Try.f25 #[.pointer (some ⟨bg, 0, none⟩), .pointer (some ⟨bx, 0, none⟩)] w5 G 256 (commitD 256 0 64 (wrs zs 7 K) s5) Try.func25 (by kernel_rfl) (by kernel_rfl) HE5.out.lt (fun v hv hs =>
    again1 v _ G s5 lg bg bx A3 c3 (wrs zs 7 K) K (HE5.out.L.mv hv (fun e => e)) (HB5.out.mv hv (fun e => e)) (wrs_len _ _ _) (by omega) (dev_told HD5.out hv hs) Hwh5.out.calm.2.2 (Blk.mv HE5.out.log hv (fun e => e)) HE5.out.lo Hwh5.out.u (by rw [hst5]; decide) ((Hwo5.out.mv hv (fun _ _ e => e)).wr) hA3 hwv)))
  have Hcu := Lib.hid (Hwh5.out.cu (t := 0) (wrs_v (zs := zs) (mark := 7) hK) hwv (by rw [hst5]; decide))
  have HA3 := Lib.hid hA3
  clear hwv hst5 hA3 Hbx
  generalize commitD 256 0 64 (wrs zs 7 K) s5 = r5 at Ht Hcu
  go_wp2_with fail
  refine Ht.out.mono ?_
  rintro e w6 ⟨q, rfl, hq, hD6, hm6⟩
  have HE6 := Lib.hid (HE5.out.to hm6)
  have HB6 := Lib.hid (HB5.out.mv hm6 (Hnob.out _ Hbx3.out))
  have Hwo6 := Lib.hid (Hwo5.out.mv hm6 (fun x hx => Hnob.out x (Hwx.out x hx)))
  have HD6 := Lib.hid hD6
  obtain ⟨b, hb⟩ : ∃ b, r5.2 = b := ⟨_, rfl⟩
  rw [hb] at hq Hcu
  clear hD6 hm6 Ht HE5 HB5 Hwo5 HD5 Hwh5 hb
  go_wp2_with fail
  clear hq
  go_loopw [13] (fun v13 wr => ∃ (i : Nat) (s : DS) (A' : Nat → Prop), v13 = .int .i64 (i : Int) ∧ i ≤ m ∧ i ≤ 6 ∧ Hid (DevA wr A' G 256 s) ∧ Hid (Cu s (fun _ => 0) (puts (fun _ => 0) (nat2 (wrs zs 7 K))) b (i + 1)) ∧ Hid (En w G lg bd bg wr) ∧ Hid (Blk wr bx 30 #[.slice A3 K c3]) ∧ Hid (WO wr w2.heap.size (.slice A3 K c3) (wrs zs 7 K)))
    (fun v13 _ => 6 - (intOf v13).toNat)
  case atStart => exact ⟨0, r5.1, _, rfl, Nat.zero_le _, by omega, HD6, Hcu, HE6, HB6, Hwo6⟩
  case round =>
    obtain ⟨i, s, A', rfl, him, hi6, hdv, hcu, hen, hbx, hwo⟩ := hrel
    clear HD6 Hcu HE6 HB6 Hwo6
    have cD := hen.out.cD
    by_cases hgo : i < m ∧ i < 6
    · obtain ⟨hlt, hl6⟩ := hgo
      obtain ⟨ad, u, hA2, hadb, hu, hcl⟩ := Hr2.out.at_ hlt
      subst hA2
      have hu' := ints_get hu
      subst hu'
      have hzwf := Lib.hid (Hw2.out (ys.getD i 0) (by rw [List.getD_eq_getElem?_getD, List.getElem?_eq_getElem (by rw [Hy.out]; exact hlt)]; exact List.getElem_mem _))
      generalize ys.getD i 0 = z at hcl hzwf hu
      clear hu
      have Hpw := Lib.hid (fun flip => powerC wr A' G 256 s flip none 0 0 [] hdv.out Reads.none_ (by simp) (by omega))
      have hwi := wrap_small (z := (i : Int) + 1) (by omega) (by omega)
      have Hcl := Lib.hid hcl
      have Hadb := Lib.hid hadb
      clear hcl hadb
      go_wp2_with fail
      refine (Hpw.out _).mono ?_
      rintro e w7 ⟨rfl, hD7, hm7⟩
      generalize pw [] _ = p at hD7
      have HE7 := Lib.hid (hen.out.to hm7)
      have HB7 := Lib.hid (hbx.out.mv hm7 (Hnob.out _ Hbx3.out))
      have Hwo7 := Lib.hid (hwo.out.mv hm7 (fun x hx => Hnob.out x (Hwx.out x hx)))
      have HD7 := Lib.hid hD7
      clear hD7 hm7 Hpw hdv hen hbx hwo cD
      have cD := HE7.out.cD
      have hcl7 := (mv_cell HE7.out.mv (by rw [block_of_add]; exact Hadb.out) (fun e => e)).trans Hcl.out
      go_wp2_with fail
      go_still_tail 5, (by kernel_rfl)
      change wpList _ _ _ _ _ w7.drew
      have Hf := Lib.hid (fuseC w7.drew G 256 _ z (HD7.out.drewN 1) (i64_rng hzwf.out))
      go_wp2_with fail
      refine Hf.out.mono ?_
      rintro e w8 ⟨rfl, hD8, hm8⟩
      have hm8 : Mv G.own w7 w8 := ⟨hm8.os, hm8.tape, hm8.output, hm8.size, hm8.block⟩
      have HE8 := Lib.hid (HE7.out.to hm8)
      have HB8 := Lib.hid (HB7.out.mv hm8 (Hnob.out _ Hbx3.out))
      have Hwo8 := Lib.hid (Hwo7.out.mv hm8 (fun x hx => Hnob.out x (Hwx.out x hx)))
      have hcu8 := Lib.hid (hcu.out.open p (max z (-1)))
      obtain ⟨hc8, hu8⟩ := hcu.out.fused p (max z (-1))
      have hst8 : ({ s.power p with fuse := max z (-1) } : DS).steps < 600000000 := by have := hcu.out.steps; show s.steps < _; omega
      clear cD hcl7
      have cD := HE8.out.cD
      generalize ({ s.power p with fuse := max z (-1) } : DS) = s8 at hD8 hcu8 hc8 hu8 hst8
      have HD8 := Lib.hid hD8
      have Hc8 := Lib.hid hc8
      have Hu8 := Lib.hid hu8
      have Ht := Lib.hid (told_b (told_r 26 Try.f26 #[.pointer (some ⟨bd, 0, none⟩)] w8 G 256 (runS (homeL s8.now 256 0 64) s8) Try.func26 (by kernel_rfl) (by kernel_rfl) HE8.out.lt (fun v hv hs =>
        again2 v _ G s8 bd (HE8.out.D.mv hv (fun e => e)) (dev_told HD8.out hv hs) Hc8.out.2.2 Hu8.out hst8)))
      generalize runS (homeL s8.now 256 0 64) s8 = r8 at hcu8 Ht
      clear hD8 hc8 hu8 hst8 HE7 HB7 Hwo7 HD7 Hf hm8
      go_wp2_with fail
      refine Ht.out.mono ?_
      rintro e w9 ⟨q9, rfl, hq9, hD9, hm9⟩
      have HE9 := Lib.hid (HE8.out.to hm9)
      have HB9 := Lib.hid (HB8.out.mv hm9 (Hnob.out _ Hbx3.out))
      have Hwo9 := Lib.hid (Hwo8.out.mv hm9 (fun x hx => Hnob.out x (Hwx.out x hx)))
      have HD9 := Lib.hid hD9
      clear hD9 hm9 hq9 Ht HE8 HB8 Hwo8 HD8 Hc8 Hu8 cD
      go_wp2_with fail
      refine ⟨⟨i + 1, r8.1, _, by go_num, by omega, by omega, HD9, hcu8, HE9, HB9, Hwo9⟩, ?_⟩
      show 6 - ((i : Int) + 1).toNat < 6 - ((i : Int)).toNat
      omega
    · have Hpw := Lib.hid (powerC wr A' G 256 s false none 0 0 [] hdv.out Reads.none_ (by simp) (by omega))
      rcases Nat.lt_or_ge i m with hlt | hge
      · have h6 : ¬ (i : Int) < 6 := by omega
        go_wp2_with fail
        refine Hpw.out.mono ?_
        rintro e w7 ⟨rfl, hD7, hm7⟩
        generalize pw [] false = p at hD7
        have HE7 := Lib.hid (hen.out.to hm7)
        have HB7 := Lib.hid (hbx.out.mv hm7 (Hnob.out _ Hbx3.out))
        have Hwo7 := Lib.hid (hwo.out.mv hm7 (fun x hx => Hnob.out x (Hwx.out x hx)))
        have hrdy : U64 (s.power p).now := (hcu.out.fused p (-1)).2
        have Ho := Lib.hid (open_whole w7 G.own G 256 (s.power p) 0 64 hD7 rfl (by decide) hrdy (by have := hcu.out.steps; show s.steps < _; omega) rfl)
        have Hwhole := Lib.hid (hcu.out.whole p)
        generalize (runS (homeL (s.power p).now 256 0 64) (s.power p)).1 = s8 at Ho Hwhole
        clear hD7 hm7 Hpw hdv hen hbx hwo cD hrdy
        have cD := HE7.out.cD
        go_wp2_with fail
        refine Ho.out.mono ?_
        rintro e w8 ⟨lg2, hlg2, rfl, hL8, hD8, hm8⟩
        have hE8 := HE7.out.to hm8
        have HE8 := Lib.hid hE8
        have HB8 := Lib.hid (HB7.out.mv hm8 (Hnob.out _ Hbx3.out))
        have Hwo8 := Lib.hid (Hwo7.out.mv hm8 (fun x hx => Hnob.out x (Hwx.out x hx)))
        have HL8 := Lib.hid hL8
        have HD8 := Lib.hid hD8
        have hc8 : Calm s8 := by rcases Hwhole.out.1 with h | ⟨_, h⟩; exact h.calm; exact h.calm
        have Hc8 := Lib.hid hc8
        have Hn8 := Lib.hid (show bg < lg2 from by have := HB7.out.lt; have := Hbx3.out; omega)
        clear hD8 hL8 hm8 Ho HE7 HB7 Hwo7 cD hE8 hc8 hlg2
        have m9 : Mv (fun _ => False) w8 (w8.alloc (.cells Try.zeroCells40 40)) := (Mv.refl _ w8).alloc _
        have hB16 : Blk (w8.alloc (.cells Try.zeroCells40 40)) w8.heap.size 40 (words .u64 256 fun _ => 0) := by rw [← zero256]; exact blk_new _ _ _ rfl
        have cX := ((HB8.out.mv m9 (fun e => e)).cell 0).trans rfl
        have Hdn := Lib.hid (done_any (w8.alloc (.cells Try.zeroCells40 40)) A3 K c3 w2.heap.size (wrs zs 7 K) (fun _ => 0) (Hwo8.out.mv m9 (fun _ _ e => e)) (wrs_len _ _ _) (by omega) (fun p hp => by have := wrs_mem hp; omega))
        have M9 := Lib.hid m9
        clear m9
        go_wp2_with (first
          | (refine wpList_loadA rfl (.tmp 16) rfl w8.heap.size rfl (fun _ => 0) hB16 ?_)
          | fail)
        refine Hdn.out.mono ?_
        rintro e w10 ⟨rfl, hm10⟩
        obtain ⟨b16, hb16⟩ : ∃ b16, b16 = w8.heap.size := ⟨_, rfl⟩
        rw [← hb16] at hB16 ⊢
        generalize puts (fun _ => 0) (nat2 (wrs zs 7 K)) = f2 at Hwhole ⊢
        have HB10 := Lib.hid (hB16.mv hm10 (fun e => e))
        have HE10 := Lib.hid (HE8.out.none (M9.out.trans hm10))
        have HD10 := Lib.hid (dev_turn HD8.out Hc8.out (M9.out.trans hm10) (fun _ _ e => e))
        have HL10 := Lib.hid (Blk.mv HL8.out (M9.out.trans hm10) (fun e => e))
        have Hb16 := Lib.hid (show lg2 < b16 from by have := HL8.out.lt; omega)
        clear hB16 hm10 hb16 cX Hdn HE8 HD8 HL8 HB8 Hwo8 M9
        obtain ⟨w11, hw11⟩ : ∃ w11, w11 = w10.alloc (.cells Try.zeroCells40 40) := ⟨_, rfl⟩
        obtain ⟨b17, hb17⟩ : ∃ b17, b17 = w10.heap.size := ⟨_, rfl⟩
        have Hw11 := Lib.hid hw11
        have Hb17 := Lib.hid hb17
        have m11 : Mv (fun _ => False) w10 w11 := by rw [hw11]; exact (Mv.refl _ w10).alloc _
        have hB11 : Blk w11 b17 40 (words .u64 256 fun _ => 0) := by rw [hw11, ← zero256]; exact blk_new _ _ _ hb17
        rw [hw11, hb17] at hB11
        have M11 := Lib.hid m11
        have Hx17 := Lib.hid (show b16 < b17 from by have := HB10.out.lt; omega)
        clear m11 hw11 hb17
        go_wp2_with (first
          | (refine wpList_storeA rfl (.tmp 17) (.tmp 74) rfl w10.heap.size rfl (fun _ => 0) f2 rfl hB11 ?_; rw [← Hw11.out, ← Hb17.out]; intro wd hBd hMd hsd; have hEd := (HE10.out.none M11.out).go hMd (fun b e => .inr (by have := Hx17.out; have := Hb16.out; have := Hn8.out; omega)); have cD := hEd.cD; have HBd := Lib.hid hBd; have HMd := Lib.hid hMd; have HEd := Lib.hid hEd; clear hMd hsd hEd hB11)
          | (refine wpList_loadA rfl (.tmp 17) rfl b17 rfl f2 hBd ?_)
          | fail)
        have hDd := dev_turn (dev_turn HD10.out Hc8.out M11.out (fun _ _ e => e)) Hc8.out HMd.out (fun b hb e => by have := (HEd.out.own b hb).2; have := HEd.out.new.2.1; have := Hx17.out; have := Hb16.out; have := Hn8.out; omega)
        have HDd := Lib.hid hDd
        have HLd := Lib.hid (Blk.mv (Blk.mv HL10.out M11.out (fun e => e)) HMd.out (fun e => by have := Hx17.out; have := Hb16.out; omega))
        have HBz := Lib.hid ((HB10.out.mv M11.out (fun e => e)).mv HMd.out (fun e => by have := Hx17.out; omega))
        have Ht := Lib.hid (tells_any wd G.own G s8 f2 hDd Hc8.out.2.2 Hc8.out.2.1)
        have Hst8 := Lib.hid (show s8.steps < 100000000 by have := Hwhole.out.2.2; omega)
        clear hDd HD10 HL10 HB10 HE10 M11 HMd
        by_cases hT : tB s8.now f2 256 = true
        · rw [hT] at Ht
          obtain ⟨g, hg⟩ : ∃ g, Wh s8 g := by rcases Hwhole.out.1 with h | ⟨_, h⟩; exact ⟨_, h⟩; exact ⟨_, h⟩
          have Hg := Lib.hid hg
          have Hfu := Lib.hid Hwhole.out.2.1
          clear hg hT Hwhole
          refine Ht.out.mono ?_
          rintro e we ⟨rfl, hme⟩
          have HEe := Lib.hid (HEd.out.none hme)
          have HDe := Lib.hid (dev_turn HDd.out Hc8.out hme (fun _ _ e => e))
          have HLe := Lib.hid (Blk.mv HLd.out hme (fun e => e))
          clear hme Ht HEd HDd HLd HBz cD
          go_wp2_with fail
          obtain ⟨w12, hw12⟩ : ∃ w12, w12 = we.alloc (.cells #[.int .i64 200, .int .u64 5] 32) := ⟨_, rfl⟩
          rw [← hw12]
          have Hb : Blk w12 we.heap.size 32 #[.int .i64 200, .int .u64 5] := by rw [hw12]; exact blk_new we _ _ rfl
          have hm12 : Mv (fun _ => False) we w12 := by rw [hw12]; exact (Mv.refl _ we).alloc _
          have hlt := Hb.lt
          have hwr : WR w12 w12.heap.size (some ⟨we.heap.size, 0, none⟩) [(200, 5)] := fun i hi => by
            refine ⟨_, rfl, hlt, ?_⟩
            rw [add_head, add_head]
            have hi2 : i < 1 := hi
            obtain rfl : i = 0 := by omega
            exact ⟨(Hb.cell 0).trans rfl, (Hb.cell 1).trans rfl⟩
          have hno : ¬ G.own we.heap.size := fun e => Nat.lt_irrefl _ (HEe.out.lt _ e)
          have Hc := Lib.hid (commit_whole w12 G.own G 256 s8 lg2 0 64 (some ⟨we.heap.size, 0, none⟩) 1 [(200, 5)] 1 rfl (by decide) (dev_turn HDe.out Hg.out.calm hm12 (fun _ _ e => e)) Hg.out.calm.2.2 (Blk.mv HLe.out hm12 (fun e => e)) (Hnob.out _ Hn8.out) (by decide) Hg.out.u (by have := Hst8.out; omega) Hfu.out hwr (fun ad e => by cases e; exact hno) (by decide))
          have hv13 : commitV 256 0 64 [(200, 5)] = 0 := by decide
          rw [hv13] at Hc
          have hw13 := Hg.out.commit hv13 (by decide) (commit_free 256 0 64 [(200, 5)] s8 Hfu.out).1
          have hst13 := commit_steps 256 0 64 [(200, 5)] s8 (by decide)
          have HE12 := Lib.hid (HEe.out.none hm12)
          generalize (commitD 256 0 64 [(200, 5)] s8).1 = s13 at Hc hw13 hst13
          have Hw13 := Lib.hid hw13
          have Hst13 := Lib.hid (show s13.steps < 600000000 by have := Hst8.out; omega)
          clear hw12 Hb hm12 hlt hwr hno hv13 hw13 hst13 HEe HDe HLe
          refine Hc.out.mono ?_
          rintro e w13 ⟨rfl, hD13, hm13⟩
          have hE13 := HE12.out.to hm13
          have HE13 := Lib.hid hE13
          have cD := hE13.cD
          have Hp := Lib.hid (powerC w13 G.own G 256 s13 true none 0 0 [] hD13 Reads.none_ (by simp) (by omega))
          clear hD13 hm13 hE13 Hc HE12
          go_wp2_with fail
          refine Hp.out.mono ?_
          rintro e w14 ⟨rfl, hD14, hm14⟩
          have hW14 := Hw13.out.power (pw [] true)
          have hO14 := hW14.rd.open rfl
          have Ho := Lib.hid (open_whole w14 G.own G 256 (s13.power (pw [] true)) 0 64 hD14 rfl (by decide) hW14.u (by show s13.steps < _; have := Hst13.out; omega) rfl)
          generalize (runS (homeL (s13.power (pw [] true)).now 256 0 64) (s13.power (pw [] true))).1 = s15 at Ho hO14
          have HO14 := Lib.hid hO14
          clear cD
          have hE14 := HE13.out.to hm14
          have HE14 := Lib.hid hE14
          have cD := hE14.cD
          clear hD14 hm14 hE14 Hp hW14 hO14 HE13
          go_wp2_with fail
          refine Ho.out.mono ?_
          rintro e w15 ⟨lg3, hlg3, rfl, hL15, hD15, hm15⟩
          have hE15 := HE14.out.to hm15
          have HE15 := Lib.hid hE15
          clear cD
          have cD := hE15.cD
          have Hl := Lib.hid (load_ok w15 G.own G 256 s15 200 hD15.1 (by decide) HO14.out.1.calm.2.2)
          rw [show (200 : Int).toNat = 200 from rfl, HO14.out.1.same 200 (by decide), show puts g (nat2 [(200, 5)]) 200 = 5 from rfl] at Hl
          clear hlg3 hL15 hD15 hm15 hE15 Ho HE14
          go_wp2_with fail
          refine Hl.out.mono ?_
          rintro e w16 ⟨rfl, rfl⟩
          go_wp2_with fail
          refine (awake6_any _).mono ?_
          rintro e w17 ⟨rfl, hm17⟩
          have HE17 := Lib.hid (HE15.out.none hm17)
          clear hm17
          go_wp2_with fail
          go_ret
          exact ⟨by simp, HE17.out.mv⟩
        · have hb0 : b = false ∧ Wh s8 (fun _ => 0) := by
            rcases Hwhole.out.1 with h | h
            · exact absurd h.tells hT
            · exact h
          rw [Bool.eq_false_iff.2 hT] at Ht
          obtain ⟨hb, hg⟩ := hb0
          subst hb
          have Hg := Lib.hid hg
          have Hfu := Lib.hid Hwhole.out.2.1
          clear hg hT Hwhole
          refine Ht.out.mono ?_
          rintro e wt ⟨rfl, hmt⟩
          have hEt := HEd.out.none hmt
          have HEt := Lib.hid hEt
          have hDt := dev_turn HDd.out Hc8.out hmt (fun _ _ e => e)
          have HDt := Lib.hid hDt
          have HLt := Lib.hid (Blk.mv HLd.out hmt (fun e => e))
          have hBt := HBz.out.mv hmt (fun e => e)
          have Ht2 := Lib.hid (tells_any wt G.own G s8 (fun _ => 0) hDt Hc8.out.2.2 Hc8.out.2.1)
          rw [Hg.out.tells] at Ht2
          clear hmt Ht HEd HDd HLd HBz cD hDt
          have cD := hEt.cD
          clear hEt
          go_wp2_with fail
          refine wp_loadA (.tmp 16) rfl b16 rfl (fun _ => 0) hBt ?_
          go_wp2_with fail
          refine Ht2.out.mono ?_
          rintro e we ⟨rfl, hme⟩
          have HEe := Lib.hid (HEt.out.none hme)
          have HDe := Lib.hid (dev_turn HDt.out Hc8.out hme (fun _ _ e => e))
          have HLe := Lib.hid (Blk.mv HLt.out hme (fun e => e))
          clear hme Ht2 HEt HDt HLt cD hBt
          obtain ⟨g, Hg⟩ : ∃ g, Hid (Wh s8 g) := ⟨_, Hg⟩
          go_wp2_with fail
          obtain ⟨w12, hw12⟩ : ∃ w12, w12 = we.alloc (.cells #[.int .i64 200, .int .u64 5] 32) := ⟨_, rfl⟩
          rw [← hw12]
          have Hb : Blk w12 we.heap.size 32 #[.int .i64 200, .int .u64 5] := by rw [hw12]; exact blk_new we _ _ rfl
          have hm12 : Mv (fun _ => False) we w12 := by rw [hw12]; exact (Mv.refl _ we).alloc _
          have hlt := Hb.lt
          have hwr : WR w12 w12.heap.size (some ⟨we.heap.size, 0, none⟩) [(200, 5)] := fun i hi => by
            refine ⟨_, rfl, hlt, ?_⟩
            rw [add_head, add_head]
            have hi2 : i < 1 := hi
            obtain rfl : i = 0 := by omega
            exact ⟨(Hb.cell 0).trans rfl, (Hb.cell 1).trans rfl⟩
          have hno : ¬ G.own we.heap.size := fun e => Nat.lt_irrefl _ (HEe.out.lt _ e)
          have Hc := Lib.hid (commit_whole w12 G.own G 256 s8 lg2 0 64 (some ⟨we.heap.size, 0, none⟩) 1 [(200, 5)] 1 rfl (by decide) (dev_turn HDe.out Hg.out.calm hm12 (fun _ _ e => e)) Hg.out.calm.2.2 (Blk.mv HLe.out hm12 (fun e => e)) (Hnob.out _ Hn8.out) (by decide) Hg.out.u (by have := Hst8.out; omega) Hfu.out hwr (fun ad e => by cases e; exact hno) (by decide))
          have hv13 : commitV 256 0 64 [(200, 5)] = 0 := by decide
          rw [hv13] at Hc
          have hw13 := Hg.out.commit hv13 (by decide) (commit_free 256 0 64 [(200, 5)] s8 Hfu.out).1
          have hst13 := commit_steps 256 0 64 [(200, 5)] s8 (by decide)
          have HE12 := Lib.hid (HEe.out.none hm12)
          generalize (commitD 256 0 64 [(200, 5)] s8).1 = s13 at Hc hw13 hst13
          have Hw13 := Lib.hid hw13
          have Hst13 := Lib.hid (show s13.steps < 600000000 by have := Hst8.out; omega)
          clear hw12 Hb hm12 hlt hwr hno hv13 hw13 hst13 HEe HDe HLe
          refine Hc.out.mono ?_
          rintro e w13 ⟨rfl, hD13, hm13⟩
          have hE13 := HE12.out.to hm13
          have HE13 := Lib.hid hE13
          have cD := hE13.cD
          have Hp := Lib.hid (powerC w13 G.own G 256 s13 true none 0 0 [] hD13 Reads.none_ (by simp) (by omega))
          clear hD13 hm13 hE13 Hc HE12
          go_wp2_with fail
          refine Hp.out.mono ?_
          rintro e w14 ⟨rfl, hD14, hm14⟩
          have hW14 := Hw13.out.power (pw [] true)
          have hO14 := hW14.rd.open rfl
          have Ho := Lib.hid (open_whole w14 G.own G 256 (s13.power (pw [] true)) 0 64 hD14 rfl (by decide) hW14.u (by show s13.steps < _; have := Hst13.out; omega) rfl)
          generalize (runS (homeL (s13.power (pw [] true)).now 256 0 64) (s13.power (pw [] true))).1 = s15 at Ho hO14
          have HO14 := Lib.hid hO14
          clear cD
          have hE14 := HE13.out.to hm14
          have HE14 := Lib.hid hE14
          have cD := hE14.cD
          clear hD14 hm14 hE14 Hp hW14 hO14 HE13
          go_wp2_with fail
          refine Ho.out.mono ?_
          rintro e w15 ⟨lg3, hlg3, rfl, hL15, hD15, hm15⟩
          have hE15 := HE14.out.to hm15
          have HE15 := Lib.hid hE15
          clear cD
          have cD := hE15.cD
          have Hl := Lib.hid (load_ok w15 G.own G 256 s15 200 hD15.1 (by decide) HO14.out.1.calm.2.2)
          rw [show (200 : Int).toNat = 200 from rfl, HO14.out.1.same 200 (by decide), show puts g (nat2 [(200, 5)]) 200 = 5 from rfl] at Hl
          clear hlg3 hL15 hD15 hm15 hE15 Ho HE14
          go_wp2_with fail
          refine Hl.out.mono ?_
          rintro e w16 ⟨rfl, rfl⟩
          go_wp2_with fail
          refine (awake6_any _).mono ?_
          rintro e w17 ⟨rfl, hm17⟩
          have HE17 := Lib.hid (HE15.out.none hm17)
          clear hm17
          go_wp2_with fail
          go_ret
          exact ⟨by simp, HE17.out.mv⟩
      · have hnl : ¬ (i : Int) < (m : Int) := by omega
        go_wp2_with fail
        refine Hpw.out.mono ?_
        rintro e w7 ⟨rfl, hD7, hm7⟩
        generalize pw [] false = p at hD7
        have HE7 := Lib.hid (hen.out.to hm7)
        have HB7 := Lib.hid (hbx.out.mv hm7 (Hnob.out _ Hbx3.out))
        have Hwo7 := Lib.hid (hwo.out.mv hm7 (fun x hx => Hnob.out x (Hwx.out x hx)))
        have hrdy : U64 (s.power p).now := (hcu.out.fused p (-1)).2
        have Ho := Lib.hid (open_whole w7 G.own G 256 (s.power p) 0 64 hD7 rfl (by decide) hrdy (by have := hcu.out.steps; show s.steps < _; omega) rfl)
        have Hwhole := Lib.hid (hcu.out.whole p)
        generalize (runS (homeL (s.power p).now 256 0 64) (s.power p)).1 = s8 at Ho Hwhole
        clear hD7 hm7 Hpw hdv hen hbx hwo cD hrdy
        have cD := HE7.out.cD
        go_wp2_with fail
        refine Ho.out.mono ?_
        rintro e w8 ⟨lg2, hlg2, rfl, hL8, hD8, hm8⟩
        have hE8 := HE7.out.to hm8
        have HE8 := Lib.hid hE8
        have HB8 := Lib.hid (HB7.out.mv hm8 (Hnob.out _ Hbx3.out))
        have Hwo8 := Lib.hid (Hwo7.out.mv hm8 (fun x hx => Hnob.out x (Hwx.out x hx)))
        have HL8 := Lib.hid hL8
        have HD8 := Lib.hid hD8
        have hc8 : Calm s8 := by rcases Hwhole.out.1 with h | ⟨_, h⟩; exact h.calm; exact h.calm
        have Hc8 := Lib.hid hc8
        have Hn8 := Lib.hid (show bg < lg2 from by have := HB7.out.lt; have := Hbx3.out; omega)
        clear hD8 hL8 hm8 Ho HE7 HB7 Hwo7 cD hE8 hc8 hlg2
        have m9 : Mv (fun _ => False) w8 (w8.alloc (.cells Try.zeroCells40 40)) := (Mv.refl _ w8).alloc _
        have hB16 : Blk (w8.alloc (.cells Try.zeroCells40 40)) w8.heap.size 40 (words .u64 256 fun _ => 0) := by rw [← zero256]; exact blk_new _ _ _ rfl
        have cX := ((HB8.out.mv m9 (fun e => e)).cell 0).trans rfl
        have Hdn := Lib.hid (done_any (w8.alloc (.cells Try.zeroCells40 40)) A3 K c3 w2.heap.size (wrs zs 7 K) (fun _ => 0) (Hwo8.out.mv m9 (fun _ _ e => e)) (wrs_len _ _ _) (by omega) (fun p hp => by have := wrs_mem hp; omega))
        have M9 := Lib.hid m9
        clear m9
        go_wp2_with (first
          | (refine wpList_loadA rfl (.tmp 16) rfl w8.heap.size rfl (fun _ => 0) hB16 ?_)
          | fail)
        refine Hdn.out.mono ?_
        rintro e w10 ⟨rfl, hm10⟩
        obtain ⟨b16, hb16⟩ : ∃ b16, b16 = w8.heap.size := ⟨_, rfl⟩
        rw [← hb16] at hB16 ⊢
        generalize puts (fun _ => 0) (nat2 (wrs zs 7 K)) = f2 at Hwhole ⊢
        have HB10 := Lib.hid (hB16.mv hm10 (fun e => e))
        have HE10 := Lib.hid (HE8.out.none (M9.out.trans hm10))
        have HD10 := Lib.hid (dev_turn HD8.out Hc8.out (M9.out.trans hm10) (fun _ _ e => e))
        have HL10 := Lib.hid (Blk.mv HL8.out (M9.out.trans hm10) (fun e => e))
        have Hb16 := Lib.hid (show lg2 < b16 from by have := HL8.out.lt; omega)
        clear hB16 hm10 hb16 cX Hdn HE8 HD8 HL8 HB8 Hwo8 M9
        obtain ⟨w11, hw11⟩ : ∃ w11, w11 = w10.alloc (.cells Try.zeroCells40 40) := ⟨_, rfl⟩
        obtain ⟨b17, hb17⟩ : ∃ b17, b17 = w10.heap.size := ⟨_, rfl⟩
        have Hw11 := Lib.hid hw11
        have Hb17 := Lib.hid hb17
        have m11 : Mv (fun _ => False) w10 w11 := by rw [hw11]; exact (Mv.refl _ w10).alloc _
        have hB11 : Blk w11 b17 40 (words .u64 256 fun _ => 0) := by rw [hw11, ← zero256]; exact blk_new _ _ _ hb17
        rw [hw11, hb17] at hB11
        have M11 := Lib.hid m11
        have Hx17 := Lib.hid (show b16 < b17 from by have := HB10.out.lt; omega)
        clear m11 hw11 hb17
        go_wp2_with (first
          | (refine wpList_storeA rfl (.tmp 17) (.tmp 74) rfl w10.heap.size rfl (fun _ => 0) f2 rfl hB11 ?_; rw [← Hw11.out, ← Hb17.out]; intro wd hBd hMd hsd; have hEd := (HE10.out.none M11.out).go hMd (fun b e => .inr (by have := Hx17.out; have := Hb16.out; have := Hn8.out; omega)); have cD := hEd.cD; have HBd := Lib.hid hBd; have HMd := Lib.hid hMd; have HEd := Lib.hid hEd; clear hMd hsd hEd hB11)
          | (refine wpList_loadA rfl (.tmp 17) rfl b17 rfl f2 hBd ?_)
          | fail)
        have hDd := dev_turn (dev_turn HD10.out Hc8.out M11.out (fun _ _ e => e)) Hc8.out HMd.out (fun b hb e => by have := (HEd.out.own b hb).2; have := HEd.out.new.2.1; have := Hx17.out; have := Hb16.out; have := Hn8.out; omega)
        have HDd := Lib.hid hDd
        have HLd := Lib.hid (Blk.mv (Blk.mv HL10.out M11.out (fun e => e)) HMd.out (fun e => by have := Hx17.out; have := Hb16.out; omega))
        have HBz := Lib.hid ((HB10.out.mv M11.out (fun e => e)).mv HMd.out (fun e => by have := Hx17.out; omega))
        have Ht := Lib.hid (tells_any wd G.own G s8 f2 hDd Hc8.out.2.2 Hc8.out.2.1)
        have Hst8 := Lib.hid (show s8.steps < 100000000 by have := Hwhole.out.2.2; omega)
        clear hDd HD10 HL10 HB10 HE10 M11 HMd
        by_cases hT : tB s8.now f2 256 = true
        · rw [hT] at Ht
          obtain ⟨g, hg⟩ : ∃ g, Wh s8 g := by rcases Hwhole.out.1 with h | ⟨_, h⟩; exact ⟨_, h⟩; exact ⟨_, h⟩
          have Hg := Lib.hid hg
          have Hfu := Lib.hid Hwhole.out.2.1
          clear hg hT Hwhole
          refine Ht.out.mono ?_
          rintro e we ⟨rfl, hme⟩
          have HEe := Lib.hid (HEd.out.none hme)
          have HDe := Lib.hid (dev_turn HDd.out Hc8.out hme (fun _ _ e => e))
          have HLe := Lib.hid (Blk.mv HLd.out hme (fun e => e))
          clear hme Ht HEd HDd HLd HBz cD
          go_wp2_with fail
          obtain ⟨w12, hw12⟩ : ∃ w12, w12 = we.alloc (.cells #[.int .i64 200, .int .u64 5] 32) := ⟨_, rfl⟩
          rw [← hw12]
          have Hb : Blk w12 we.heap.size 32 #[.int .i64 200, .int .u64 5] := by rw [hw12]; exact blk_new we _ _ rfl
          have hm12 : Mv (fun _ => False) we w12 := by rw [hw12]; exact (Mv.refl _ we).alloc _
          have hlt := Hb.lt
          have hwr : WR w12 w12.heap.size (some ⟨we.heap.size, 0, none⟩) [(200, 5)] := fun i hi => by
            refine ⟨_, rfl, hlt, ?_⟩
            rw [add_head, add_head]
            have hi2 : i < 1 := hi
            obtain rfl : i = 0 := by omega
            exact ⟨(Hb.cell 0).trans rfl, (Hb.cell 1).trans rfl⟩
          have hno : ¬ G.own we.heap.size := fun e => Nat.lt_irrefl _ (HEe.out.lt _ e)
          have Hc := Lib.hid (commit_whole w12 G.own G 256 s8 lg2 0 64 (some ⟨we.heap.size, 0, none⟩) 1 [(200, 5)] 1 rfl (by decide) (dev_turn HDe.out Hg.out.calm hm12 (fun _ _ e => e)) Hg.out.calm.2.2 (Blk.mv HLe.out hm12 (fun e => e)) (Hnob.out _ Hn8.out) (by decide) Hg.out.u (by have := Hst8.out; omega) Hfu.out hwr (fun ad e => by cases e; exact hno) (by decide))
          have hv13 : commitV 256 0 64 [(200, 5)] = 0 := by decide
          rw [hv13] at Hc
          have hw13 := Hg.out.commit hv13 (by decide) (commit_free 256 0 64 [(200, 5)] s8 Hfu.out).1
          have hst13 := commit_steps 256 0 64 [(200, 5)] s8 (by decide)
          have HE12 := Lib.hid (HEe.out.none hm12)
          generalize (commitD 256 0 64 [(200, 5)] s8).1 = s13 at Hc hw13 hst13
          have Hw13 := Lib.hid hw13
          have Hst13 := Lib.hid (show s13.steps < 600000000 by have := Hst8.out; omega)
          clear hw12 Hb hm12 hlt hwr hno hv13 hw13 hst13 HEe HDe HLe
          refine Hc.out.mono ?_
          rintro e w13 ⟨rfl, hD13, hm13⟩
          have hE13 := HE12.out.to hm13
          have HE13 := Lib.hid hE13
          have cD := hE13.cD
          have Hp := Lib.hid (powerC w13 G.own G 256 s13 true none 0 0 [] hD13 Reads.none_ (by simp) (by omega))
          clear hD13 hm13 hE13 Hc HE12
          go_wp2_with fail
          refine Hp.out.mono ?_
          rintro e w14 ⟨rfl, hD14, hm14⟩
          have hW14 := Hw13.out.power (pw [] true)
          have hO14 := hW14.rd.open rfl
          have Ho := Lib.hid (open_whole w14 G.own G 256 (s13.power (pw [] true)) 0 64 hD14 rfl (by decide) hW14.u (by show s13.steps < _; have := Hst13.out; omega) rfl)
          generalize (runS (homeL (s13.power (pw [] true)).now 256 0 64) (s13.power (pw [] true))).1 = s15 at Ho hO14
          have HO14 := Lib.hid hO14
          clear cD
          have hE14 := HE13.out.to hm14
          have HE14 := Lib.hid hE14
          have cD := hE14.cD
          clear hD14 hm14 hE14 Hp hW14 hO14 HE13
          go_wp2_with fail
          refine Ho.out.mono ?_
          rintro e w15 ⟨lg3, hlg3, rfl, hL15, hD15, hm15⟩
          have hE15 := HE14.out.to hm15
          have HE15 := Lib.hid hE15
          clear cD
          have cD := hE15.cD
          have Hl := Lib.hid (load_ok w15 G.own G 256 s15 200 hD15.1 (by decide) HO14.out.1.calm.2.2)
          rw [show (200 : Int).toNat = 200 from rfl, HO14.out.1.same 200 (by decide), show puts g (nat2 [(200, 5)]) 200 = 5 from rfl] at Hl
          clear hlg3 hL15 hD15 hm15 hE15 Ho HE14
          go_wp2_with fail
          refine Hl.out.mono ?_
          rintro e w16 ⟨rfl, rfl⟩
          go_wp2_with fail
          refine (awake6_any _).mono ?_
          rintro e w17 ⟨rfl, hm17⟩
          have HE17 := Lib.hid (HE15.out.none hm17)
          clear hm17
          go_wp2_with fail
          go_ret
          exact ⟨by simp, HE17.out.mv⟩
        · have hb0 : b = false ∧ Wh s8 (fun _ => 0) := by
            rcases Hwhole.out.1 with h | h
            · exact absurd h.tells hT
            · exact h
          rw [Bool.eq_false_iff.2 hT] at Ht
          obtain ⟨hb, hg⟩ := hb0
          subst hb
          have Hg := Lib.hid hg
          have Hfu := Lib.hid Hwhole.out.2.1
          clear hg hT Hwhole
          refine Ht.out.mono ?_
          rintro e wt ⟨rfl, hmt⟩
          have hEt := HEd.out.none hmt
          have HEt := Lib.hid hEt
          have hDt := dev_turn HDd.out Hc8.out hmt (fun _ _ e => e)
          have HDt := Lib.hid hDt
          have HLt := Lib.hid (Blk.mv HLd.out hmt (fun e => e))
          have hBt := HBz.out.mv hmt (fun e => e)
          have Ht2 := Lib.hid (tells_any wt G.own G s8 (fun _ => 0) hDt Hc8.out.2.2 Hc8.out.2.1)
          rw [Hg.out.tells] at Ht2
          clear hmt Ht HEd HDd HLd HBz cD hDt
          have cD := hEt.cD
          clear hEt
          go_wp2_with fail
          refine wp_loadA (.tmp 16) rfl b16 rfl (fun _ => 0) hBt ?_
          go_wp2_with fail
          refine Ht2.out.mono ?_
          rintro e we ⟨rfl, hme⟩
          have HEe := Lib.hid (HEt.out.none hme)
          have HDe := Lib.hid (dev_turn HDt.out Hc8.out hme (fun _ _ e => e))
          have HLe := Lib.hid (Blk.mv HLt.out hme (fun e => e))
          clear hme Ht2 HEt HDt HLt cD hBt
          obtain ⟨g, Hg⟩ : ∃ g, Hid (Wh s8 g) := ⟨_, Hg⟩
          go_wp2_with fail
          obtain ⟨w12, hw12⟩ : ∃ w12, w12 = we.alloc (.cells #[.int .i64 200, .int .u64 5] 32) := ⟨_, rfl⟩
          rw [← hw12]
          have Hb : Blk w12 we.heap.size 32 #[.int .i64 200, .int .u64 5] := by rw [hw12]; exact blk_new we _ _ rfl
          have hm12 : Mv (fun _ => False) we w12 := by rw [hw12]; exact (Mv.refl _ we).alloc _
          have hlt := Hb.lt
          have hwr : WR w12 w12.heap.size (some ⟨we.heap.size, 0, none⟩) [(200, 5)] := fun i hi => by
            refine ⟨_, rfl, hlt, ?_⟩
            rw [add_head, add_head]
            have hi2 : i < 1 := hi
            obtain rfl : i = 0 := by omega
            exact ⟨(Hb.cell 0).trans rfl, (Hb.cell 1).trans rfl⟩
          have hno : ¬ G.own we.heap.size := fun e => Nat.lt_irrefl _ (HEe.out.lt _ e)
          have Hc := Lib.hid (commit_whole w12 G.own G 256 s8 lg2 0 64 (some ⟨we.heap.size, 0, none⟩) 1 [(200, 5)] 1 rfl (by decide) (dev_turn HDe.out Hg.out.calm hm12 (fun _ _ e => e)) Hg.out.calm.2.2 (Blk.mv HLe.out hm12 (fun e => e)) (Hnob.out _ Hn8.out) (by decide) Hg.out.u (by have := Hst8.out; omega) Hfu.out hwr (fun ad e => by cases e; exact hno) (by decide))
          have hv13 : commitV 256 0 64 [(200, 5)] = 0 := by decide
          rw [hv13] at Hc
          have hw13 := Hg.out.commit hv13 (by decide) (commit_free 256 0 64 [(200, 5)] s8 Hfu.out).1
          have hst13 := commit_steps 256 0 64 [(200, 5)] s8 (by decide)
          have HE12 := Lib.hid (HEe.out.none hm12)
          generalize (commitD 256 0 64 [(200, 5)] s8).1 = s13 at Hc hw13 hst13
          have Hw13 := Lib.hid hw13
          have Hst13 := Lib.hid (show s13.steps < 600000000 by have := Hst8.out; omega)
          clear hw12 Hb hm12 hlt hwr hno hv13 hw13 hst13 HEe HDe HLe
          refine Hc.out.mono ?_
          rintro e w13 ⟨rfl, hD13, hm13⟩
          have hE13 := HE12.out.to hm13
          have HE13 := Lib.hid hE13
          have cD := hE13.cD
          have Hp := Lib.hid (powerC w13 G.own G 256 s13 true none 0 0 [] hD13 Reads.none_ (by simp) (by omega))
          clear hD13 hm13 hE13 Hc HE12
          go_wp2_with fail
          refine Hp.out.mono ?_
          rintro e w14 ⟨rfl, hD14, hm14⟩
          have hW14 := Hw13.out.power (pw [] true)
          have hO14 := hW14.rd.open rfl
          have Ho := Lib.hid (open_whole w14 G.own G 256 (s13.power (pw [] true)) 0 64 hD14 rfl (by decide) hW14.u (by show s13.steps < _; have := Hst13.out; omega) rfl)
          generalize (runS (homeL (s13.power (pw [] true)).now 256 0 64) (s13.power (pw [] true))).1 = s15 at Ho hO14
          have HO14 := Lib.hid hO14
          clear cD
          have hE14 := HE13.out.to hm14
          have HE14 := Lib.hid hE14
          have cD := hE14.cD
          clear hD14 hm14 hE14 Hp hW14 hO14 HE13
          go_wp2_with fail
          refine Ho.out.mono ?_
          rintro e w15 ⟨lg3, hlg3, rfl, hL15, hD15, hm15⟩
          have hE15 := HE14.out.to hm15
          have HE15 := Lib.hid hE15
          clear cD
          have cD := hE15.cD
          have Hl := Lib.hid (load_ok w15 G.own G 256 s15 200 hD15.1 (by decide) HO14.out.1.calm.2.2)
          rw [show (200 : Int).toNat = 200 from rfl, HO14.out.1.same 200 (by decide), show puts g (nat2 [(200, 5)]) 200 = 5 from rfl] at Hl
          clear hlg3 hL15 hD15 hm15 hE15 Ho HE14
          go_wp2_with fail
          refine Hl.out.mono ?_
          rintro e w16 ⟨rfl, rfl⟩
          go_wp2_with fail
          refine (awake6_any _).mono ?_
          rintro e w17 ⟨rfl, hm17⟩
          have HE17 := Lib.hid (HE15.out.none hm17)
          clear hm17
          go_wp2_with fail
          go_ret
          exact ⟨by simp, HE17.out.mv⟩
end Go.Proofs.Ytdphillobnlpaaa
