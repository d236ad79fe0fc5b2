/- redo: RedoPlays' walk. Printed by pl.py. -/
import Derived.Test.YtdphillobnlpaaaRedCb
namespace Go.Proofs.Ytdphillobnlpaaa
open Go.RowKit
set_option linter.unusedVariables false
set_option maxRecDepth 100000 in
set_option maxHeartbeats 16000000 in
theorem plays_any (w : World) (n c0 M c1 : Nat) (W0 A1 : Option Addr) (A : Nat → Option Addr) (L C : Nat → Nat) (zs : Nat → List Int) (ys : List Int) (hn : n ≤ 9223372036854775807) (hweb : Web w w.heap.size W0 n A L C zs) (hy : ys.length = M) (hM : M ≤ 9223372036854775807) (hr : Reads w w.heap.size 1 A1 M (ys.map (Value.int .i64))) :
    Calls Try.prog 4 #[.slice W0 n c0, .slice A1 M c1] w fun e w' => e = .returned (.bool true) ∧ Mv (fun _ => False) w w' := by
  have Hr := Lib.hid hr
  have Hweb := Lib.hid hweb
  have Hn := Lib.hid hn
  have HMl := Lib.hid hM
  clear hr hn hy hM hweb
  go_enter Try.func4, Try.ntmps4
  go_wp2_with fail
  refine (open6_any w).mono ?_
  rintro e w1 ⟨G, lg, rfl, hO⟩
  have HO := Lib.hid hO
  clear hO
  go_wp2_with fail
  refine (awake6_any w1).mono ?_
  rintro e w2 ⟨rfl, hm2⟩
  have Hm2 := Lib.hid hm2
  clear hm2
  go_wp2_with fail
  obtain ⟨w3, hw3⟩ : ∃ w3, w3 = w2.alloc (.cells Try.zeroCells40 40) := ⟨_, rfl⟩
  rw [← hw3]
  obtain ⟨b7, hb7⟩ : ∃ b7, b7 = w2.heap.size := ⟨_, rfl⟩
  rw [← hb7]
  have hb3 : Blk w3 b7 40 (words .u64 256 fun _ => 0) := by rw [hw3, ← zero256]; exact blk_new _ _ _ hb7
  have m3 : Mv (fun _ => False) w1 w3 := by rw [hw3]; exact Hm2.out.alloc _
  have Hown := Lib.hid (show ∀ b, G.own b → w.heap.size ≤ b ∧ b < b7 from fun b e => ⟨HO.out.fresh.own b e, by have := HO.out.dev.own_lt2 b e; have := Hm2.out.size; omega⟩)
  have Hlg := Lib.hid (show w.heap.size ≤ lg ∧ lg < b7 ∧ ¬ G.own lg from ⟨HO.out.lgN, by have := HO.out.lgL.lt; have := Hm2.out.size; omega, HO.out.lgO⟩)
  have Hb7 := Lib.hid (show w.heap.size ≤ b7 from by have := HO.out.mv.size; have := Hm2.out.size; omega)
  have HD3 := Lib.hid (dev_turn HO.out.dev calm_noughts m3 (fun _ _ e => e))
  have HL3 := Lib.hid (Blk.mv HO.out.lgL m3 (fun e => e))
  have HM3 := Lib.hid (HO.out.mv.trans m3)
  have Hb3 := Lib.hid hb3
  clear HO Hm2 hw3 m3 hb3 hb7
  go_loopw [8] (fun v8 wr => ∃ (i : Nat) (s : DS) (f : Nat → Int), v8 = .int .i64 (i : Int) ∧ i ≤ n ∧ i ≤ 20 ∧ Hid (Pl s f i) ∧ Hid (DevA wr G.own G 256 s) ∧ Hid (Lg wr lg G 0 64) ∧ Hid (Blk wr b7 40 (words .u64 256 f)) ∧ Hid (Mv (fun _ => False) w wr))
    (fun v8 _ => 20 - (intOf v8).toNat)
  case atStart => exact ⟨0, noughts, fun _ => 0, rfl, Nat.zero_le _, by omega, Lib.hid Pl.start, HD3, HL3, Hb3, HM3⟩
  case round =>
    obtain ⟨i, s, f, rfl, hin, hi20, hpl, hdv, hlg, hb, hmv⟩ := hrel
    clear HD3 HL3 HM3 Hb3
    by_cases hgo : i < n ∧ i < 20
    · obtain ⟨hlt, hl20⟩ := hgo
      obtain ⟨ad, u, hA1, hadb, hu, hcl⟩ := Hweb.out.out.at_ hlt
      subst hA1
      simp [hlt] at hu
      subst hu
      have hcl2 := (mv_cell hmv.out (by rw [block_of_add]; exact hadb) (fun e => e)).trans hcl
      obtain ⟨hrow, hzl, hL⟩ := Hweb.out.row i hlt
      obtain ⟨m, hm⟩ : ∃ m, m = 100 * i + 1 := ⟨_, rfl⟩
      have Hw := Lib.hid (writes_any wr (A i) (L i) (C i) m (zs i) (hrow.mvx hmv.out) hzl hL (by omega))
      have hwi := wrap_small (z := (i : Int) + 1) (by omega) (by omega)
      have e1 := wrap_small (z := 100 * (i : Int)) (by omega) (by omega)
      have e2 : IntKind.i64.wrap (100 * (i : Int) + 1) = (m : Int) := by rw [wrap_small (by omega) (by omega)]; omega
      have e3 : IntKind.u64.wrap (m : Int) = (m : Int) := IntWalk.u64_in _ (by omega)
      have hm5 : m ≤ 100000 := by omega
      clear hm hcl hadb hrow hzl hL
      have hK : min (L i) 24 ≤ 24 := Nat.min_le_right _ _
      generalize min (L i) 24 = K at Hw hK
      go_wp2_with fail
      refine Hw.out.mono ?_
      rintro e wa ⟨A2, c2, rfl, hwo, hma⟩
      have Hwo := Lib.hid hwo
      have Hma := Lib.hid hma
      clear hwo hma Hw
      have hbl := hb.out.lt
      have hDa := dev_turn hdv.out hpl.out.calm Hma.out (fun _ _ e => e)
      have HDa := Lib.hid hDa
      have hLa := Blk.mv hlg.out Hma.out (fun e => e)
      have HLa := Lib.hid hLa
      have hBa := hb.out.mv Hma.out (fun e => e)
      have HBa := Lib.hid hBa
      have HMa := Lib.hid (hmv.out.trans Hma.out)
      have HA2 := Lib.hid (show ∀ ad, A2 = some ad → ¬ G.own ad.block from fun ad e h => by
        subst e
        have h1 := (Hwo.out.lt rfl).1
        have h2 := (Hown.out _ h).2
        exact Nat.lt_irrefl _ (Nat.lt_of_lt_of_le (Nat.lt_trans h2 hbl) h1))
      clear hDa hLa hBa
      rcases Nat.lt_or_ge i M with hiM | hiM
      · obtain ⟨ad1, u1, hA2, had1, hu1, hcl1⟩ := Hr.out.at_ hiM
        subst hA2
        have hu1' := ints_get hu1
        subst hu1'
        have hcl3 := (mv_cell (hmv.out.trans Hma.out) (by rw [block_of_add]; exact had1) (fun e => e)).trans hcl1
        clear hu1 hcl1 had1
        generalize ys.getD i 0 = z at hcl3
        by_cases hz : z < 64 ∨ 255 < z
        · have z3 : (i : Int) < (M : Int) := by omega
          by_cases z1 : z < 64
          · have hsz := Hma.out.size
            have hmg : ∀ w9, wa.grownBy w9 (Value.slice A2 K c2).ownBlock → Mv (fun b => (Value.slice A2 K c2).ownBlock = some b) wa w9 := fun w9 h => (Mv.refl _ wa).grown h (fun g e _ => e)
            have hng : ∀ b, b < wr.heap.size → ¬ (Value.slice A2 K c2).ownBlock = some b := fun b hb e => by have := (Hwo.out.lt e).1; omega
            have Hmg := Lib.hid hmg
            have Hng := Lib.hid hng
            clear hmg hng
            go_wp2_with (first
              | (at_builtin; refine wpList_pushW wa rfl (.tmp 56) (.tmp 59) rfl wr.heap.size A2 K c2 (wrs (zs i) m K) (wrs_len _ _ _) rfl Hwo.out (z, 9) 1 rfl (by omega) hsz ?_; intro g cp w9 hwo9 hg9 hs9 hat9; have Hwo9 := Lib.hid hwo9; have Hg9 := Lib.hid hg9; clear hwo9 hg9 hs9 hat9)
              | fail)
            have m9 := Hmg.out _ Hg9.out
            have hD9 := dev_turn HDa.out hpl.out.calm m9 (fun b hb => Hng.out b (Nat.lt_trans (Hown.out b hb).2 hbl))
            have hL9 := Blk.mv HLa.out m9 (Hng.out lg (Nat.lt_trans Hlg.out.2.1 hbl))
            have hB9 := HBa.out.mv m9 (Hng.out b7 hbl)
            have HM9 := Lib.hid (mv_none HMa.out m9 (fun b hb => Hng.out b (by have := hmv.out.size; omega)))
            have hg9 : ¬ G.own g := fun e => by
              have h1 := (Hwo9.out.lt rfl).1
              have h2 := (Hown.out _ e).2
              exact Nat.lt_irrefl _ (Nat.lt_of_lt_of_le (Nat.lt_trans h2 hbl) h1)
            have hcv := wrs_bad (zs := zs i) (mark := m) (k := K) hz
            have Hc := Lib.hid (commit_whole w9 G.own G 256 s lg 0 64 (some ⟨g, 0, none⟩) cp (wrs (zs i) m K ++ [(z, 9)]) (K + 1) (by rw [List.length_append, wrs_len]; rfl) (by omega) hD9 hpl.out.calm.2.2 hL9 Hlg.out.2.2 (by decide) hpl.out.u (by have := hpl.out.steps; omega) hpl.out.fuse Hwo9.out.wr (fun ad e => by cases e; exact hg9) (fun p hp => by
              rcases List.mem_append.1 hp with hp | hp
              · exact wrs_val hm5 hK p hp
              · simp at hp; subst hp; exact ⟨(by decide : (0 : Int) ≤ 9), (by decide : (9 : Int) < 18446744073709551616)⟩))
            rw [commitD_no (by rw [hcv]; decide), hcv] at Hc
            have HL9 := Lib.hid hL9
            have HB9 := Lib.hid hB9
            clear m9 hD9 hL9 hB9 hg9 hcv HMa HDa HLa HBa HA2 Hwo9
            refine Hc.out.mono ?_
            rintro e wb ⟨rfl, hDb, hMb⟩
            have HDb := Lib.hid hDb
            have HLb := Lib.hid (Blk.mv HL9.out hMb Hlg.out.2.2)
            have hBb := HB9.out.mv hMb (fun e => by have := (Hown.out _ e).2; omega)
            have HBb := Lib.hid hBb
            have HMb := Lib.hid (mv_none HM9.out hMb (fun b hb e => by have := (Hown.out b e).1; omega))
            have Ht := Lib.hid (tells_any wb G.own G s f hDb hpl.out.calm.2.2 hpl.out.calm.2.1)
            rw [tB_all (fun j hj _ => hpl.out.same j hj)] at Ht
            clear hDb hMb Hc HL9 HB9 HM9
            go_wp2_with (first
              | (refine wpList_loadA rfl (.tmp 7) rfl b7 rfl f hBb ?_)
              | fail)
            refine Ht.out.mono ?_
            rintro e we ⟨rfl, hMe⟩
            have HMe := Lib.hid hMe
            clear hMe Ht hBb
            go_wp2_with fail
            refine ⟨⟨i + 1, s, f, by go_num, by omega, by omega, Lib.hid (hpl.out.le (Nat.le_succ i)), Lib.hid (dev_turn HDb.out hpl.out.calm HMe.out (fun _ _ e => e)), Lib.hid (Blk.mv HLb.out HMe.out (fun e => e)), Lib.hid (HBb.out.mv HMe.out (fun e => e)), Lib.hid (HMb.out.trans HMe.out)⟩, ?_⟩
            show 20 - ((i : Int) + 1).toNat < 20 - ((i : Int)).toNat
            omega
          · have z2 : 255 < z := by omega
            have hsz := Hma.out.size
            have hmg : ∀ w9, wa.grownBy w9 (Value.slice A2 K c2).ownBlock → Mv (fun b => (Value.slice A2 K c2).ownBlock = some b) wa w9 := fun w9 h => (Mv.refl _ wa).grown h (fun g e _ => e)
            have hng : ∀ b, b < wr.heap.size → ¬ (Value.slice A2 K c2).ownBlock = some b := fun b hb e => by have := (Hwo.out.lt e).1; omega
            have Hmg := Lib.hid hmg
            have Hng := Lib.hid hng
            clear hmg hng
            go_wp2_with (first
              | (at_builtin; refine wpList_pushW wa rfl (.tmp 56) (.tmp 59) rfl wr.heap.size A2 K c2 (wrs (zs i) m K) (wrs_len _ _ _) rfl Hwo.out (z, 9) 1 rfl (by omega) hsz ?_; intro g cp w9 hwo9 hg9 hs9 hat9; have Hwo9 := Lib.hid hwo9; have Hg9 := Lib.hid hg9; clear hwo9 hg9 hs9 hat9)
              | fail)
            have m9 := Hmg.out _ Hg9.out
            have hD9 := dev_turn HDa.out hpl.out.calm m9 (fun b hb => Hng.out b (Nat.lt_trans (Hown.out b hb).2 hbl))
            have hL9 := Blk.mv HLa.out m9 (Hng.out lg (Nat.lt_trans Hlg.out.2.1 hbl))
            have hB9 := HBa.out.mv m9 (Hng.out b7 hbl)
            have HM9 := Lib.hid (mv_none HMa.out m9 (fun b hb => Hng.out b (by have := hmv.out.size; omega)))
            have hg9 : ¬ G.own g := fun e => by
              have h1 := (Hwo9.out.lt rfl).1
              have h2 := (Hown.out _ e).2
              exact Nat.lt_irrefl _ (Nat.lt_of_lt_of_le (Nat.lt_trans h2 hbl) h1)
            have hcv := wrs_bad (zs := zs i) (mark := m) (k := K) hz
            have Hc := Lib.hid (commit_whole w9 G.own G 256 s lg 0 64 (some ⟨g, 0, none⟩) cp (wrs (zs i) m K ++ [(z, 9)]) (K + 1) (by rw [List.length_append, wrs_len]; rfl) (by omega) hD9 hpl.out.calm.2.2 hL9 Hlg.out.2.2 (by decide) hpl.out.u (by have := hpl.out.steps; omega) hpl.out.fuse Hwo9.out.wr (fun ad e => by cases e; exact hg9) (fun p hp => by
              rcases List.mem_append.1 hp with hp | hp
              · exact wrs_val hm5 hK p hp
              · simp at hp; subst hp; exact ⟨(by decide : (0 : Int) ≤ 9), (by decide : (9 : Int) < 18446744073709551616)⟩))
            rw [commitD_no (by rw [hcv]; decide), hcv] at Hc
            have HL9 := Lib.hid hL9
            have HB9 := Lib.hid hB9
            clear m9 hD9 hL9 hB9 hg9 hcv HMa HDa HLa HBa HA2 Hwo9
            refine Hc.out.mono ?_
            rintro e wb ⟨rfl, hDb, hMb⟩
            have HDb := Lib.hid hDb
            have HLb := Lib.hid (Blk.mv HL9.out hMb Hlg.out.2.2)
            have hBb := HB9.out.mv hMb (fun e => by have := (Hown.out _ e).2; omega)
            have HBb := Lib.hid hBb
            have HMb := Lib.hid (mv_none HM9.out hMb (fun b hb e => by have := (Hown.out b e).1; omega))
            have Ht := Lib.hid (tells_any wb G.own G s f hDb hpl.out.calm.2.2 hpl.out.calm.2.1)
            rw [tB_all (fun j hj _ => hpl.out.same j hj)] at Ht
            clear hDb hMb Hc HL9 HB9 HM9
            go_wp2_with (first
              | (refine wpList_loadA rfl (.tmp 7) rfl b7 rfl f hBb ?_)
              | fail)
            refine Ht.out.mono ?_
            rintro e we ⟨rfl, hMe⟩
            have HMe := Lib.hid hMe
            clear hMe Ht hBb
            go_wp2_with fail
            refine ⟨⟨i + 1, s, f, by go_num, by omega, by omega, Lib.hid (hpl.out.le (Nat.le_succ i)), Lib.hid (dev_turn HDb.out hpl.out.calm HMe.out (fun _ _ e => e)), Lib.hid (Blk.mv HLb.out HMe.out (fun e => e)), Lib.hid (HBb.out.mv HMe.out (fun e => e)), Lib.hid (HMb.out.trans HMe.out)⟩, ?_⟩
            show 20 - ((i : Int) + 1).toNat < 20 - ((i : Int)).toNat
            omega
        · have z1 : ¬ z < 64 := fun e => hz (.inl e)
          have z2 : ¬ 255 < z := fun e => hz (.inr e)
          have z3 : (i : Int) < (M : Int) := by omega
          clear hz
          go_wp2_with fail
          have Hc := Lib.hid (commit_whole wa G.own G 256 s lg 0 64 A2 c2 (wrs (zs i) m K) K (wrs_len _ _ _) (by omega) HDa.out hpl.out.calm.2.2 HLa.out Hlg.out.2.2 (by decide) hpl.out.u (by have := hpl.out.steps; omega) hpl.out.fuse Hwo.out.wr HA2.out (wrs_val hm5 hK))
          rw [wrs_v hK] at Hc
          refine Hc.out.mono ?_
          rintro e wb ⟨rfl, hDb, hMb⟩
          have hpl2 := Lib.hid (hpl.out.commit (zs := zs i) hm5 hK)
          have Hdn := Lib.hid (done_any wb A2 K c2 wr.heap.size (wrs (zs i) m K) f (Hwo.out.mv hMb (fun x hx h => by have h1 := (Hwo.out.lt hx).1; have h2 := (Hown.out _ h).2; omega)) (wrs_len _ _ _) (by omega) (fun p hp => by have := wrs_mem hp; omega))
          have HDb := Lib.hid hDb
          have HLb := Lib.hid (Blk.mv HLa.out hMb Hlg.out.2.2)
          have hBb := HBa.out.mv hMb (fun e => by have := (Hown.out _ e).2; omega)
          have HMb := Lib.hid (mv_none HMa.out hMb (fun b hb e => by have := (Hown.out b e).1; omega))
          generalize (commitD 256 0 64 (wrs (zs i) m K) s).1 = s2 at hpl2 HDb
          generalize puts f (nat2 (wrs (zs i) m K)) = f2 at hpl2 Hdn
          clear hDb hMb Hc HDa HLa HBa HA2 Hwo HMa Hma
          go_wp2_with (first
            | (refine wpList_loadA rfl (.tmp 7) rfl b7 rfl f hBb ?_)
            | fail)
          refine Hdn.out.mono ?_
          rintro e wc ⟨rfl, hMc⟩
          have hBc := hBb.mv hMc (fun e => e)
          have HMc := Lib.hid hMc
          clear hMc Hdn hBb
          go_wp2_with (first
            | (refine wpList_storeA rfl (.tmp 7) (.tmp 66) rfl b7 rfl f f2 rfl hBc ?_; intro wd hBd hMd hsd; have HBd := Lib.hid hBd; have HMd := Lib.hid hMd; clear hMd hsd)
            | (refine wpList_loadA rfl (.tmp 7) rfl b7 rfl f2 hBd ?_)
            | fail)
          have hDc := dev_turn HDb.out hpl2.out.calm HMc.out (fun _ _ e => e)
          have hnb : ∀ b, G.own b → ¬ b = b7 := fun b hb e => by have := (Hown.out b hb).2; omega
          have hDd := dev_turn hDc hpl2.out.calm HMd.out hnb
          have Ht := Lib.hid (tells_any wd G.own G s2 f2 hDd hpl2.out.calm.2.2 hpl2.out.calm.2.1)
          rw [tB_all (fun j hj _ => hpl2.out.same j hj)] at Ht
          have HDd := Lib.hid hDd
          have HLd := Lib.hid (Blk.mv (Blk.mv HLb.out HMc.out (fun e => e)) HMd.out (fun e => by have := Hlg.out.2.1; omega))
          have HMd2 := Lib.hid (mv_none (HMb.out.trans HMc.out) HMd.out (fun b hb e => by have := Hb7.out; omega))
          clear hDc hDd hnb hBd hBc HDb HLb HMb HMc HMd
          refine Ht.out.mono ?_
          rintro e we ⟨rfl, hMe⟩
          have HMe := Lib.hid hMe
          clear hMe Ht
          go_wp2_with fail
          refine ⟨⟨i + 1, s2, f2, by go_num, by omega, by omega, hpl2, Lib.hid (dev_turn HDd.out hpl2.out.calm HMe.out (fun _ _ e => e)), Lib.hid (Blk.mv HLd.out HMe.out (fun e => e)), Lib.hid (HBd.out.mv HMe.out (fun e => e)), Lib.hid (HMd2.out.trans HMe.out)⟩, ?_⟩
          show 20 - ((i : Int) + 1).toNat < 20 - ((i : Int)).toNat
          omega
      · have z3 : ¬ (i : Int) < (M : Int) := by omega
        go_wp2_with fail
        have Hc := Lib.hid (commit_whole wa G.own G 256 s lg 0 64 A2 c2 (wrs (zs i) m K) K (wrs_len _ _ _) (by omega) HDa.out hpl.out.calm.2.2 HLa.out Hlg.out.2.2 (by decide) hpl.out.u (by have := hpl.out.steps; omega) hpl.out.fuse Hwo.out.wr HA2.out (wrs_val hm5 hK))
        rw [wrs_v hK] at Hc
        refine Hc.out.mono ?_
        rintro e wb ⟨rfl, hDb, hMb⟩
        have hpl2 := Lib.hid (hpl.out.commit (zs := zs i) hm5 hK)
        have Hdn := Lib.hid (done_any wb A2 K c2 wr.heap.size (wrs (zs i) m K) f (Hwo.out.mv hMb (fun x hx h => by have h1 := (Hwo.out.lt hx).1; have h2 := (Hown.out _ h).2; omega)) (wrs_len _ _ _) (by omega) (fun p hp => by have := wrs_mem hp; omega))
        have HDb := Lib.hid hDb
        have HLb := Lib.hid (Blk.mv HLa.out hMb Hlg.out.2.2)
        have hBb := HBa.out.mv hMb (fun e => by have := (Hown.out _ e).2; omega)
        have HMb := Lib.hid (mv_none HMa.out hMb (fun b hb e => by have := (Hown.out b e).1; omega))
        generalize (commitD 256 0 64 (wrs (zs i) m K) s).1 = s2 at hpl2 HDb
        generalize puts f (nat2 (wrs (zs i) m K)) = f2 at hpl2 Hdn
        clear hDb hMb Hc HDa HLa HBa HA2 Hwo HMa Hma
        go_wp2_with (first
          | (refine wpList_loadA rfl (.tmp 7) rfl b7 rfl f hBb ?_)
          | fail)
        refine Hdn.out.mono ?_
        rintro e wc ⟨rfl, hMc⟩
        have hBc := hBb.mv hMc (fun e => e)
        have HMc := Lib.hid hMc
        clear hMc Hdn hBb
        go_wp2_with (first
          | (refine wpList_storeA rfl (.tmp 7) (.tmp 66) rfl b7 rfl f f2 rfl hBc ?_; intro wd hBd hMd hsd; have HBd := Lib.hid hBd; have HMd := Lib.hid hMd; clear hMd hsd)
          | (refine wpList_loadA rfl (.tmp 7) rfl b7 rfl f2 hBd ?_)
          | fail)
        have hDc := dev_turn HDb.out hpl2.out.calm HMc.out (fun _ _ e => e)
        have hnb : ∀ b, G.own b → ¬ b = b7 := fun b hb e => by have := (Hown.out b hb).2; omega
        have hDd := dev_turn hDc hpl2.out.calm HMd.out hnb
        have Ht := Lib.hid (tells_any wd G.own G s2 f2 hDd hpl2.out.calm.2.2 hpl2.out.calm.2.1)
        rw [tB_all (fun j hj _ => hpl2.out.same j hj)] at Ht
        have HDd := Lib.hid hDd
        have HLd := Lib.hid (Blk.mv (Blk.mv HLb.out HMc.out (fun e => e)) HMd.out (fun e => by have := Hlg.out.2.1; omega))
        have HMd2 := Lib.hid (mv_none (HMb.out.trans HMc.out) HMd.out (fun b hb e => by have := Hb7.out; omega))
        clear hDc hDd hnb hBd hBc HDb HLb HMb HMc HMd
        refine Ht.out.mono ?_
        rintro e we ⟨rfl, hMe⟩
        have HMe := Lib.hid hMe
        clear hMe Ht
        go_wp2_with fail
        refine ⟨⟨i + 1, s2, f2, by go_num, by omega, by omega, hpl2, Lib.hid (dev_turn HDd.out hpl2.out.calm HMe.out (fun _ _ e => e)), Lib.hid (Blk.mv HLd.out HMe.out (fun e => e)), Lib.hid (HBd.out.mv HMe.out (fun e => e)), Lib.hid (HMd2.out.trans HMe.out)⟩, ?_⟩
        show 20 - ((i : Int) + 1).toNat < 20 - ((i : Int)).toNat
        omega
    · have Hp := Lib.hid (powerN wr G.own G 256 s hdv.out)
      have Hb := hb
      clear hdv hlg hb
      rcases Nat.lt_or_ge i n with hlt | hge
      · have h100 : ¬ (i : Int) < 20 := by omega
        go_wp2_with fail
        refine Hp.out.mono ?_
        rintro e w5 ⟨rfl, hD5, hM5⟩
        have hB5 := Hb.out.mv hM5 (fun e => by have := (Hown.out _ e).2; omega)
        have Ht := Lib.hid (tells_any w5 G.own G _ f hD5 rfl (fun _ => rfl))
        rw [tB_all (fun j hj _ => by rw [power_calm hpl.out.calm]; exact hpl.out.same j hj)] at Ht
        have M5 := Lib.hid (mv_none hmv.out hM5 (fun b hb e => by have := (Hown.out b e).1; omega))
        clear hD5 hM5 Hp
        go_wp2_with (first
          | (refine wpList_loadA rfl (.tmp 7) rfl b7 rfl f hB5 ?_)
          | fail)
        refine Ht.out.mono ?_
        rintro e we ⟨rfl, hMe⟩
        have HMe := Lib.hid hMe
        clear hMe Ht
        go_wp2_with fail
        go_ret
        exact ⟨by simp, M5.out.trans HMe.out⟩
      · have hnl : ¬ (i : Int) < (n : Int) := by omega
        go_wp2_with fail
        refine Hp.out.mono ?_
        rintro e w5 ⟨rfl, hD5, hM5⟩
        have hB5 := Hb.out.mv hM5 (fun e => by have := (Hown.out _ e).2; omega)
        have Ht := Lib.hid (tells_any w5 G.own G _ f hD5 rfl (fun _ => rfl))
        rw [tB_all (fun j hj _ => by rw [power_calm hpl.out.calm]; exact hpl.out.same j hj)] at Ht
        have M5 := Lib.hid (mv_none hmv.out hM5 (fun b hb e => by have := (Hown.out b e).1; omega))
        clear hD5 hM5 Hp
        go_wp2_with (first
          | (refine wpList_loadA rfl (.tmp 7) rfl b7 rfl f hB5 ?_)
          | fail)
        refine Ht.out.mono ?_
        rintro e we ⟨rfl, hMe⟩
        have HMe := Lib.hid hMe
        clear hMe Ht
        go_wp2_with fail
        go_ret
        exact ⟨by simp, M5.out.trans HMe.out⟩
end Go.Proofs.Ytdphillobnlpaaa
