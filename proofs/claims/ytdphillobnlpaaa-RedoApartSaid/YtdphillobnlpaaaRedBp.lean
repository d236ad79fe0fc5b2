/- redo: RedoBounds: the walk where Open goes on. Printed by bp.py. -/
import Derived.Test.YtdphillobnlpaaaRedBo
namespace Go.Proofs.Ytdphillobnlpaaa
open Go.RowKit
set_option linter.unusedVariables false
theorem noughts_home (n at_ words : Nat) : (runS (homeL noughts.now n at_ words) noughts).1 = noughts := by rw [home_noughts]
theorem hgd {k : Nat} (h : 16 ≤ k ∧ k ≤ 256) : 16 ≤ k ∧ 0 + k ≤ 256 ∧ 0 % 8 = 0 := ⟨h.1, by omega, rfl⟩
/-- Two openings: the first goes on, the second has no device. -/
theorem open_new (w : World) (G : Dv) (a k : Nat) (hg : 16 ≤ k ∧ a + k ≤ 256 ∧ a % 8 = 0) (hA : DevA w G.own G 256 noughts) : Calls Try.prog 21 #[.pointer (some ⟨G.d, 0, none⟩), .int .i64 (a : Int), .int .i64 (k : Int)] w fun e w' => ∃ lg, w.heap.size ≤ lg ∧ e = .returned (.tuple #[.pointer (some ⟨lg, 0, none⟩), .int .i64 0]) ∧ Lg w' lg G a k ∧ DevA w' G.own G 256 noughts ∧ Mv G.own w w' := by
  refine (open_whole w G.own G 256 noughts a k hA rfl hg u64_zero (by decide) rfl).mono ?_
  rw [noughts_home]
  exact fun _ _ h => h
set_option maxRecDepth 100000 in
set_option maxHeartbeats 8000000 in
theorem bounds_big (w : World) (a k : Nat) (n : Int) (hk : 240 < k) (hg : 16 ≤ k ∧ a + k ≤ 256 ∧ a % 8 = 0) : Calls Try.prog 5 #[.int .i64 (a : Int), .int .i64 (k : Int), .int .i64 n] w fun e w' => e = .returned (.bool true) ∧ Mv (fun _ => False) w w' := by
  have HG := Lib.hid hg
  have f1 : (0 : Int) ≤ (a : Int) := by omega
  have f2 : (a : Int) % 8 = 0 := by omega
  have f3 : (a : Int) ≤ 256 := by omega
  have f4 : (16 : Int) ≤ (k : Int) := by omega
  have f5 : (k : Int) ≤ 256 - (a : Int) := by omega
  have f6 := wrap_small (z := 256 - (a : Int)) (by omega) (by omega)
  clear hg
  have f7 : (240 : Int) < (k : Int) := by omega
  clear hk
  go_enter Try.func5, Try.ntmps5
  go_wp2_with fail
  refine (new_any w 256 (by decide)).mono ?_
  rintro e w1 ⟨G, rfl, hF, hD, hM⟩
  have Ho := Lib.hid (open_new w1 G a k HG.out (devA_of hD))
  have HA0 := Lib.hid hM.size
  have HA1 := Lib.hid (show ∀ b, G.own b → b < w1.heap.size from (devA_of hD).own_lt2)
  have HM := Lib.hid hM
  have HF := Lib.hid hF
  clear hD hM hF
  go_wp2_with fail
  refine Ho.out.mono ?_
  rintro e w2 ⟨lg, hlg, rfl, hL, hD2, hM2⟩
  have Hlo := Lib.hid (show ¬ G.own lg from fun e => Nat.lt_irrefl _ (Nat.lt_of_lt_of_le (HA1.out _ e) hlg))
  have HL := Lib.hid hL
  have HD2 := Lib.hid hD2
  have HM2 := Lib.hid (mv_none HM.out hM2 (fun b hb e => by have := HF.out.own b e; omega))
  clear hL hD2 hM2 Ho hlg HM
  go_wp2_with fail
  refine (open_nil _ a k).mono ?_
  rintro e w3 ⟨rfl, rfl⟩
  go_wp2_with fail
  refine (awake6_any _).mono ?_
  rintro e w3 ⟨rfl, hm⟩
  have Hm := Lib.hid hm
  clear hm
  go_wp2_with fail
  go_ret
  exact ⟨by simp, HM2.out.trans Hm.out⟩
set_option maxRecDepth 100000 in
set_option maxHeartbeats 8000000 in
theorem bounds_head (w : World) (k : Nat) (n : Int) (hk : k ≤ 240) (hg : 16 ≤ k ∧ k ≤ 256) : Calls Try.prog 5 #[.int .i64 (0 : Int), .int .i64 (k : Int), .int .i64 n] w fun e w' => e = .returned (.bool true) ∧ Mv (fun _ => False) w w' := by
  have HG := Lib.hid hg
  have f5 : (k : Int) ≤ 256 := by omega
  have f4 : (16 : Int) ≤ (k : Int) := by omega
  clear hg
  have f7 : (k : Int) ≤ 240 := by omega
  obtain ⟨N, hN, hmask⟩ := mask n 127 (by decide)
  have hmk : bits .and .i64 n 127 = (N : Int) := hmask
  clear hmask hk
  obtain ⟨x, hx⟩ : ∃ x, k = 16 + x := ⟨k - 16, by omega⟩
  have f8 : IntKind.i64.wrap ((k : Int) - 16) = (x : Int) := by rw [wrap_small (by omega) (by omega)]; omega
  have f9 : wrap64 ((x / 2 : Nat) : Int) = ((x / 2 : Nat) : Int) := IntWalk.wrap64_in _ (by omega)
  have f9' : (x : Int).tdiv 2 = ((x / 2 : Nat) : Int) := by rw [Int.tdiv_eq_ediv_of_nonneg (by omega)]; omega
  have Hx := Lib.hid (show (k - 16) / 2 = x / 2 by omega)
  have Hx2 := Lib.hid hx
  clear hx
  generalize x / 2 = m at f9 f9' Hx
  have HOW := Lib.hid (show 255 < 256 ∧ ¬ (0 ≤ 255 ∧ 255 < 0 + k) by omega)
  have f10 : (k : Int) ≤ 255 := by omega
  go_enter Try.func5, Try.ntmps5
  go_wp2_with fail
  refine (new_any w 256 (by decide)).mono ?_
  rintro e w1 ⟨G, rfl, hF, hD, hM⟩
  have Ho := Lib.hid (open_new w1 G 0 k (hgd HG.out) (devA_of hD))
  have HA0 := Lib.hid hM.size
  have HA1 := Lib.hid (show ∀ b, G.own b → b < w1.heap.size from (devA_of hD).own_lt2)
  have HM := Lib.hid hM
  have HF := Lib.hid hF
  clear hD hM hF
  go_wp2_with fail
  refine Ho.out.mono ?_
  rintro e w2 ⟨lg, hlg, rfl, hL, hD2, hM2⟩
  have Hlo := Lib.hid (show ¬ G.own lg from fun e => Nat.lt_irrefl _ (Nat.lt_of_lt_of_le (HA1.out _ e) hlg))
  have HL := Lib.hid hL
  have HD2 := Lib.hid hD2
  have HM2 := Lib.hid (mv_none HM.out hM2 (fun b hb e => by have := HF.out.own b e; omega))
  clear hL hD2 hM2 Ho hlg HM
  go_wp2_with fail
  refine (open_nil _ 0 k).mono ?_
  rintro e w3 ⟨rfl, rfl⟩
  go_wp2_with fail
  try rw [f9]
  skip
  try rw [f12]
  go_loopw [16, 17] (fun v16 v17 wr => ∃ (A5 : Option Addr) (c5 i : Nat), v16 = .slice A5 i c5 ∧ v17 = .int .i64 (i : Int) ∧ i ≤ N ∧ Hid (WO wr w3.heap.size (.slice A5 i c5) (bw 255 i)) ∧ Hid (Mv (fun _ => False) w3 wr))
    (fun _ v17 _ => N - (intOf v17).toNat)
  case atStart => exact ⟨none, 0, 0, rfl, rfl, Nat.zero_le _, Lib.hid (WO.nil _ _), Lib.hid (Mv.refl _ _)⟩
  case round =>
    obtain ⟨A5, c5, i, rfl, rfl, hiN, hwo, hmv⟩ := hrel
    rcases Nat.lt_or_ge i N with hlt | hge
    · have hix := Lib.hid (bw_succ 255 i)
      have hwi := wrap_small (z := (i : Int) + 1) (by omega) (by omega)
      have hwu : IntKind.u64.wrap ((i : Int) + 1) = (i : Int) + 1 := IntWalk.u64_in _ (by omega)
      have hsz := hmv.out.size
      go_wp2_with (first
        | (at_builtin; refine wpList_pushW wr rfl (.tmp 101) (.tmp 107) rfl w3.heap.size A5 i c5 (bw 255 i) (bw_len _ _) rfl hwo.out ((255 : Int), (i : Int) + 1) 1 rfl (by omega) hsz ?_; intro g cp w9 hwo9 hg9 hs9 hat9; have Hwo9 := Lib.hid hwo9; have Hg9 := Lib.hid hg9; clear hwo9 hg9 hs9 hat9)
        | fail)
      refine ⟨⟨some ⟨g, 0, none⟩, cp, i + 1, rfl, by go_num, by omega, Lib.hid ?_, Lib.hid ?_⟩, ?_⟩
      · rw [hix.out]
        exact Hwo9.out
      · exact mv_none hmv.out ((Mv.refl (fun b => (Value.slice A5 i c5).ownBlock = some b) wr).grown Hg9.out (fun g e _ => e)) (fun b hb e => by have := (hwo.out.lt e).1; omega)
      · show N - ((i : Int) + 1).toNat < N - ((i : Int)).toNat
        omega
    · have e := Lib.hid (show i = N by omega)
      have hD3 := HD2.out.keep hmv.out (fun _ e => e.elim) (fun _ _ e => e)
      have hL3 := Blk.mv HL.out hmv.out (fun e => e)
      have hwr := hwo.out.wr
      have hA5 : ∀ ad, A5 = some ad → ¬ G.own ad.block := fun ad e1 h => by
        subst e1
        have h1 := (hwo.out.lt rfl).1
        have h2 := HD2.out.own_lt2 _ h
        exact Nat.lt_irrefl _ (Nat.lt_of_lt_of_le h2 h1)
      have Hc := Lib.hid (commit_whole wr G.own G 256 noughts lg 0 k A5 c5 (bw 255 i) i (bw_len _ _) (by omega) hD3 rfl hL3 Hlo.out ⟨(hgd HG.out).1, (hgd HG.out).2.1⟩ u64_zero (by decide) rfl hwr hA5 (bw_val _ _ (by omega)))
      have Hn := Lib.hid (bw_now (N := i) calm_noughts u64_zero rfl rfl rfl (hgd HG.out) HOW.out (by omega))
      have Hv := Lib.hid (bw_v 0 k 255 i HOW.out)
      rw [Hx.out] at Hn Hv
      clear hD3 hwr hA5
      go_wp2_with fail
      refine Hc.out.mono ?_
      rintro e w4 ⟨rfl, hD4, hM4⟩
      have Hm1 := Lib.hid (most_any (Blk.mv hL3 hM4 Hlo.out) ⟨(hgd HG.out).1, by omega⟩)
      rw [Hx.out] at Hm1
      have Hld := Lib.hid (load_ok w4 G.own G 256 _ 255 hD4.1 (by decide) Hn.out.2)
      rw [show ((255 : Int)).toNat = 255 from rfl, Hn.out.1] at Hld
      have M4 := Lib.hid (mv_none (mv_none HM2.out hmv.out (fun _ _ e => e)) hM4 (fun b hb e => by have := HF.out.own b e; have := HA0.out; omega))
      rw [Hv.out]
      have hu : IntKind.u64.wrap (i : Int) = (i : Int) := IntWalk.u64_in _ (by omega)
      clear hD4 hM4 Hc Hv Hn hL3 HL HD2 HM2
      by_cases hb : m < i
      · rw [if_pos hb] at Hld
        rw [if_pos hb]
        have hb' : (m : Int) < (N : Int) := by omega
        go_wp2_with (first
          | (with_reducible refine Hm1.out.mono ?_; rintro e w' ⟨rfl, rfl⟩)
          | (with_reducible refine Hld.out.mono ?_; rintro e w' ⟨rfl, rfl⟩)
          | fail)
        refine (awake6_any _).mono ?_
        rintro e w5 ⟨rfl, hm⟩
        have Hm := Lib.hid hm
        clear hm
        go_wp2_with fail
        go_ret
        exact ⟨by simp, M4.out.trans Hm.out⟩
      · rw [if_neg hb] at Hld
        rw [if_neg hb]
        have hb' : ¬ (m : Int) < (N : Int) := by omega
        rw [e.out] at Hld hu
        go_wp2_with (first
          | (with_reducible refine Hm1.out.mono ?_; rintro e w' ⟨rfl, rfl⟩)
          | (with_reducible refine Hld.out.mono ?_; rintro e w' ⟨rfl, rfl⟩)
          | fail)
        refine (awake6_any _).mono ?_
        rintro e w5 ⟨rfl, hm⟩
        have Hm := Lib.hid hm
        clear hm
        go_wp2_with fail
        go_ret
        exact ⟨by simp, M4.out.trans Hm.out⟩
set_option maxRecDepth 100000 in
set_option maxHeartbeats 8000000 in
theorem bounds_mid (w : World) (a k : Nat) (n : Int) (hk : k ≤ 240) (ha : 8 ≤ a) (hg : 16 ≤ k ∧ a + k ≤ 256 ∧ a % 8 = 0) : Calls Try.prog 5 #[.int .i64 (a : Int), .int .i64 (k : Int), .int .i64 n] w fun e w' => e = .returned (.bool true) ∧ Mv (fun _ => False) w w' := by
  have HG := Lib.hid hg
  have f1 : (0 : Int) ≤ (a : Int) := by omega
  have f2 : (a : Int) % 8 = 0 := by omega
  have f3 : (a : Int) ≤ 256 := by omega
  have f4 : (16 : Int) ≤ (k : Int) := by omega
  have f5 : (k : Int) ≤ 256 - (a : Int) := by omega
  have f6 := wrap_small (z := 256 - (a : Int)) (by omega) (by omega)
  clear hg
  have f7 : (k : Int) ≤ 240 := by omega
  obtain ⟨N, hN, hmask⟩ := mask n 127 (by decide)
  have hmk : bits .and .i64 n 127 = (N : Int) := hmask
  clear hmask hk
  obtain ⟨x, hx⟩ : ∃ x, k = 16 + x := ⟨k - 16, by omega⟩
  have f8 : IntKind.i64.wrap ((k : Int) - 16) = (x : Int) := by rw [wrap_small (by omega) (by omega)]; omega
  have f9 : wrap64 ((x / 2 : Nat) : Int) = ((x / 2 : Nat) : Int) := IntWalk.wrap64_in _ (by omega)
  have f9' : (x : Int).tdiv 2 = ((x / 2 : Nat) : Int) := by rw [Int.tdiv_eq_ediv_of_nonneg (by omega)]; omega
  have Hx := Lib.hid (show (k - 16) / 2 = x / 2 by omega)
  have Hx2 := Lib.hid hx
  clear hx
  generalize x / 2 = m at f9 f9' Hx
  have f10 : ¬ (0 : Int) ≥ (a : Int) := by omega
  have f11 : ¬ (a : Int) = 0 := by omega
  have f12 : ((a : Int) == 0) = false := beq_eq_false_iff_ne.2 f11
  have HOW := Lib.hid (show 0 < 256 ∧ ¬ (a ≤ 0 ∧ 0 < a + k) by omega)
  clear ha
  go_enter Try.func5, Try.ntmps5
  go_wp2_with fail
  refine (new_any w 256 (by decide)).mono ?_
  rintro e w1 ⟨G, rfl, hF, hD, hM⟩
  have Ho := Lib.hid (open_new w1 G a k HG.out (devA_of hD))
  have HA0 := Lib.hid hM.size
  have HA1 := Lib.hid (show ∀ b, G.own b → b < w1.heap.size from (devA_of hD).own_lt2)
  have HM := Lib.hid hM
  have HF := Lib.hid hF
  clear hD hM hF
  go_wp2_with fail
  refine Ho.out.mono ?_
  rintro e w2 ⟨lg, hlg, rfl, hL, hD2, hM2⟩
  have Hlo := Lib.hid (show ¬ G.own lg from fun e => Nat.lt_irrefl _ (Nat.lt_of_lt_of_le (HA1.out _ e) hlg))
  have HL := Lib.hid hL
  have HD2 := Lib.hid hD2
  have HM2 := Lib.hid (mv_none HM.out hM2 (fun b hb e => by have := HF.out.own b e; omega))
  clear hL hD2 hM2 Ho hlg HM
  go_wp2_with fail
  refine (open_nil _ a k).mono ?_
  rintro e w3 ⟨rfl, rfl⟩
  go_wp2_with fail
  try rw [f9]
  try rw [f2]
  try rw [f12]
  go_loopw [16, 17] (fun v16 v17 wr => ∃ (A5 : Option Addr) (c5 i : Nat), v16 = .slice A5 i c5 ∧ v17 = .int .i64 (i : Int) ∧ i ≤ N ∧ Hid (WO wr w3.heap.size (.slice A5 i c5) (bw 0 i)) ∧ Hid (Mv (fun _ => False) w3 wr))
    (fun _ v17 _ => N - (intOf v17).toNat)
  case atStart => exact ⟨none, 0, 0, rfl, rfl, Nat.zero_le _, Lib.hid (WO.nil _ _), Lib.hid (Mv.refl _ _)⟩
  case round =>
    obtain ⟨A5, c5, i, rfl, rfl, hiN, hwo, hmv⟩ := hrel
    rcases Nat.lt_or_ge i N with hlt | hge
    · have hix := Lib.hid (bw_succ 0 i)
      have hwi := wrap_small (z := (i : Int) + 1) (by omega) (by omega)
      have hwu : IntKind.u64.wrap ((i : Int) + 1) = (i : Int) + 1 := IntWalk.u64_in _ (by omega)
      have hsz := hmv.out.size
      go_wp2_with (first
        | (at_builtin; refine wpList_pushW wr rfl (.tmp 101) (.tmp 107) rfl w3.heap.size A5 i c5 (bw 0 i) (bw_len _ _) rfl hwo.out ((0 : Int), (i : Int) + 1) 1 rfl (by omega) hsz ?_; intro g cp w9 hwo9 hg9 hs9 hat9; have Hwo9 := Lib.hid hwo9; have Hg9 := Lib.hid hg9; clear hwo9 hg9 hs9 hat9)
        | fail)
      refine ⟨⟨some ⟨g, 0, none⟩, cp, i + 1, rfl, by go_num, by omega, Lib.hid ?_, Lib.hid ?_⟩, ?_⟩
      · rw [hix.out]
        exact Hwo9.out
      · exact mv_none hmv.out ((Mv.refl (fun b => (Value.slice A5 i c5).ownBlock = some b) wr).grown Hg9.out (fun g e _ => e)) (fun b hb e => by have := (hwo.out.lt e).1; omega)
      · show N - ((i : Int) + 1).toNat < N - ((i : Int)).toNat
        omega
    · have e := Lib.hid (show i = N by omega)
      have hD3 := HD2.out.keep hmv.out (fun _ e => e.elim) (fun _ _ e => e)
      have hL3 := Blk.mv HL.out hmv.out (fun e => e)
      have hwr := hwo.out.wr
      have hA5 : ∀ ad, A5 = some ad → ¬ G.own ad.block := fun ad e1 h => by
        subst e1
        have h1 := (hwo.out.lt rfl).1
        have h2 := HD2.out.own_lt2 _ h
        exact Nat.lt_irrefl _ (Nat.lt_of_lt_of_le h2 h1)
      have Hc := Lib.hid (commit_whole wr G.own G 256 noughts lg a k A5 c5 (bw 0 i) i (bw_len _ _) (by omega) hD3 rfl hL3 Hlo.out ⟨HG.out.1, HG.out.2.1⟩ u64_zero (by decide) rfl hwr hA5 (bw_val _ _ (by omega)))
      have Hn := Lib.hid (bw_now (N := i) calm_noughts u64_zero rfl rfl rfl HG.out HOW.out (by omega))
      have Hv := Lib.hid (bw_v a k 0 i HOW.out)
      rw [Hx.out] at Hn Hv
      clear hD3 hwr hA5
      go_wp2_with fail
      refine Hc.out.mono ?_
      rintro e w4 ⟨rfl, hD4, hM4⟩
      have Hm1 := Lib.hid (most_any (Blk.mv hL3 hM4 Hlo.out) ⟨HG.out.1, by omega⟩)
      rw [Hx.out] at Hm1
      have Hld := Lib.hid (load_ok w4 G.own G 256 _ 0 hD4.1 (by decide) Hn.out.2)
      rw [show ((0 : Int)).toNat = 0 from rfl, Hn.out.1] at Hld
      have M4 := Lib.hid (mv_none (mv_none HM2.out hmv.out (fun _ _ e => e)) hM4 (fun b hb e => by have := HF.out.own b e; have := HA0.out; omega))
      rw [Hv.out]
      have hu : IntKind.u64.wrap (i : Int) = (i : Int) := IntWalk.u64_in _ (by omega)
      clear hD4 hM4 Hc Hv Hn hL3 HL HD2 HM2
      by_cases hb : m < i
      · rw [if_pos hb] at Hld
        rw [if_pos hb]
        have hb' : (m : Int) < (N : Int) := by omega
        go_wp2_with (first
          | (with_reducible refine Hm1.out.mono ?_; rintro e w' ⟨rfl, rfl⟩)
          | (with_reducible refine Hld.out.mono ?_; rintro e w' ⟨rfl, rfl⟩)
          | fail)
        refine (awake6_any _).mono ?_
        rintro e w5 ⟨rfl, hm⟩
        have Hm := Lib.hid hm
        clear hm
        go_wp2_with fail
        go_ret
        exact ⟨by simp, M4.out.trans Hm.out⟩
      · rw [if_neg hb] at Hld
        rw [if_neg hb]
        have hb' : ¬ (m : Int) < (N : Int) := by omega
        rw [e.out] at Hld hu
        go_wp2_with (first
          | (with_reducible refine Hm1.out.mono ?_; rintro e w' ⟨rfl, rfl⟩)
          | (with_reducible refine Hld.out.mono ?_; rintro e w' ⟨rfl, rfl⟩)
          | fail)
        refine (awake6_any _).mono ?_
        rintro e w5 ⟨rfl, hm⟩
        have Hm := Lib.hid hm
        clear hm
        go_wp2_with fail
        go_ret
        exact ⟨by simp, M4.out.trans Hm.out⟩
end Go.Proofs.Ytdphillobnlpaaa
