/- redo: the law's Open and awake. -/
import Derived.Test.YtdphillobnlpaaaRedV
import Derived.BigQuiet
namespace Go.Proofs.Ytdphillobnlpaaa
open Go.RowKit
set_option linter.unusedVariables false
set_option maxRecDepth 100000 in
theorem need4 (w : World) : Calls Try.prog 45 #[.int .i64 4] w fun e w' => e = .returned (.int .i64 24) ∧ w' = w := by
  go_enter Try.func45, Try.ntmps45
  go_wp2_with fail
  go_ret
  exact ⟨by simp; decide, rfl⟩
set_option maxRecDepth 100000 in
theorem need3 (w : World) : Calls Try.prog 45 #[.int .i64 (-3)] w fun e w' => e = .returned (.int .i64 16) ∧ w' = w := by
  go_enter Try.func45, Try.ntmps45
  go_wp2_with fail
  go_ret
  exact ⟨by simp; decide, rfl⟩
/-- A world that a call found anew: nothing old turned, and a log lies on a device. -/
structure Opened (w w' : World) (G : Dv) (lg n at_ words : Nat) (s : DS) : Prop where
  fresh : Fresh w.heap.size G
  lgN : w.heap.size ≤ lg
  lgO : ¬ G.own lg
  dev : DevA w' G.own G n s
  lgL : Lg w' lg G at_ words
  mv : Mv (fun _ => False) w w'
theorem Fresh.le {B B' : Nat} {G : Dv} (h : Fresh B' G) (hB : B ≤ B') : Fresh B G := ⟨Nat.le_trans hB h.1, Nat.le_trans hB h.2.1, Nat.le_trans hB h.2.2.1, Nat.le_trans hB h.2.2.2⟩
theorem Fresh.own {B : Nat} {G : Dv} (h : Fresh B G) : ∀ b, G.own b → B ≤ b := by
  rintro b (rfl | rfl | rfl | rfl)
  · exact h.1
  · exact h.2.1
  · exact h.2.2.1
  · exact h.2.2.2
theorem mv_none {w w1 w2 : World} {S : Nat → Prop} (h : Mv (fun _ => False) w w1) (k : Mv S w1 w2) (hS : ∀ b, b < w.heap.size → ¬ S b) : Mv (fun _ => False) w w2 := h.trans' k (fun b hb e => (hS b hb e).elim)
theorem home_noughts (n at_ words : Nat) : runS (homeL noughts.now n at_ words) noughts = (noughts, true) := by
  have : homeL noughts.now n at_ words = [] := by unfold homeL noughts; simp
  rw [this]; rfl
set_option maxRecDepth 100000 in
set_option maxHeartbeats 4000000 in
theorem open6_any (w : World) : Calls Try.prog 9 #[] w fun e w' => ∃ G lg, e = .returned (.tuple #[.pointer (some ⟨G.d, 0, none⟩), .pointer (some ⟨lg, 0, none⟩)]) ∧ Opened w w' G lg 256 0 64 noughts := by
  go_enter Try.func9, Try.ntmps9
  go_wp2_with fail
  refine (new_any w 256 (by decide)).mono ?_
  rintro e w1 ⟨G, rfl, hF, hD, hM⟩
  have HF := Lib.hid hF
  have hA : DevA w1 G.own G 256 noughts := ⟨hD, fun b hb => by
    obtain ⟨_, _, _, _, _, _, h1, h2, h3, h4⟩ := hD.apart
    rcases hb with rfl | rfl | rfl | rfl <;> assumption⟩
  have Ho := Lib.hid (open_any w1 G.own G 256 noughts 0 64 hA rfl (by decide) (fun j _ => ⟨Int.le_refl 0, (by decide : (0 : Int) < 18446744073709551616)⟩) (by decide))
  have HM := Lib.hid hM
  have HA := Lib.hid hA
  clear hF hD hM hA
  go_wp2_with fail
  refine Ho.out.mono ?_
  unfold OpenPost
  rw [home_noughts]
  rintro e w2 ⟨⟨-, lg, hlg, rfl, hL⟩ | ⟨hx, -⟩, hD2, hM2⟩
  · have Hfin := Lib.hid (show Opened w w2 G lg 256 0 64 noughts from ⟨HF.out, Nat.le_trans HM.out.size hlg, fun e => by have := HA.out.own_lt2 _ e; omega, hD2, hL, mv_none HM.out hM2 (fun b hb e => by have := HF.out.own b e; omega)⟩)
    clear hlg hL hD2 hM2
    go_wp2_with fail
    go_ret2
    exact ⟨G, lg, by simp, Hfin.out⟩
  · cases hx
theorem calm_fuse {s : DS} (h : Calm s) (k : Int) : Calm { s with fuse := k } := h
/-- A word that is put last stands. -/
theorem puts_last (f : Nat → Int) (l : List (Nat × Int)) (p : Nat × Int) : puts f (l ++ [p]) p.1 = p.2 := by rw [puts_snoc]; simp [upd]
theorem add_head (g i : Nat) : (⟨g, 0, none⟩ : Addr).add i = ⟨g, i, none⟩ := by
  unfold Addr.add
  by_cases h : i = 0
  · subst h; simp
  · simp [h]
/-- Commit with no fuse. -/
theorem commit_whole (w : World) (A : Nat → Prop) (G : Dv) (n : Nat) (s : DS) (lg at_ words : Nat) (A0 : Option Addr) (c0 : Nat) (ps : List (Int × Int)) (k : Nat) (hk : ps.length = k) (hk1 : k ≤ 1000000) (hD : DevA w A G n s) (hd : s.dead = false) (hl : Lg w lg G at_ words) (hlo : ¬ G.own lg)
    (hw : 16 ≤ words ∧ at_ + words ≤ n) (hv : U64 s.now) (hs : s.steps < 600000000) (hf : s.fuse = -1) (hr : WR w w.heap.size A0 ps) (hA0 : ∀ ad, A0 = some ad → ¬ G.own ad.block) (hz : ∀ p ∈ ps, 0 ≤ p.2 ∧ p.2 < 18446744073709551616) :
    Calls Try.prog 13 #[.pointer (some ⟨lg, 0, none⟩), .slice A0 k c0] w fun e w' => e = .returned (.int .i64 (commitV n at_ words ps)) ∧ DevA w' A G n (commitD n at_ words ps s).1 ∧ Mv G.own w w' := by
  refine (commit_any w A G n s lg at_ words A0 c0 ps k hk hk1 hD hd hl hlo hw (fun j _ => hv j) hs hr hA0 hz).mono ?_
  rintro e w' ⟨⟨⟨_, he⟩ | ⟨h, _⟩, hD'⟩, hm⟩
  · exact ⟨he, hD', hm⟩
  · rw [(commit_free n at_ words ps s hf).1] at h; cases h
/-- Open with no fuse. -/
theorem open_whole (w : World) (A : Nat → Prop) (G : Dv) (n : Nat) (s : DS) (at_ words : Nat) (hD : DevA w A G n s) (hd : s.dead = false) (hw : 16 ≤ words ∧ at_ + words ≤ n ∧ at_ % 8 = 0) (hv : U64 s.now) (hs : s.steps < 600000000) (hf : s.fuse = -1) :
    Calls Try.prog 21 #[.pointer (some ⟨G.d, 0, none⟩), .int .i64 (at_ : Int), .int .i64 (words : Int)] w fun e w' => ∃ lg, w.heap.size ≤ lg ∧ e = .returned (.tuple #[.pointer (some ⟨lg, 0, none⟩), .int .i64 0]) ∧ Lg w' lg G at_ words ∧ DevA w' A G n (runS (homeL s.now n at_ words) s).1 ∧ Mv G.own w w' := by
  refine (open_any w A G n s at_ words hD hd hw (fun j _ => hv j) (by omega)).mono ?_
  rintro e w' ⟨⟨_, lg, h1, h2, h3⟩ | ⟨h, _⟩, hD', hm⟩
  · exact ⟨lg, h1, h2, h3, hD', hm⟩
  · rw [(home_free n at_ words s hf).1] at h; cases h
theorem awake_ds : ∃ r, r = commitD 256 0 64 [(100, 7), (100, 8)] noughts ∧ commitV 256 0 64 [(100, 7), (100, 8)] = 0 ∧ r.2 = true ∧ (∀ p, (r.1.power p).now 100 = 8) := by
  have hv : commitV 256 0 64 [(100, 7), (100, 8)] = 0 := by decide
  have hf := (commit_free 256 0 64 [(100, 7), (100, 8)] noughts rfl).1
  have hc := commit_all (n := 256) (at_ := 0) (words := 64) calm_noughts u64_zero rfl (by decide) hv (by decide)
  obtain ⟨c1, c2, c3, c4⟩ := hc.all hf
  refine ⟨_, rfl, hv, hf, fun p => ?_⟩
  rw [power_calm c1, c4 100 (by decide)]
  rfl
set_option maxRecDepth 100000 in
set_option maxHeartbeats 4000000 in
theorem awake6_any (w : World) : Calls Try.prog 16 #[] w fun e w' => e = .returned (.bool true) ∧ Mv (fun _ => False) w w' := by
  obtain ⟨r, hr, hv, hr2, hr8⟩ := awake_ds
  have Hr := Lib.hid hr
  have Hv := Lib.hid hv
  have Hr2 := Lib.hid hr2
  have Hr8 := Lib.hid hr8
  clear hr hv hr2 hr8
  go_enter Try.func16, Try.ntmps16
  go_wp2_with fail
  refine (open6_any w).mono ?_
  rintro e w1 ⟨G, lg, rfl, hO⟩
  have HO := Lib.hid hO
  have m24 := Lib.hid (most_any hO.lgL (by decide))
  clear hO
  go_wp2_with (first
    | (with_reducible refine (need4 _).mono ?_; rintro e w' ⟨rfl, rfl⟩)
    | (with_reducible refine (need3 _).mono ?_; rintro e w' ⟨rfl, rfl⟩)
    | (with_reducible refine m24.out.mono ?_; rintro e w' ⟨rfl, rfl⟩)
    | fail)
  obtain ⟨w2, hw2⟩ : ∃ w2, w2 = w'.alloc (.cells #[.int .i64 100, .int .u64 7, .int .i64 100, .int .u64 8] 32) := ⟨_, rfl⟩
  rw [← hw2]
  have Hb : Blk w2 w'.heap.size 32 #[.int .i64 100, .int .u64 7, .int .i64 100, .int .u64 8] := by rw [hw2]; exact blk_new w' _ _ rfl
  have hm2 : Mv (fun _ => False) w' w2 := by rw [hw2]; exact (Mv.refl _ w').alloc _
  have hlt := Hb.lt
  have hwr : WR w2 w2.heap.size (some ⟨w'.heap.size, 0, none⟩) [(100, 7), (100, 8)] := fun i hi => by
    refine ⟨_, rfl, hlt, ?_⟩
    rw [add_head, add_head]
    have hi2 : i < 2 := hi
    rcases (show i = 0 ∨ i = 1 by omega) with rfl | rfl
    · exact ⟨(Hb.cell 0).trans rfl, (Hb.cell 1).trans rfl⟩
    · exact ⟨(Hb.cell 2).trans rfl, (Hb.cell 3).trans rfl⟩
  have hD2 := HO.out.dev.keep hm2 (fun _ e => e.elim) (fun _ _ e => e)
  have Hc := Lib.hid (commit_whole w2 G.own G 256 noughts lg 0 64 (some ⟨w'.heap.size, 0, none⟩) 2 [(100, 7), (100, 8)] 2 rfl (by decide) hD2 rfl (Blk.mv HO.out.lgL hm2 (fun e => e)) HO.out.lgO (by decide) u64_zero (by decide) rfl hwr
    (fun ad e => by cases e; exact fun h => by have := HO.out.dev.own_lt2 _ h; exact Nat.lt_irrefl _ this) (by decide))
  have Hm2 := Lib.hid hm2
  clear hw2 Hb hm2 hlt hwr hD2 m24
  refine Hc.out.mono ?_
  rw [Hv.out, ← Hr.out]
  rintro e w3 ⟨rfl, hD3, hm3⟩
  have Hp := Lib.hid (powerN w3 G.own G 256 r.1 hD3)
  have Hm3 := Lib.hid hm3
  clear hD3 hm3 Hc
  go_wp2_with fail
  refine Hp.out.mono ?_
  rintro e w4 ⟨rfl, hD4, hm4⟩
  have Hm4 := Lib.hid hm4
  have Hl := load_ok w4 G.own G 256 _ 100 hD4.1 (by decide) rfl
  rw [show (100 : Int).toNat = 100 from rfl, Hr8.out] at Hl
  clear hD4 hm4 Hp
  go_wp2_with fail
  refine Hl.mono ?_
  rintro e w5 ⟨rfl, rfl⟩
  go_wp2_with fail
  go_ret
  exact ⟨by simp, mv_none (mv_none (mv_none HO.out.mv Hm2.out (fun _ _ e => e)) Hm3.out (fun b hb e => by have := HO.out.fresh.own b e; omega)) Hm4.out (fun b hb e => by have := HO.out.fresh.own b e; omega)⟩
end Go.Proofs.Ytdphillobnlpaaa
