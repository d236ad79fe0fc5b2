/- redo: RedoOrders' walk. -/
import Derived.Test.YtdphillobnlpaaaRedBp
namespace Go.Proofs.Ytdphillobnlpaaa
open Go.RowKit
set_option linter.unusedVariables false
/-- Where nothing is on its way, whatever turns beside the device leaves it. -/
theorem dev_turn {w w' : World} {G : Dv} {n : Nat} {S : Nat → Prop} {s : DS} (h : DevA w G.own G n s) (hc : Calm s) (hm : Mv S w w') (hS : ∀ b, G.own b → ¬ S b) : DevA w' G.own G n s := by
  have h1 := DevA.rebase (A' := fun b => G.own b ∨ (S b ∧ b < w.heap.size)) h.1 hc.2.1 (fun b e => .inl e) (fun b e => e.elim (h.own_lt b) And.right)
  have h2 := h1.keep hm (fun b hb hl => .inr ⟨hb, hl⟩) hS
  exact DevA.rebase h2.1 hc.2.1 (fun _ e => e) (h2.own_lt)
theorem u64_rng (z : Int) : 0 ≤ IntKind.u64.wrap z ∧ IntKind.u64.wrap z < 18446744073709551616 := by rw [IntKind.wrap_u64]; omega
section
variable (w : World) (A : Nat → Prop) (G : Dv) (n : Nat) (s : DS)
theorem runS_one (x : St) (h : s.fuse = -1) : runS [x] s = (x.on s, true) := by rw [runS_go (by rw [h]; decide)]; rfl
theorem storeF (i : Nat) (v : Int) (h : DevA w A G n s) (hd : s.dead = false) (hf : s.fuse = -1) (hs : s.steps < 1000000000) (hi : i < n) :
    Calls Try.prog 10 #[.pointer (some ⟨G.d, 0, none⟩), .int .i64 (i : Int), .int .u64 v] w fun e w' => e = .returned (.tuple #[]) ∧ DevA w' A G n (s.store i v) ∧ Mv G.own w w' := by
  refine (storeR w A G n s i v h hd hs hi).mono ?_
  rw [runS_one s _ hf]
  rintro e w' ⟨⟨⟨_, h1⟩ | ⟨h1, _⟩, h2⟩, h3⟩
  · exact ⟨h1, h2, h3⟩
  · cases h1
theorem flushF (i : Nat) (h : DevA w A G n s) (hd : s.dead = false) (hf : s.fuse = -1) (hs : s.steps < 1000000000) (hi : i < n) :
    Calls Try.prog 11 #[.pointer (some ⟨G.d, 0, none⟩), .int .i64 (i : Int)] w fun e w' => e = .returned (.tuple #[]) ∧ DevA w' A G n (s.flush (8 * (i / 8))) ∧ Mv G.own w w' := by
  refine (flushR w A G n s i h hd hs hi).mono ?_
  rw [runS_one s _ hf]
  rintro e w' ⟨⟨⟨_, h1⟩ | ⟨h1, _⟩, h2⟩, h3⟩
  · exact ⟨h1, h2, h3⟩
  · cases h1
theorem fenceF (h : DevA w A G n s) (hd : s.dead = false) (hf : s.fuse = -1) (hs : s.steps < 1000000000) :
    Calls Try.prog 12 #[.pointer (some ⟨G.d, 0, none⟩)] w fun e w' => e = .returned (.tuple #[]) ∧ DevA w' A G n s.fence ∧ Mv G.own w w' := by
  refine (fenceR w A G n s h hd hs).mono ?_
  rw [runS_one s _ hf]
  rintro e w' ⟨⟨⟨_, h1⟩ | ⟨h1, _⟩, h2⟩, h3⟩
  · exact ⟨h1, h2, h3⟩
  · cases h1
end
/-- What RedoOrders' device is behind t rounds. -/
structure Or (s : DS) (last : Int) (t : Nat) : Prop where
  calm : Calm s
  u : U64 s.now
  z : s.now 0 = 0
  a : s.now 100 = last
  b : s.now 101 = 77
  fuse : s.fuse = -1
  steps : s.steps ≤ 10 + 300000 * t
def or0 : DS := ((noughts.store 101 77).flush (8 * (101 / 8))).fence
theorem or_start : Or or0 0 0 := by
  have he : runS (blk [(101, 77)] [101]) noughts = (or0, true) := by rw [blk_one]; rfl
  obtain ⟨h1, -⟩ := blk_run calm_noughts [(101, 77)] [101] (fun p hp => ⟨101, by simp, by simp at hp; rw [hp]⟩)
  rw [he] at h1
  obtain ⟨c, e⟩ := h1 rfl
  have e : or0.now = upd (fun _ => 0) 101 77 := e
  refine ⟨c, fun j => ?_, ?_, ?_, ?_, rfl, by decide⟩
  · rw [e]; unfold upd; split
    · exact ⟨by decide, by decide⟩
    · exact u64_zero j
  · rw [e]; rfl
  · rw [e]; rfl
  · rw [e]; rfl
def OrP (ps : List (Int × Int)) (k : Nat) : Prop := ps.length = k ∧ ∀ p ∈ ps, p.1 = 100 ∧ 0 ≤ p.2 ∧ p.2 < 18446744073709551616
theorem OrP.put {ps : List (Int × Int)} {k : Nat} (h : OrP ps k) {v : Int} (hv : 0 ≤ v ∧ v < 18446744073709551616) : OrP (ps ++ [(100, v)]) (k + 1) := by
  refine ⟨by rw [List.length_append, h.1]; rfl, fun p hp => ?_⟩
  rcases List.mem_append.1 hp with hp | hp
  · exact h.2 p hp
  · simp at hp; subst hp; exact ⟨rfl, hv⟩
theorem Or.commit {s : DS} {last : Int} {t k : Nat} {ps : List (Int × Int)} (h : Or s last t) (hp : OrP ps k) (hk : k < 24) {v : Int} (hv : 0 ≤ v ∧ v < 18446744073709551616) :
    commitV 256 0 64 (ps ++ [(100, v)]) = 0 ∧ Or (commitD 256 0 64 (ps ++ [(100, v)]) s).1 v (t + 1) := by
  have hq := hp.put hv
  have hV : commitV 256 0 64 (ps ++ [(100, v)]) = 0 := by
    unfold commitV
    rw [if_neg, if_neg]
    · rw [hq.1]; omega
    · intro hx
      obtain ⟨p, hm, hb⟩ := List.any_eq_true.1 hx
      rw [(hq.2 p hm).1] at hb
      revert hb; decide
  obtain ⟨f1, f2⟩ := commit_free 256 0 64 (ps ++ [(100, v)]) s h.fuse
  obtain ⟨c1, c2, c3, c4⟩ := (commit_all (n := 256) (at_ := 0) (words := 64) h.calm h.u h.z (by decide) hV (fun p hm => (hq.2 p hm).2)).all f1
  refine ⟨hV, c1, c2, c3, ?_, ?_, f2, ?_⟩
  · rw [c4 100 (by decide)]
    have : nat2 (ps ++ [(100, v)]) = nat2 ps ++ [(100, v)] := by simp [nat2]
    rw [this, puts_snoc]
    simp [upd]
  · rw [c4 101 (by decide), puts_out, h.b]
    intro hx
    simp only [nat2, List.map_map, List.mem_map, Function.comp_apply] at hx
    obtain ⟨p, hm, e⟩ := hx
    rw [(hq.2 p hm).1] at e
    revert e; decide
  · have := commit_steps 256 0 64 (ps ++ [(100, v)]) s (by decide)
    have := h.steps
    omega
theorem Or.le {s : DS} {last : Int} {t t' : Nat} (h : Or s last t) (ht : t ≤ t') : Or s last t' := ⟨h.calm, h.u, h.z, h.a, h.b, h.fuse, by have := h.steps; omega⟩
theorem nn_low (z : Int) : ∃ S : Nat, 1 ≤ S ∧ S ≤ 8 ∧ IntKind.i64.wrap (bits .and .i64 z 7 + 1) = (S : Int) := by
  obtain ⟨N, h1, h2⟩ := mask z 7 (by decide)
  rw [show bits .and .i64 z 7 = (N : Int) from h2]
  exact ⟨N + 1, by omega, by omega, by rw [wrap_small (by omega) (by omega)]; omega⟩
set_option maxRecDepth 100000 in
set_option maxHeartbeats 8000000 in
theorem orders_any (w : World) (A : Option Addr) (n c : Nat) (a1 : Int) (zs : List Int) (hr : Reads w w.heap.size 1 A n (zs.map (Value.int .i64))) (hz : zs.length = n) (hn : n ≤ 9223372036854775807) :
    Calls Try.prog 3 #[.slice A n c, .int .i64 a1] w fun e w' => e = .returned (.bool true) ∧ Mv (fun _ => False) w w' := by
  have Hr := Lib.hid hr
  have Hn := Lib.hid hn
  obtain ⟨S, hS1, hS8, hS⟩ := nn_low a1
  clear hr hn hz
  go_enter Try.func3, Try.ntmps3
  go_wp2_with fail
  refine (open6_any w).mono ?_
  rintro e w1 ⟨G, lg, rfl, hO⟩
  have Hlo := Lib.hid hO.lgO
  have HL := Lib.hid hO.lgL
  have HF := Lib.hid hO.fresh
  have H1 := Lib.hid (storeF w1 G.own G 256 noughts 101 77 hO.dev rfl rfl (by decide) (by decide))
  have HM := Lib.hid hO.mv
  clear hO
  go_wp2_with fail
  refine H1.out.mono ?_
  rintro e w2 ⟨rfl, hD2, hM2⟩
  have H2 := Lib.hid (flushF w2 G.own G 256 _ 101 hD2 rfl rfl (by decide) (by decide))
  have HM2 := Lib.hid hM2
  clear H1 hD2 hM2
  go_wp2_with fail
  refine H2.out.mono ?_
  rintro e w3 ⟨rfl, hD3, hM3⟩
  have H3 := Lib.hid (fenceF w3 G.own G 256 _ hD3 rfl rfl (by decide))
  have HM3 := Lib.hid hM3
  clear H2 hD3 hM3
  go_wp2_with fail
  refine H3.out.mono ?_
  rintro e w4 ⟨rfl, hD4, hM4⟩
  have HD4 := Lib.hid (show DevA w4 G.own G 256 or0 from hD4)
  have M4 := Lib.hid ((HM2.out.trans HM3.out).trans hM4)
  have HL4 := Lib.hid (Blk.mv HL.out M4.out Hlo.out)
  have HM4 := Lib.hid (mv_none HM.out M4.out (fun b hb e => by have := HF.out.own b e; omega))
  have Hs4 := Lib.hid (show ∀ b, G.own b → b < w4.heap.size from hD4.own_lt2)
  have Hlg4 := Lib.hid HL4.out.lt
  clear H3 hD4 hM4 HM2 HM3 M4 HL HM
  go_wp2_with fail
  try rw [hS]
  go_loopw [7, 8, 9] (fun v7 v8 v9 wr => ∃ (A7 : Option Addr) (c7 k i : Nat) (ps : List (Int × Int)) (s : DS) (last : Int), v7 = .slice A7 k c7 ∧ v8 = .int .u64 last ∧ v9 = .int .i64 (i : Int) ∧ i ≤ n ∧ i ≤ 100 ∧ k < S ∧ Hid (OrP ps k) ∧ Hid (WO wr w4.heap.size (.slice A7 k c7) ps) ∧ Hid (Or s last i) ∧ Hid (DevA wr G.own G 256 s) ∧ Hid (Lg wr lg G 0 64) ∧ Hid (Mv (fun _ => False) w wr) ∧ Hid (w4.heap.size ≤ wr.heap.size))
    (fun _ _ v9 _ => 100 - (intOf v9).toNat)
  case atStart => exact ⟨none, 0, 0, 0, [], or0, 0, rfl, rfl, rfl, Nat.zero_le _, by omega, by omega, Lib.hid ⟨rfl, by simp⟩, Lib.hid (WO.nil _ _), Lib.hid or_start, HD4, HL4, HM4, Lib.hid (Nat.le_refl _)⟩
  case round =>
    obtain ⟨A7, c7, k, i, ps, s, last, rfl, rfl, rfl, hin, hi100, hkS, hps, hwo, hor, hdv, hlg, hmv, hsz⟩ := hrel
    by_cases hgo : i < n ∧ i < 100
    · obtain ⟨hlt, hl100⟩ := hgo
      obtain ⟨ad, u, hA1, hadb, hu, hcl⟩ := Hr.out.at_ hlt
      subst hA1
      have hu' := ints_get hu
      subst hu'
      have hcl2 := (mv_cell hmv.out (by rw [block_of_add]; exact hadb) (fun e => e)).trans hcl
      clear hu hcl hadb
      generalize zs.getD i 0 = z at hcl2
      have hv := Lib.hid (u64_rng z)
      obtain ⟨v, hvz⟩ : ∃ v, IntKind.u64.wrap z = v := ⟨_, rfl⟩
      rw [hvz] at hv
      have hwi := wrap_small (z := (i : Int) + 1) (by omega) (by omega)
      have hwk := wrap_small (z := (k : Int) + 1) (by omega) (by omega)
      have hszw := hsz.out
      have hmg : ∀ w9, wr.grownBy w9 (Value.slice A7 k c7).ownBlock → Mv (fun b => (Value.slice A7 k c7).ownBlock = some b) wr w9 := fun w9 h => (Mv.refl _ wr).grown h (fun g e _ => e)
      have hng : ∀ b, b < w4.heap.size → ¬ (Value.slice A7 k c7).ownBlock = some b := fun b hb e => by have := (hwo.out.lt e).1; omega
      have Hmg := Lib.hid hmg
      have Hng := Lib.hid hng
      clear hmg hng
      have Hlgb := Lib.hid hlg.out.lt
      by_cases hk1 : k + 1 = S
      · have hk2 : (k : Int) + 1 = (S : Int) := by omega
        go_wp2_with (first
          | (at_builtin; refine wpList_pushW wr rfl (.tmp 35) (.tmp 42) rfl w4.heap.size A7 k c7 ps hps.out.1 rfl hwo.out (100, v) 1 rfl (by omega) hszw ?_; intro g cp w9 hwo9 hg9 hs9 hat9; have Hwo9 := Lib.hid hwo9; have Hg9 := Lib.hid hg9; have Hs9 := Lib.hid (Nat.le_trans hszw (Nat.le_of_lt hs9)); clear hwo9 hg9 hs9 hat9)
          | fail)
        obtain ⟨hV, hor9⟩ := hor.out.commit hps.out (by omega) hv.out
        have m9 := Hmg.out _ Hg9.out
        have hD9 := dev_turn hdv.out hor.out.calm m9 (fun b hb => Hng.out b (Hs4.out b hb))
        have hL9 := Blk.mv hlg.out m9 (Hng.out lg Hlg4.out)
        have hpp := hps.out.put hv.out
        have hg9 : ¬ G.own g := fun e => by
          have h1 := (Hwo9.out.lt rfl).1
          have h2 := Hs4.out _ e
          exact Nat.lt_irrefl _ (Nat.lt_of_lt_of_le h2 h1)
        have Hc := Lib.hid (commit_whole w9 G.own G 256 s lg 0 64 (some ⟨g, 0, none⟩) cp (ps ++ [(100, v)]) S (by rw [hpp.1]; exact hk1) (by omega) hD9 hor.out.calm.2.2 hL9 Hlo.out (by decide) hor.out.u (by have := hor.out.steps; omega) hor.out.fuse Hwo9.out.wr (fun ad e => by cases e; exact hg9) (fun p hp => (hpp.2 p hp).2))
        rw [hV] at Hc
        have M9 := Lib.hid (mv_none hmv.out m9 (fun b hb => Hng.out b (by have := HM4.out.size; omega)))
        have HL9 := Lib.hid hL9
        have Hor9 := Lib.hid hor9
        have Hgo := Lib.hid hg9
        have Hpp := Lib.hid hpp
        clear hV hor9 m9 hD9 hL9 hpp hg9
        refine Hc.out.mono ?_
        rintro e w10 ⟨rfl, hD10, hM10⟩
        have hwo10 := Hwo9.out.mv hM10 (fun x hx => by cases hx; exact Hgo.out)
        obtain ⟨g', hg', _, _, hc10, _, hcv⟩ := hwo10.at_ (i := k) (by rw [Hpp.out.1]; omega)
        cases hg'
        rw [show (ps ++ [((100 : Int), v)]).getD k (0, 0) = (100, v) by rw [← hps.out.1]; simp] at hcv
        have hcv : w10.cell? ⟨g, (S - 1) * 2 + 1, none⟩ = some (.int .u64 v) := by rw [show S - 1 = k by omega]; exact hcv
        have hwm := wrap_small (z := (S : Int) - 1) (by omega) (by omega)
        have Hor10 := Lib.hid Hor9.out
        generalize (commitD 256 0 64 (ps ++ [((100 : Int), v)]) s).1 = s2 at hD10 Hor10 Hor9
        have hl := Lib.hid (load_ok w10 G.own G 256 s2 100 hD10.1 (by decide) Hor9.out.calm.2.2)
        rw [show (100 : Int).toNat = 100 from rfl, Hor9.out.a] at hl
        have HD10 := Lib.hid hD10
        have HL10 := Lib.hid (Blk.mv HL9.out hM10 Hlo.out)
        have M10 := Lib.hid (mv_none M9.out hM10 (fun b hb e => by have := HF.out.own b e; omega))
        have Hs10 := Lib.hid (Nat.le_trans Hs9.out hM10.size)
        clear hD10 hM10 hwo10 Hc Hwo9
        go_wp2_with fail
        refine hl.out.mono ?_
        rintro e w11 ⟨rfl, rfl⟩
        go_wp2_with fail
        refine ⟨⟨none, 0, 0, i + 1, [], s2, v, rfl, rfl, by go_num, by omega, by omega, by omega, Lib.hid ⟨rfl, by simp⟩, Lib.hid (WO.nil _ _), Hor10, HD10, HL10, M10, Hs10⟩, ?_⟩
        show 100 - ((i : Int) + 1).toNat < 100 - ((i : Int)).toNat
        omega
      · have hk2 : ¬ ((k : Int) + 1 = (S : Int)) := by omega
        go_wp2_with (first
          | (at_builtin; refine wpList_pushW wr rfl (.tmp 35) (.tmp 42) rfl w4.heap.size A7 k c7 ps hps.out.1 rfl hwo.out (100, v) 1 rfl (by omega) hszw ?_; intro g cp w9 hwo9 hg9 hs9 hat9; have Hwo9 := Lib.hid hwo9; have Hg9 := Lib.hid hg9; have Hs9 := Lib.hid (Nat.le_trans hszw (Nat.le_of_lt hs9)); clear hwo9 hg9 hs9 hat9)
          | fail)
        have m9 := Hmg.out _ Hg9.out
        refine ⟨⟨_, cp, k + 1, i + 1, _, s, last, rfl, rfl, by go_num, by omega, by omega, by omega, Lib.hid (hps.out.put hv.out), Hwo9, Lib.hid (hor.out.le (Nat.le_succ i)), Lib.hid (dev_turn hdv.out hor.out.calm m9 (fun b hb => Hng.out b (Hs4.out b hb))), Lib.hid (Blk.mv hlg.out m9 (Hng.out lg Hlg4.out)), Lib.hid (mv_none hmv.out m9 (fun b hb => Hng.out b (by have := HM4.out.size; omega))), Hs9⟩, ?_⟩
        show 100 - ((i : Int) + 1).toNat < 100 - ((i : Int)).toNat
        omega
    · have Hp := Lib.hid (powerN wr G.own G 256 s hdv.out)
      have Hln := Lib.hid (hor.out.calm)
      have e100 := Lib.hid hor.out.a
      have e101 := Lib.hid hor.out.b
      clear hdv hwo hlg hor
      rcases Nat.lt_or_ge i n with hlt | hge
      · have h100 : ¬ (i : Int) < 100 := by omega
        go_wp2_with fail
        refine Hp.out.mono ?_
        rintro e w5 ⟨rfl, hD5, hM5⟩
        have Hl1 := Lib.hid (load_ok w5 G.own G 256 _ 100 hD5.1 (by decide) rfl)
        have Hl2 := Lib.hid (load_ok w5 G.own G 256 _ 101 hD5.1 (by decide) rfl)
        rw [show (100 : Int).toNat = 100 from rfl, power_calm Hln.out, e100.out] at Hl1
        rw [show (101 : Int).toNat = 101 from rfl, power_calm Hln.out, e101.out] at Hl2
        have M5 := Lib.hid (mv_none hmv.out hM5 (fun b hb e => by have := HF.out.own b e; omega))
        clear hD5 hM5 Hp
        go_wp2_with (first
          | (with_reducible refine Hl1.out.mono ?_; rintro e w' ⟨rfl, rfl⟩)
          | (with_reducible refine Hl2.out.mono ?_; rintro e w' ⟨rfl, rfl⟩)
          | fail)
        refine (awake6_any _).mono ?_
        rintro e w6 ⟨rfl, hm⟩
        have Hm := Lib.hid hm
        clear hm
        go_wp2_with fail
        go_ret
        exact ⟨by simp, M5.out.trans Hm.out⟩
      · have hnl : ¬ (i : Int) < (n : Int) := by omega
        go_wp2_with fail
        refine Hp.out.mono ?_
        rintro e w5 ⟨rfl, hD5, hM5⟩
        have Hl1 := Lib.hid (load_ok w5 G.own G 256 _ 100 hD5.1 (by decide) rfl)
        have Hl2 := Lib.hid (load_ok w5 G.own G 256 _ 101 hD5.1 (by decide) rfl)
        rw [show (100 : Int).toNat = 100 from rfl, power_calm Hln.out, e100.out] at Hl1
        rw [show (101 : Int).toNat = 101 from rfl, power_calm Hln.out, e101.out] at Hl2
        have M5 := Lib.hid (mv_none hmv.out hM5 (fun b hb e => by have := HF.out.own b e; omega))
        clear hD5 hM5 Hp
        go_wp2_with (first
          | (with_reducible refine Hl1.out.mono ?_; rintro e w' ⟨rfl, rfl⟩)
          | (with_reducible refine Hl2.out.mono ?_; rintro e w' ⟨rfl, rfl⟩)
          | fail)
        refine (awake6_any _).mono ?_
        rintro e w6 ⟨rfl, hm⟩
        have Hm := Lib.hid hm
        clear hm
        go_wp2_with fail
        go_ret
        exact ⟨by simp, M5.out.trans Hm.out⟩
end Go.Proofs.Ytdphillobnlpaaa
