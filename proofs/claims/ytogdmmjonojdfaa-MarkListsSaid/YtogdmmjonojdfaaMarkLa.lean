/- mark: MarkLists' walk. -/
import Derived.Test.YtogdmmjonojdfaaMarkCo
namespace Go.Proofs.Ytogdmmjonojdfaa
open Go.RowKit
set_option linter.unusedVariables false
theorem cmp_eq {l X : List Int} (h : Rz False l X) : cmpI (sortI l) = X := rise_ext (cmp_rz l).up h.up (fun z => by rw [(cmp_rz l).mem z, h.mem z])
theorem cnt_final {l X : List Int} {n : Nat} (h : Rz False l X) (hn : l.length = n) : cntU (sortI l) n = X.map fun z => ((l.count z : Nat) : Int) := by
  unfold cntU
  have e1 : (sortI l).length = n := (sortI_len l).trans hn
  have e2 : Lib.compactUpTo (sortI l).toArray n = X := by rw [← cmp_eq h]; unfold cmpI Lib.compact; rw [e1]
  rw [e2, List.take_of_length_le (by omega)]
  apply List.map_congr_left
  intro z _
  rw [(sortI_perm l).count_eq z]
theorem filt_succ {X : List Int} {p : Int → Bool} {i : Nat} {x : Int} (h : X.take (i + 1) = X.take i ++ [x]) : (X.take (i + 1)).filter p = (X.take i).filter p ++ if p x = true then [x] else [] := by
  rw [h, List.filter_append]
  congr 1
  cases hp : p x <;> simp [hp]
theorem cnt_succ {l : List Int} {k : Nat} {y x : Int} (h : l.take (k + 1) = l.take k ++ [y]) : (l.take (k + 1)).count x = (l.take k).count x + if y = x then 1 else 0 := by
  rw [h, List.count_append, List.count_singleton]
  by_cases e : y = x <;> simp [e]
theorem Lf.of_own {w : World} {B : Nat} {A : Option Addr} {n c : Nat} {zs : List Int} (h : w.ownsRow B 3 1 (.slice A n c) n (Zs zs)) : Lf w w.heap.size A n c zs :=
  ⟨by have := h.1; simpa [Zs] using this, Reads.of_own h, (cons_row h).1⟩
theorem sp_none (w : World) : Sp w w (.slice none 0 0) 0 [] (.slice none 0 0) 0 [] :=
  ⟨⟨by simp [Zs], .inl ⟨rfl, rfl⟩⟩, ⟨by simp [Zs], .inl ⟨rfl, rfl⟩⟩, (fun b e => by cases e), Below.refl _ _⟩
set_option maxRecDepth 100000 in
set_option maxHeartbeats 16000000 in
theorem lists_any (w : World) (A C : Option Addr) (n c m d : Nat) (xa xb : List Int) (hx : xa.length = n) (hy : xb.length = m) (hra : Reads w w.heap.size 1 A n (Zs xa)) (hrb : Reads w w.heap.size 1 C m (Zs xb)) (hn : n ≤ 9223372036854775807) (hm : m ≤ 9223372036854775807) :
    Calls Try.prog 6 #[.slice A n c, .slice C m d] w (fun e w' => e = .returned (.bool true) ∧ Below w.heap.size w w') := by
  have Hx := Lib.hid hx
  have Hy := Lib.hid hy
  have Hra := Lib.hid hra
  have Hrb := Lib.hid hrb
  clear hx hy hra hrb
  by_cases hbig : n ≤ 100 ∧ m ≤ 100
  · obtain ⟨hn1, hm1⟩ := hbig
    clear hn hm
    go_enter Try.func6, Try.ntmps6
    go_upto_block 0 with (first
      | (go_at_call 17; (fail_if_success (have := w1)); refine (order_any w A n c xa Hx.out Hra.out (by omega)).mono ?_; rintro e w1 ⟨A1, c1, X, rfl, ho1, hz1, hl1, hb1⟩; have Ho1 := Lib.hid ho1; have Hz1 := Lib.hid hz1; have Hl1 := Lib.hid hl1; have Hb1 := Lib.hid hb1; clear ho1 hz1 hl1 hb1)
      | (go_at_call 17; refine (order_any w1 C m d xb Hy.out (Hrb.out.bel Hb1.out) (by omega)).mono ?_; rintro e w2 ⟨A2, c2, Y, rfl, ho2, hz2, hl2, hb2⟩; have Ho2 := Lib.hid ho2; have Hz2 := Lib.hid hz2; have Hl2 := Lib.hid hl2; have Hb2 := Lib.hid hb2; clear ho2 hz2 hl2 hb2)
      | fail)
    have HX := Lib.hid ((Lf.of_own Ho1.out).mv Hb2.out)
    have HY := Lib.hid (Lf.of_own Ho2.out)
    have Hbw := Lib.hid (Hb1.out.trans (Hb2.out.mono Hb1.out.size))
    have Hnx := Lib.hid (show X.length ≤ 100 by have := Hl1.out; omega)
    have Hny := Lib.hid (show Y.length ≤ 100 by have := Hl2.out; omega)
    clear Ho1 Ho2 Hb1 Hb2 Hl1 Hl2
    generalize X.length = nx at HX Hnx ⊢
    generalize Y.length = ny at HY Hny ⊢
    have hnx := Hnx.out
    have hny := Hny.out
    clear Hnx Hny
    go_cut [7, 9] from 33 to 52 (fun s7 s9 wx => ∃ (A7 : Option Addr) (n7 c7 : Nat), s7 = .slice A7 n7 c7 ∧ n7 ≤ 100 ∧ Hid (Sp w2 wx (.slice A7 n7 c7) n7 (X.filter fun z => decide (z ∉ Y)) (.slice none 0 0) 0 []))
    case first =>
      go_wp2_with fail
      go_loopw [7, 9] (fun v7 v9 wr => ∃ (A7 : Option Addr) (n7 c7 i : Nat), v7 = .slice A7 n7 c7 ∧ v9 = .int .i64 (i : Int) ∧ i ≤ nx ∧ n7 ≤ i ∧ Hid (Sp w2 wr (.slice A7 n7 c7) n7 ((X.take i).filter fun z => decide (z ∉ Y)) (.slice none 0 0) 0 []))
        (fun _ v9 _ => nx - (intOf v9).toNat)
      case atStart => exact ⟨none, 0, 0, 0, rfl, rfl, Nat.zero_le _, Nat.le_refl _, Lib.hid (by simpa using sp_none w2)⟩
      case round =>
        obtain ⟨A7, n7, c7, i, rfl, rfl, hin, hni, hsp⟩ := hrel
        rcases Nat.lt_or_ge i nx with hlt | hge
        · have hlx : i < X.length := by rw [HX.out.len]; exact hlt
          obtain ⟨ad, u, hA1, hadb, hu, hcl⟩ := HX.out.rd.at_ hlt
          subst hA1
          rw [Zs_get _ _ hlx, Option.some.injEq] at hu
          subst hu
          have htk := Lib.hid (List.take_succ_eq_append_getElem hlx)
          have hc1 := (hsp.out.bel.cell (by rw [block_of_add]; exact hadb)).trans hcl
          generalize X[i] = x at hc1 htk
          have hwi := wrap_small (z := (i : Int) + 1) (by omega) (by omega)
          have hhas := has_any wr A2 ny c2 Y x HY.out.len ((HY.out.rd.below hsp.out.bel).more hsp.out.bel.size) (by omega)
          clear hcl hlx
          by_cases hmm : x ∈ Y
          · rw [decide_eq_true hmm] at hhas
            have Hhas := Lib.hid hhas
            have Hmm := Lib.hid hmm
            clear hhas hmm
            go_wp2_with (first
              | (go_at_call 10; refine Hhas.out.mono ?_; rintro e w4 ⟨rfl, rfl⟩)
              | fail)
            refine ⟨⟨A7, n7, c7, i + 1, rfl, by go_num, by omega, by omega, Lib.hid (by rw [filt_succ htk.out, if_neg (by simp; exact Hmm.out), List.append_nil]; exact hsp.out)⟩, ?_⟩
            show nx - ((i : Int) + 1).toNat < nx - ((i : Int)).toNat
            omega
          · rw [decide_eq_false hmm] at hhas
            have Hhas := Lib.hid hhas
            have Hmm := Lib.hid hmm
            clear hhas hmm
            go_wp2_with (first
              | (go_at_call 10; refine Hhas.out.mono ?_; rintro e w4 ⟨rfl, rfl⟩)
              | (at_builtin; refine wpList_pushL (w0 := w2) (v := .slice A7 n7 c7) (n := n7) (x := (X.take i).filter fun z => decide (z ∉ Y)) (v' := .slice none 0 0) (n' := 0) (x' := []) rfl (.tmp 46) (.tmp 51) rfl rfl (hsp.out.alloc _) (by omega) (_ + 1) (some ⟨_, 0, none⟩) 1 rfl (news := [x]) (one_reads _ x 3 rfl) (by omega) ?_; intro A6 c6 w6 hsp6; have Hsp6 := Lib.hid hsp6; clear hsp6)
              | fail)
            refine ⟨⟨A6, n7 + 1, c6, i + 1, by go_num, by go_num, by omega, by omega, Lib.hid (by rw [filt_succ htk.out, if_pos (by simp; exact Hmm.out)]; exact Hsp6.out)⟩, ?_⟩
            show nx - ((i : Int) + 1).toNat < nx - ((i : Int)).toNat
            omega
        · have Hgone := Lib.hid (show (X.take i).filter (fun z => decide (z ∉ Y)) = X.filter fun z => decide (z ∉ Y) by rw [List.take_of_length_le (by rw [HX.out.len]; exact hge)])
          go_wp2_with fail
          go_meet
          case rel => exact ⟨A7, n7, c7, rfl, by omega, Lib.hid (by rw [← Hgone.out]; exact hsp.out)⟩
    case rest =>
      obtain ⟨A7, n7, c7, rfl, hn7, Hsp1⟩ := hcut
      generalize hG : (X.filter fun z => decide (z ∉ Y)) = G at Hsp1
      have HG := Lib.hid hG
      clear hG
      go_upto_block 2 with fail
      go_cut [8, 10] from 53 to 72 (fun s8 s10 wx => ∃ (A8 : Option Addr) (n8 c8 : Nat), s8 = .slice A8 n8 c8 ∧ n8 ≤ 100 ∧ Hid (Sp w2 wx (.slice A8 n8 c8) n8 (Y.filter fun z => decide (z ∉ X)) (.slice A7 n7 c7) n7 G))
      case first =>
        go_wp2_with fail
        go_loopw [8, 10] (fun v8 v10 wr => ∃ (A8 : Option Addr) (n8 c8 i : Nat), v8 = .slice A8 n8 c8 ∧ v10 = .int .i64 (i : Int) ∧ i ≤ ny ∧ n8 ≤ i ∧ Hid (Sp w2 wr (.slice A8 n8 c8) n8 ((Y.take i).filter fun z => decide (z ∉ X)) (.slice A7 n7 c7) n7 G))
          (fun _ v10 _ => ny - (intOf v10).toNat)
        case atStart => exact ⟨none, 0, 0, 0, rfl, rfl, Nat.zero_le _, Nat.le_refl _, Lib.hid ⟨⟨by simp [Zs], .inl ⟨rfl, rfl⟩⟩, Hsp1.out.o1, (fun b e => by cases e), Hsp1.out.bel⟩⟩
        case round =>
          clear Hsp1
          obtain ⟨A8, n8, c8, i, rfl, rfl, hin, hni, hsp⟩ := hrel
          rcases Nat.lt_or_ge i ny with hlt | hge
          · have hlx : i < Y.length := by rw [HY.out.len]; exact hlt
            obtain ⟨ad, u, hA1, hadb, hu, hcl⟩ := HY.out.rd.at_ hlt
            subst hA1
            rw [Zs_get _ _ hlx, Option.some.injEq] at hu
            subst hu
            have htk := Lib.hid (List.take_succ_eq_append_getElem hlx)
            have hc1 := (hsp.out.bel.cell (by rw [block_of_add]; exact hadb)).trans hcl
            generalize Y[i] = x at hc1 htk
            have hwi := wrap_small (z := (i : Int) + 1) (by omega) (by omega)
            have hhas := has_any wr A1 nx c1 X x HX.out.len ((HX.out.rd.below hsp.out.bel).more hsp.out.bel.size) (by omega)
            clear hcl hlx
            by_cases hmm : x ∈ X
            · rw [decide_eq_true hmm] at hhas
              have Hhas := Lib.hid hhas
              have Hmm := Lib.hid hmm
              clear hhas hmm
              go_wp2_with (first
                | (go_at_call 10; refine Hhas.out.mono ?_; rintro e w4 ⟨rfl, rfl⟩)
                | fail)
              refine ⟨⟨A8, n8, c8, i + 1, rfl, by go_num, by omega, by omega, Lib.hid (by rw [filt_succ htk.out, if_neg (by simp; exact Hmm.out), List.append_nil]; exact hsp.out)⟩, ?_⟩
              show ny - ((i : Int) + 1).toNat < ny - ((i : Int)).toNat
              omega
            · rw [decide_eq_false hmm] at hhas
              have Hhas := Lib.hid hhas
              have Hmm := Lib.hid hmm
              clear hhas hmm
              go_wp2_with (first
                | (go_at_call 10; refine Hhas.out.mono ?_; rintro e w4 ⟨rfl, rfl⟩)
                | (at_builtin; refine wpList_pushL (w0 := w2) (v := .slice A8 n8 c8) (n := n8) (x := (Y.take i).filter fun z => decide (z ∉ X)) (v' := .slice A7 n7 c7) (n' := n7) (x' := G) rfl (.tmp 66) (.tmp 71) rfl rfl (hsp.out.alloc _) (by omega) (_ + 1) (some ⟨_, 0, none⟩) 1 rfl (news := [x]) (one_reads _ x 3 rfl) (by omega) ?_; intro A6 c6 w6 hsp6; have Hsp6 := Lib.hid hsp6; clear hsp6)
                | fail)
              refine ⟨⟨A6, n8 + 1, c6, i + 1, by go_num, by go_num, by omega, by omega, Lib.hid (by rw [filt_succ htk.out, if_pos (by simp; exact Hmm.out)]; exact Hsp6.out)⟩, ?_⟩
              show ny - ((i : Int) + 1).toNat < ny - ((i : Int)).toNat
              omega
          · have Hwild := Lib.hid (show (Y.take i).filter (fun z => decide (z ∉ X)) = Y.filter fun z => decide (z ∉ X) by rw [List.take_of_length_le (by rw [HY.out.len]; exact hge)])
            go_wp2_with fail
            go_meet
            case rel => exact ⟨A8, n8, c8, rfl, by omega, Lib.hid (by rw [← Hwild.out]; exact hsp.out)⟩
      case rest =>
        clear Hsp1
        obtain ⟨A8, n8, c8, rfl, hn8, Hsp2⟩ := hcut
        generalize hV : (Y.filter fun z => decide (z ∉ X)) = V at Hsp2
        have HV := Lib.hid hV
        clear hV
        rename World => wr
        have Hspl := Lib.hid (show splitL X Y = (G, V) by rw [two_split Hz1.out.up Hz2.out.up, HG.out, HV.out])
        have HXr := Lib.hid (HX.out.mv Hsp2.out.bel)
        have HYr := Lib.hid (HY.out.mv Hsp2.out.bel)
        have Hbr := Lib.hid (Hbw.out.trans (Hsp2.out.bel.mono Hbw.out.size))
        have Hgo := Lib.hid (Reads.of_own Hsp2.out.o2)
        have Hwi := Lib.hid (Reads.of_own Hsp2.out.o1)
        have Hgl := Lib.hid (show G.length = n7 by have := Hsp2.out.o2.1; simpa [Zs] using this)
        have Hvl := Lib.hid (show V.length = n8 by have := Hsp2.out.o1.1; simpa [Zs] using this)
        clear Hsp2
        go_upto_block 4 with (first
          | (go_at_call 11; refine (split_any _ _ _ _ _ _ _ X Y HXr.out HYr.out (by omega) (by omega)).mono ?_; rintro e w5 ⟨A11, A12, rfl, h1, h2, hb5⟩; rw [Hspl.out] at h1 h2; rw [Hspl.out]; have Hbw5 := Hbr.out.trans (hb5.mono Hbr.out.size); have Hra5 := Lib.hid (Hra.out.bel Hbw5); have H1 := Lib.hid h1; have H2 := Lib.hid h2; have Hb5 := Lib.hid hb5; have HB5 := Lib.hid Hbw5; clear h1 h2 hb5 Hbw5)
          | (go_at_call 18; refine (once_any w5 A n c xa Hx.out Hra5.out (by omega)).mono ?_; rintro e w6 ⟨A13, k, rfl, hk, hr13, hb6⟩; rw [cmp_eq Hz1.out] at hk hr13; have Hk := Lib.hid (hk.trans HXr.out.len); have Hr13 := Lib.hid hr13; have Hb6 := Lib.hid hb6; clear hk hr13 hb6)
          | fail)
        have Hb56 := Hb5.out.trans (Hb6.out.mono Hb5.out.size)
        have H11 := Lib.hid (H1.out.bel Hb6.out)
        have H12 := Lib.hid (H2.out.bel Hb6.out)
        have H7 := Lib.hid (Hgo.out.bel Hb56)
        have H8 := Lib.hid (Hwi.out.bel Hb56)
        have HX6 := Lib.hid (HXr.out.mv Hb56)
        have Hra6 := Lib.hid (Hra5.out.bel Hb6.out)
        have HB6 := Lib.hid (HB5.out.trans (Hb6.out.mono HB5.out.size))
        clear Hb56 H1 H2 Hgo Hwi HXr HYr Hra5 HB5 Hb5 Hb6 Hbr
        have hk := Hk.out
        subst hk
        clear Hk
        generalize hgl : G.length = lg at H11 ⊢
        generalize hvl : V.length = lv at H12 ⊢
        have Hlg := Lib.hid hgl
        have Hlv := Lib.hid hvl
        clear hgl hvl
        go_cut [15, 16, 17, 18] from 84 to 110 (fun s15 s16 s17 s18 wx => ∃ (A15 : Option Addr) (n15 c15 : Nat), s15 = .slice A15 n15 c15 ∧ n15 ≤ 100 ∧ Hid (Sp w6 wx (.slice A15 n15 c15) n15 (X.map fun z => ((xa.count z : Nat) : Int)) (.slice none 0 0) 0 []))
        case first =>
          go_wp2_with fail
          go_loopw [15, 16] (fun v15 v16 wr => ∃ (A15 : Option Addr) (n15 c15 i : Nat), v15 = .slice A15 n15 c15 ∧ v16 = .int .i64 (i : Int) ∧ i ≤ k ∧ n15 ≤ i ∧ Hid (Sp w6 wr (.slice A15 n15 c15) n15 ((X.take i).map fun z => ((xa.count z : Nat) : Int)) (.slice none 0 0) 0 []))
            (fun _ v16 _ => k - (intOf v16).toNat)
          case atStart => exact ⟨none, 0, 0, 0, rfl, rfl, Nat.zero_le _, Nat.le_refl _, Lib.hid (by simpa using sp_none w6)⟩
          case round =>
            obtain ⟨A15, n15, c15, i, rfl, rfl, hin, hni, hsp⟩ := hrel
            rcases Nat.lt_or_ge i k with hlt | hge
            · have hlx : i < X.length := by rw [HX6.out.len]; exact hlt
              obtain ⟨ad, u, hA1, hadb, hu, hcl⟩ := HX6.out.rd.at_ hlt
              subst hA1
              rw [Zs_get _ _ hlx, Option.some.injEq] at hu
              subst hu
              have htk := Lib.hid (List.take_succ_eq_append_getElem hlx)
              generalize X[i] = x at hcl htk
              have Hcl := Lib.hid hcl
              have hwi := wrap_small (z := (i : Int) + 1) (by omega) (by omega)
              clear hcl hlx
              go_wp2_with fail
              go_loopw [17, 18] (fun v17 v18 wq => ∃ (cn j : Nat), v17 = .int .i64 (cn : Int) ∧ v18 = .int .i64 (j : Int) ∧ j ≤ n ∧ cn ≤ j ∧ Hid (cn = (xa.take j).count x) ∧ Hid (∃ q, wq = wr.drewN q))
                (fun _ v18 _ => n - (intOf v18).toNat)
              case atStart => exact ⟨0, 0, rfl, rfl, Nat.zero_le _, Nat.le_refl _, Lib.hid (by simp), Lib.hid ⟨0, rfl⟩⟩
              case round =>
                obtain ⟨cn, j, rfl, rfl, hjn, hcj, hcn, hw⟩ := hrel
                obtain ⟨q, hq⟩ := hw.out
                have Hq := Lib.hid hq
                clear hq hw
                rcases Nat.lt_or_ge j n with hlt2 | hge2
                · have hlx2 : j < xa.length := by rw [Hx.out]; exact hlt2
                  obtain ⟨ad2, u, hA2, hadb2, hu, hcl2⟩ := Hra6.out.at_ hlt2
                  subst hA2
                  rw [Zs_get _ _ hlx2, Option.some.injEq] at hu
                  subst hu
                  have htk2 := Lib.hid (List.take_succ_eq_append_getElem hlx2)
                  generalize xa[j] = y at hcl2 htk2
                  have hd1 : ∀ p, (wr.drewN p).cell? (ad2.add j) = some (.int .i64 y) := fun p => by rw [Hq.out]; exact (hsp.out.bel.cell (by rw [block_of_add]; exact hadb2)).trans hcl2
                  have hd2 : ∀ p, (wr.drewN p).cell? (ad.add i) = some (.int .i64 x) := fun p => by rw [Hq.out]; exact (hsp.out.bel.cell (by rw [block_of_add]; exact hadb)).trans Hcl.out
                  have hwj := wrap_small (z := (j : Int) + 1) (by omega) (by omega)
                  have hwc := wrap_small (z := (cn : Int) + 1) (by omega) (by omega)
                  clear hcl2 hlx2
                  by_cases e : y = x
                  · have hb : (y == x) = true := by simp [e]
                    have He := Lib.hid e
                    clear e
                    go_wp2_with fail
                    go_quiet (fail)
                    go_wp2_with fail
                    refine ⟨⟨cn + 1, j + 1, by go_num, by go_num, by omega, by omega, Lib.hid (by rw [cnt_succ htk2.out, if_pos He.out, ← hcn.out]), Lib.hid ⟨q + nq, by rw [Hq.out]; simp⟩⟩, ?_⟩
                    show n - ((j : Int) + 1).toNat < n - ((j : Int)).toNat
                    omega
                  · have hb : (y == x) = false := by simp [e]
                    have He := Lib.hid e
                    clear e
                    go_wp2_with fail
                    go_quiet (fail)
                    go_wp2_with fail
                    refine ⟨⟨cn, j + 1, rfl, by go_num, by omega, by omega, Lib.hid (by rw [cnt_succ htk2.out, if_neg He.out, Nat.add_zero]; exact hcn.out), Lib.hid ⟨q + nq, by rw [Hq.out]; simp⟩⟩, ?_⟩
                    show n - ((j : Int) + 1).toNat < n - ((j : Int)).toNat
                    omega
                · have Hcn := Lib.hid (show cn = xa.count x by rw [hcn.out, List.take_of_length_le (by rw [Hx.out]; exact hge2)])
                  have Hspq := Lib.hid (show Sp w6 wr (.slice A15 n15 c15) n15 ((X.take i).map fun z => ((xa.count z : Nat) : Int)) (.slice none 0 0) 0 [] by rw [Hq.out]; exact hsp.out.drewN q)
                  clear hcn
                  go_wp2_with (first
                    | (at_builtin; refine wpList_pushL (w0 := w6) (v := .slice A15 n15 c15) (n := n15) (x := (X.take i).map fun z => ((xa.count z : Nat) : Int)) (v' := .slice none 0 0) (n' := 0) (x' := []) rfl (.tmp 107) (.tmp 109) rfl rfl (Hspq.out.alloc _) (by omega) (_ + 1) (some ⟨_, 0, none⟩) 1 rfl (news := [(cn : Int)]) (one_reads _ (cn : Int) 3 rfl) (by omega) ?_; intro A6 c6 w7 hsp6; have Hsp6 := Lib.hid hsp6; clear hsp6)
                    | fail)
                  refine ⟨⟨A6, n15 + 1, c6, i + 1, by go_num, by go_num, by omega, by omega, Lib.hid (by rw [htk.out, List.map_append, List.map_cons, List.map_nil, ← Hcn.out]; exact Hsp6.out)⟩, ?_⟩
                  show k - ((i : Int) + 1).toNat < k - ((i : Int)).toNat
                  omega
            · have Hcnt := Lib.hid (show X.take i = X by rw [List.take_of_length_le (by rw [HX6.out.len]; exact hge)])
              go_wp2_with fail
              go_meet
              case rel => exact ⟨A15, n15, c15, rfl, by omega, Lib.hid (by have := hsp.out; rw [Hcnt.out] at this; exact this)⟩
        case rest =>
          obtain ⟨A15, n15, c15, rfl, hn15, hsp⟩ := hcut
          have hb := hsp.out.bel
          have hXl : X.length = k := HX6.out.len
          have h15 : (X.map fun z => ((xa.count z : Nat) : Int)).length = n15 := by have := hsp.out.o1.1; simpa [Zs] using this
          have S1 := Lib.hid (same_self wc A11 A7 lg lg n7 c7 G Hlg.out Hgl.out (H11.out.bel hb) (H7.out.bel hb) (by have := Hlg.out; have := Hgl.out; omega))
          have S2 := Lib.hid (fun q => same_self (wc.drewN q) A12 A8 lv lv n8 c8 V Hlv.out Hvl.out ((H12.out.bel hb).drewN q) ((H8.out.bel hb).drewN q) (by have := Hlv.out; have := Hvl.out; omega))
          have CC := Lib.hid (fun q => count_any (wc.drewN q) A n c xa Hx.out ((Hra6.out.bel hb).drewN q) (by omega))
          have H13w := Lib.hid (Hr13.out.bel hb)
          have HXw := Lib.hid (HX6.out.mv hb)
          have H15w := Lib.hid (Reads.of_own hsp.out.o1)
          have HBw := Lib.hid (HB6.out.trans (hb.mono HB6.out.size))
          have HXl := Lib.hid hXl
          have H15 := Lib.hid h15
          have Hnil : Hid (k = 0 → n = 0) := Lib.hid (fun e => by
            have hX0 : X = [] := List.eq_nil_of_length_eq_zero (by omega)
            rcases Nat.eq_zero_or_pos n with h | h
            · exact h
            · have hl : 0 < xa.length := by rw [Hx.out]; exact h
              have := (Hz1.out.mem xa[0]).2 ⟨List.getElem_mem hl, fun h => h.elim⟩
              rw [hX0] at this
              cases this)
          clear hb hXl h15 hsp
          by_cases hok : k = n
          · subst hok
            go_wp2_with (first
              | (go_at_call 12; (fail_if_success (have := q1)); refine S1.out.mono ?_; rintro e w7 ⟨rfl, q1, rfl⟩)
              | (go_at_call 12; (fail_if_success (have := q2)); refine (S2.out _).mono ?_; rintro e w7 ⟨rfl, q2, rfl⟩)
              | (go_at_call 19; refine (CC.out _).mono ?_; rintro e w8 ⟨AC, kc, rfl, hkc, hrc, hb8⟩; rw [cnt_final Hz1.out Hx.out] at hkc hrc; rw [H15.out] at hkc; subst hkc; have hb8' := (below_drewN (Below.refl wc.heap.size wc) (q1 + q2)).trans hb8; have S3 := Lib.hid (same_self w8 AC A15 kc kc kc c15 (X.map fun z => ((xa.count z : Nat) : Int)) H15.out H15.out hrc (H15w.out.bel hb8') (by omega)); have S4 := Lib.hid (fun q => same_self (w8.drewN q) A13 A1 k k k c1 X HXl.out HXl.out ((H13w.out.bel hb8').drewN q) ((HXw.out.rd.bel hb8').drewN q) (by omega)); have HB8 := Lib.hid (HBw.out.trans (hb8'.mono HBw.out.size)); clear hrc hb8 hb8')
              | (go_at_call 12; (fail_if_success (have := q3)); refine S3.out.mono ?_; rintro e w7 ⟨rfl, q3, rfl⟩)
              | (go_at_call 12; refine (S4.out _).mono ?_; rintro e w7 ⟨rfl, q4, rfl⟩)
              | (go_at_call 9; refine (awake_any _).mono ?_; rintro e w9 ⟨rfl, hb9⟩; have Hb9 := Lib.hid ((below_drewN HB8.out (q3 + q4)).trans (hb9.mono HB8.out.size)); clear hb9)
              | fail)
            go_ret
            exact ⟨by simp, Hb9.out⟩
          · have hb1 : ((k : Int) == (n : Int)) = false := by simp; omega
            have hb2 : ((k : Int) != (n : Int)) = true := by simp; omega
            have hb3 : ((k : Int) == 0) = false := by have := Hnil.out; simp; omega
            clear hok
            go_wp2_with (first
              | (go_at_call 12; (fail_if_success (have := q1)); refine S1.out.mono ?_; rintro e w7 ⟨rfl, q1, rfl⟩)
              | (go_at_call 12; (fail_if_success (have := q2)); refine (S2.out _).mono ?_; rintro e w7 ⟨rfl, q2, rfl⟩)
              | (go_at_call 19; refine (CC.out _).mono ?_; rintro e w8 ⟨AC, kc, rfl, hkc, hrc, hb8⟩; rw [cnt_final Hz1.out Hx.out] at hkc hrc; rw [H15.out] at hkc; subst hkc; have hb8' := (below_drewN (Below.refl wc.heap.size wc) (q1 + q2)).trans hb8; have S3 := Lib.hid (same_self w8 AC A15 kc kc kc c15 (X.map fun z => ((xa.count z : Nat) : Int)) H15.out H15.out hrc (H15w.out.bel hb8') (by omega)); have S4 := Lib.hid (fun q => same_self (w8.drewN q) A13 A1 k k k c1 X HXl.out HXl.out ((H13w.out.bel hb8').drewN q) ((HXw.out.rd.bel hb8').drewN q) (by omega)); have HB8 := Lib.hid (HBw.out.trans (hb8'.mono HBw.out.size)); clear hrc hb8 hb8')
              | (go_at_call 12; (fail_if_success (have := q3)); refine S3.out.mono ?_; rintro e w7 ⟨rfl, q3, rfl⟩)
              | (go_at_call 12; refine (S4.out _).mono ?_; rintro e w7 ⟨rfl, q4, rfl⟩)
              | (go_at_call 9; refine (awake_any _).mono ?_; rintro e w9 ⟨rfl, hb9⟩; have Hb9 := Lib.hid ((below_drewN HB8.out (q3 + q4)).trans (hb9.mono HB8.out.size)); clear hb9)
              | fail)
            go_ret
            exact ⟨by simp, Hb9.out⟩
  · go_enter Try.func6, Try.ntmps6
    go_wp2_with (first
      | (go_at_call 9; refine (awake_any _).mono ?_; rintro e w9 ⟨rfl, hb9⟩; have Hb9 := Lib.hid hb9; clear hb9)
      | fail)
    all_goals go_ret
    all_goals exact ⟨by simp, Hb9.out⟩
end Go.Proofs.Ytogdmmjonojdfaa
