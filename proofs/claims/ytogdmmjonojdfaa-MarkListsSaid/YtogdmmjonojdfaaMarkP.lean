/- mark: MarkParts' walk. -/
import Derived.Test.YtogdmmjonojdfaaMarkO
import Derived.Deep.CutBlock
namespace Go.Proofs.Ytogdmmjonojdfaa
open Go.RowKit
set_option linter.unusedVariables false
def Bs (bs : List Bool) : List Value := bs.map Value.bool
theorem Bs_get {bs : List Bool} {i : Nat} {u : Value} (h : (Bs bs)[i]? = some u) : u = .bool (bs.getD i false) := by
  unfold Bs at h
  rw [List.getElem?_map] at h
  rw [List.getD_eq_getElem?_getD]
  cases hb : bs[i]? with
  | none => rw [hb] at h; cases h
  | some b => rw [hb] at h; cases h; rfl
theorem Sp.none_ (w : World) (bs : List Bool) : Sp w w (.slice none 0 0) 0 (idx bs 0) (.slice none 0 0) 0 [] :=
  ⟨⟨by simp [Zs, idx], .inl ⟨rfl, rfl⟩⟩, ⟨by simp [Zs], .inl ⟨rfl, rfl⟩⟩, (fun b e => by cases e), Below.refl _ _⟩
theorem same_self (w : World) (A C : Option Addr) (n c m d : Nat) (xs : List Int) (hn : xs.length = n) (hm : xs.length = m) (hr : Reads w w.heap.size 1 A n (Zs xs)) (hs : Reads w w.heap.size 1 C m (Zs xs)) (hb : n ≤ 1000000) :
    Calls Try.prog 12 #[.slice A n c, .slice C m d] w (fun e w' => e = .returned (.bool true) ∧ ∃ q, w' = w.drewN q) := by
  have h := same_any w A C n c m d xs xs hn hm hr hs hb
  rwa [show decide (xs = xs) = true from decide_eq_true rfl] at h
theorem Sp.none2 {w wx : World} {v : Value} {n : Nat} {x : List Int} (h : Sp w wx v n x (.slice none 0 0) 0 []) (bs : List Bool) : Sp w wx (.slice none 0 0) 0 (idx bs 0) v n x :=
  ⟨⟨by simp [Zs, idx], .inl ⟨rfl, rfl⟩⟩, h.o1, (fun b e => by cases e), h.bel⟩
theorem Sp.lf2 {w wx : World} {v : Value} {n n' c' : Nat} {A' : Option Addr} {x x' : List Int} (h : Sp w wx v n x (.slice A' n' c') n' x') : Lf wx wx.heap.size A' n' c' x' :=
  ⟨by have := h.o2.1; simpa [Zs] using this, Reads.of_own h.o2, (cons_row h.o2).1⟩
theorem Lf.mv {w w' : World} {A : Option Addr} {n c : Nat} {zs : List Int} (h : Lf w w.heap.size A n c zs) (hb : Below w.heap.size w w') : Lf w' w'.heap.size A n c zs :=
  ⟨h.len, (h.rd.below hb).more hb.size, h.cap⟩
theorem two_split {X Y : List Int} (hX : X.Pairwise (· < ·)) (hY : Y.Pairwise (· < ·)) : splitL X Y = (X.filter (fun z => decide (z ∉ Y)), Y.filter (fun z => decide (z ∉ X))) :=
  split_rise _ X Y (Nat.le_refl _) hX hY
theorem dec_filter (X Y : List Int) (z : Int) : decide (z ∈ X.filter fun z => decide (z ∉ Y)) = (decide (z ∈ X) && !decide (z ∈ Y)) := by
  by_cases h1 : z ∈ X <;> by_cases h2 : z ∈ Y <;> simp [h1, h2]
set_option maxHeartbeats 8000000 in
theorem parts_any (w : World) (A C : Option Addr) (n c m d : Nat) (ps bs : List Bool) (hx : ps.length = n) (hy : bs.length = m) (hrx : Reads w w.heap.size 1 A n (Bs ps)) (hry : Reads w w.heap.size 1 C m (Bs bs)) (hn : n ≤ 9223372036854775807) (hm : m ≤ 9223372036854775807) :
    Calls Try.prog 4 #[.slice A n c, .slice C m d] w (fun e w' => e = .returned (.bool true) ∧ Below w.heap.size w w') := by
  have Hx := Lib.hid hx
  have Hy := Lib.hid hy
  have Hrx := Lib.hid hrx
  have Hry := Lib.hid hry
  have Hn := Lib.hid hn
  have Hm := Lib.hid hm
  clear hx hy hrx hry
  go_enter Try.func4, Try.ntmps4
  go_upto_block 0 with fail
  go_cut [5, 6, 7] from 14 to 31 (fun s5 s6 s7 wx => ∃ (A5 : Option Addr) (n5 c5 : Nat), s5 = .slice A5 n5 c5 ∧ s6 = .slice none 0 0 ∧ n5 ≤ 50 ∧ Hid (Sp w wx (.slice A5 n5 c5) n5 (idx ps (min n 50)) (.slice none 0 0) 0 []))
  case first =>
    go_wp2_with fail
    go_loopw [5, 7] (fun v5 v7 wr => ∃ (A5 : Option Addr) (n5 c5 i : Nat), v5 = .slice A5 n5 c5 ∧ v7 = .int .i64 (i : Int) ∧ i ≤ n ∧ i ≤ 50 ∧ n5 ≤ i ∧ Hid (Sp w wr (.slice A5 n5 c5) n5 (idx ps i) (.slice none 0 0) 0 []))
      (fun _ v7 _ => 50 - (intOf v7).toNat)
    case atStart => exact ⟨none, 0, 0, 0, rfl, rfl, Nat.zero_le _, by omega, by omega, Lib.hid (Sp.none_ w ps)⟩
    case round =>
      obtain ⟨A5, n5, c5, i, rfl, rfl, hin, hi50, hni, hsp⟩ := hrel
      rcases Nat.lt_or_ge i n with hlt | hge
      · rcases Nat.lt_or_ge i 50 with hl50 | hg50
        · obtain ⟨ad, u, hA1, hadb, hu, hcl⟩ := Hrx.out.at_ hlt
          subst hA1
          have hu' := Bs_get hu
          subst hu'
          have hcl2 := (hsp.out.bel.cell (by rw [block_of_add]; exact hadb)).trans hcl
          have hix := Lib.hid (idx_succ ps i)
          have hwi := wrap_small (z := (i : Int) + 1) (by omega) (by omega)
          clear hu hcl hadb
          generalize ps.getD i false = b at hcl2 hix
          cases b
          · go_wp2_with fail
            refine ⟨⟨A5, n5, c5, i + 1, rfl, by go_num, by omega, by omega, by omega, Lib.hid (by rw [hix.out]; simpa using hsp.out)⟩, ?_⟩
            show 50 - ((i : Int) + 1).toNat < 50 - ((i : Int)).toNat
            omega
          · go_wp2_with (first
              | (at_builtin; refine wpList_pushL (w0 := w) (v := .slice A5 n5 c5) (n := n5) (x := idx ps i) (v' := .slice none 0 0) (n' := 0) (x' := []) rfl (.tmp 28) (.tmp 30) rfl rfl (hsp.out.alloc _) (by omega) (wr.heap.size + 1) (some ⟨wr.heap.size, 0, none⟩) 1 rfl (news := [(i : Int)]) (one_reads wr (i : Int) 3 rfl) (by omega) ?_; intro A6 c6 w6 hsp6; have Hsp6 := Lib.hid hsp6; clear hsp6)
              | fail)
            refine ⟨⟨A6, n5 + 1, c6, i + 1, by go_num, by go_num, by omega, by omega, by omega, Lib.hid (by rw [hix.out]; simpa using Hsp6.out)⟩, ?_⟩
            show 50 - ((i : Int) + 1).toNat < 50 - ((i : Int)).toNat
            omega
        · have e := Lib.hid (show min n 50 = i by omega)
          go_wp2_with fail
          go_meet
          case rel => exact ⟨A5, n5, c5, rfl, rfl, by omega, Lib.hid (by rw [e.out]; exact hsp.out)⟩
      · have e := Lib.hid (show min n 50 = i by omega)
        go_wp2_with fail
        go_meet
        case rel => exact ⟨A5, n5, c5, rfl, rfl, by omega, Lib.hid (by rw [e.out]; exact hsp.out)⟩
  case rest =>
    obtain ⟨A5, n5, c5, rfl, rfl, hn5, hsp⟩ := hcut
    go_upto_block 2 with fail
    go_cut [5, 6, 8] from 32 to 49 (fun s5 s6 s8 wx => ∃ (A6 : Option Addr) (n6 c6 : Nat), s5 = .slice A5 n5 c5 ∧ s6 = .slice A6 n6 c6 ∧ n6 ≤ 50 ∧ Hid (Sp w wx (.slice A6 n6 c6) n6 (idx bs (min m 50)) (.slice A5 n5 c5) n5 (idx ps (min n 50))))
    case first =>
      have hsp0 := Lib.hid (Sp.none2 hsp.out bs)
      go_wp2_with fail
      go_loopw [6, 8] (fun v6 v8 wr => ∃ (A6 : Option Addr) (n6 c6 i : Nat), v6 = .slice A6 n6 c6 ∧ v8 = .int .i64 (i : Int) ∧ i ≤ m ∧ i ≤ 50 ∧ n6 ≤ i ∧ Hid (Sp w wr (.slice A6 n6 c6) n6 (idx bs i) (.slice A5 n5 c5) n5 (idx ps (min n 50))))
        (fun _ v8 _ => 50 - (intOf v8).toNat)
      case atStart => exact ⟨none, 0, 0, 0, rfl, rfl, Nat.zero_le _, by omega, by omega, hsp0⟩
      case round =>
        clear hsp hsp0
        obtain ⟨A6, n6, c6, i, rfl, rfl, hin, hi50, hni, hsp⟩ := hrel
        rcases Nat.lt_or_ge i m with hlt | hge
        · rcases Nat.lt_or_ge i 50 with hl50 | hg50
          · obtain ⟨ad, u, hA1, hadb, hu, hcl⟩ := Hry.out.at_ hlt
            subst hA1
            have hu' := Bs_get hu
            subst hu'
            have hcl2 := (hsp.out.bel.cell (by rw [block_of_add]; exact hadb)).trans hcl
            have hix := Lib.hid (idx_succ bs i)
            have hwi := wrap_small (z := (i : Int) + 1) (by omega) (by omega)
            clear hu hcl hadb
            generalize bs.getD i false = b at hcl2 hix
            cases b
            · go_wp2_with fail
              refine ⟨⟨A6, n6, c6, i + 1, rfl, by go_num, by omega, by omega, by omega, Lib.hid (by rw [hix.out]; simpa using hsp.out)⟩, ?_⟩
              show 50 - ((i : Int) + 1).toNat < 50 - ((i : Int)).toNat
              omega
            · go_wp2_with (first
                | (at_builtin; refine wpList_pushL (w0 := w) (v := .slice A6 n6 c6) (n := n6) (x := idx bs i) (v' := .slice A5 n5 c5) (n' := n5) (x' := idx ps (min n 50)) rfl (.tmp 46) (.tmp 48) rfl rfl (hsp.out.alloc _) (by omega) (wr.heap.size + 1) (some ⟨wr.heap.size, 0, none⟩) 1 rfl (news := [(i : Int)]) (one_reads wr (i : Int) 3 rfl) (by omega) ?_; intro A7 c7 w7 hsp7; have Hsp7 := Lib.hid hsp7; clear hsp7)
                | fail)
              refine ⟨⟨A7, n6 + 1, c7, i + 1, by go_num, by go_num, by omega, by omega, by omega, Lib.hid (by rw [hix.out]; simpa using Hsp7.out)⟩, ?_⟩
              show 50 - ((i : Int) + 1).toNat < 50 - ((i : Int)).toNat
              omega
          · have e := Lib.hid (show min m 50 = i by omega)
            go_wp2_with fail
            go_meet
            case rel => exact ⟨A6, n6, c6, rfl, rfl, by omega, Lib.hid (by rw [e.out]; exact hsp.out)⟩
        · have e := Lib.hid (show min m 50 = i by omega)
          go_wp2_with fail
          go_meet
          case rel => exact ⟨A6, n6, c6, rfl, rfl, by omega, Lib.hid (by rw [e.out]; exact hsp.out)⟩
    case rest =>
      clear hsp
      obtain ⟨A6, n6, c6, rfl, rfl, hn6, hsp⟩ := hcut
      have hX := idx_rise ps (min n 50)
      have hY := idx_rise bs (min m 50)
      generalize idx ps (min n 50) = X at hsp hX
      generalize idx bs (min m 50) = Y at hsp hY
      have Hxy := Lib.hid (two_split hX hY)
      have Hyx := Lib.hid (two_split hY hX)
      have Hdx := Lib.hid (fun z => dec_filter X Y z)
      have Hdy := Lib.hid (fun z => dec_filter Y X z)
      clear hX hY
      have hlx := Lib.hid hsp.out.lf2
      have hly := Lib.hid hsp.out.flip.lf2
      have hbw := Lib.hid hsp.out.bel
      clear hsp
      generalize hG : (X.filter fun z => decide (z ∉ Y)) = G at Hxy Hyx Hdx
      generalize hV : (Y.filter fun z => decide (z ∉ X)) = V at Hxy Hyx Hdy
      have HG := Lib.hid (show G.length ≤ 50 by rw [← hG]; exact Nat.le_trans (List.length_filter_le _ _) (by rw [hlx.out.len]; exact hn5))
      have HV := Lib.hid (show V.length ≤ 50 by rw [← hV]; exact Nat.le_trans (List.length_filter_le _ _) (by rw [hly.out.len]; exact hn6))
      clear hG hV
      go_wp2_with (first
        | (go_at_call 11; refine (split_any _ _ _ _ _ _ _ X Y hlx.out hly.out (by omega) (by omega)).mono ?_; rintro e w3 ⟨A1, A2, rfl, h1, h2, hb3⟩; rw [Hxy.out] at h1 h2; rw [Hxy.out]; have H1 := Lib.hid h1; have H2 := Lib.hid h2; have Hb3 := Lib.hid hb3; clear h1 h2 hb3)
        | fail)
      have HX := Lib.hid (hlx.out.mv Hb3.out)
      have HY := Lib.hid (hly.out.mv Hb3.out)
      have Hb4 := Lib.hid (hbw.out.trans (Hb3.out.mono hbw.out.size))
      clear hlx hly hbw Hb3
      generalize hgl : G.length = g at H1 HG ⊢
      generalize hvl : V.length = v at H2 HV ⊢
      have Hgl := Lib.hid hgl
      have Hvl := Lib.hid hvl
      clear hgl hvl
      go_loopw [11] (fun v11 wr => ∃ i : Nat, v11 = .int .i64 (i : Int) ∧ i ≤ 50 ∧ Hid (wr = w3))
        (fun v11 _ => 50 - (intOf v11).toNat)
      case atStart => exact ⟨0, rfl, by omega, Lib.hid rfl⟩
      case round =>
        obtain ⟨i, rfl, hi50, hw⟩ := hrel
        have hq := hw.out
        subst hq
        rcases Nat.lt_or_ge i 50 with hl50 | hg50
        · have hwi := wrap_small (z := (i : Int) + 1) (by omega) (by omega)
          have hgd := Hdx.out (i : Int)
          have hvd := Hdy.out (i : Int)
          have cx := has_any wr A5 n5 c5 X (i : Int) HX.out.len HX.out.rd (by omega)
          have cy := has_any wr A6 n6 c6 Y (i : Int) HY.out.len HY.out.rd (by omega)
          have cg := has_any wr A1 g g G (i : Int) Hgl.out H1.out (by have := HG.out; omega)
          have cv := has_any wr A2 v v V (i : Int) Hvl.out H2.out (by have := HV.out; omega)
          generalize decide ((i : Int) ∈ X) = bx at hgd hvd cx
          generalize decide ((i : Int) ∈ Y) = by' at hgd hvd cy
          generalize decide ((i : Int) ∈ G) = bg at hgd cg
          generalize decide ((i : Int) ∈ V) = bv at hvd cv
          subst hgd
          subst hvd
          cases bx <;> cases by'
          · go_wp2_with (first
              | (go_at_call 10; with_reducible refine cx.mono ?_; rintro e w4 ⟨rfl, rfl⟩)
              | (go_at_call 10; with_reducible refine cy.mono ?_; rintro e w4 ⟨rfl, rfl⟩)
              | (go_at_call 10; with_reducible refine cg.mono ?_; rintro e w4 ⟨rfl, rfl⟩)
              | (go_at_call 10; with_reducible refine cv.mono ?_; rintro e w4 ⟨rfl, rfl⟩)
              | fail)
            refine ⟨⟨i + 1, by go_num, by omega, Lib.hid trivial⟩, ?_⟩
            show 50 - ((i : Int) + 1).toNat < 50 - ((i : Int)).toNat
            omega
          · go_wp2_with (first
              | (go_at_call 10; with_reducible refine cx.mono ?_; rintro e w4 ⟨rfl, rfl⟩)
              | (go_at_call 10; with_reducible refine cy.mono ?_; rintro e w4 ⟨rfl, rfl⟩)
              | (go_at_call 10; with_reducible refine cg.mono ?_; rintro e w4 ⟨rfl, rfl⟩)
              | (go_at_call 10; with_reducible refine cv.mono ?_; rintro e w4 ⟨rfl, rfl⟩)
              | fail)
            refine ⟨⟨i + 1, by go_num, by omega, Lib.hid trivial⟩, ?_⟩
            show 50 - ((i : Int) + 1).toNat < 50 - ((i : Int)).toNat
            omega
          · go_wp2_with (first
              | (go_at_call 10; with_reducible refine cx.mono ?_; rintro e w4 ⟨rfl, rfl⟩)
              | (go_at_call 10; with_reducible refine cy.mono ?_; rintro e w4 ⟨rfl, rfl⟩)
              | (go_at_call 10; with_reducible refine cg.mono ?_; rintro e w4 ⟨rfl, rfl⟩)
              | (go_at_call 10; with_reducible refine cv.mono ?_; rintro e w4 ⟨rfl, rfl⟩)
              | fail)
            refine ⟨⟨i + 1, by go_num, by omega, Lib.hid trivial⟩, ?_⟩
            show 50 - ((i : Int) + 1).toNat < 50 - ((i : Int)).toNat
            omega
          · go_wp2_with (first
              | (go_at_call 10; with_reducible refine cx.mono ?_; rintro e w4 ⟨rfl, rfl⟩)
              | (go_at_call 10; with_reducible refine cy.mono ?_; rintro e w4 ⟨rfl, rfl⟩)
              | (go_at_call 10; with_reducible refine cg.mono ?_; rintro e w4 ⟨rfl, rfl⟩)
              | (go_at_call 10; with_reducible refine cv.mono ?_; rintro e w4 ⟨rfl, rfl⟩)
              | fail)
            refine ⟨⟨i + 1, by go_num, by omega, Lib.hid trivial⟩, ?_⟩
            show 50 - ((i : Int) + 1).toNat < 50 - ((i : Int)).toNat
            omega
        · have cpq := split_any wr A6 A5 n6 c6 n5 c5 Y X HY.out HX.out (by omega) (by omega)
          rw [Hyx.out] at cpq
          have Hcpq := Lib.hid cpq
          clear cpq
          go_wp2_with (first
            | (go_at_call 11; refine Hcpq.out.mono ?_; rintro e w5 ⟨A3, A4, rfl, h3, h4, hb5⟩; have H3 := Lib.hid h3; have H4 := Lib.hid h4; have H1b := Lib.hid ((H1.out.below hb5).more hb5.size); have H2b := Lib.hid ((H2.out.below hb5).more hb5.size); have Hb5 := Lib.hid (Hb4.out.trans (hb5.mono Hb4.out.size)); clear h3 h4 hb5)
            | (go_at_call 12; (fail_if_success (have := q6)); refine (same_self w5 A3 A2 V.length V.length v v V rfl Hvl.out H3.out H2b.out (by have := HV.out; have := Hvl.out; omega)).mono ?_; rintro e w6 ⟨rfl, q6, rfl⟩)
            | (go_at_call 12; refine (same_self (w5.drewN q6) A4 A1 G.length G.length g g G rfl Hgl.out (H4.out.drewN q6) (H1b.out.drewN q6) (by have := HG.out; have := Hgl.out; omega)).mono ?_; rintro e w7 ⟨rfl, q7, rfl⟩)
            | (go_at_call 9; refine (awake_any _).mono ?_; rintro e w8 ⟨rfl, hb8⟩; have Hb8 := Lib.hid ((below_drewN Hb5.out (q6 + q7)).trans (hb8.mono Hb5.out.size)); clear hb8)
            | fail)
          go_ret
          exact ⟨by simp, Hb8.out⟩
end Go.Proofs.Ytogdmmjonojdfaa
