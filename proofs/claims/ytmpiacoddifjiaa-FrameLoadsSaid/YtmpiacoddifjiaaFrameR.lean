/- The walk of FrameLong. -/
import Derived.Test.YtmpiacoddifjiaaFrameQ
namespace Go.Proofs.Ytmpiacoddifjiaa
open Go.RowKit
set_option linter.unusedVariables false
/-- What the law has told so far: so many too long lines, and a row of those that are not. -/
def Told (B : Nat) (w : World) (E : List (Option (List Nat))) (lo li : Value) : Prop :=
  ∃ (p q : Nat) (A : Option Addr) (c : Nat), lo = .int .i64 p ∧ li = .slice A q c ∧ Hid (p = cnt E) ∧ Hid (q = (lv E).length) ∧ Hid (w.ownsRow B 9 1 (.slice A q c) q (lv E))
set_option maxRecDepth 100000 in
set_option maxHeartbeats 4000000 in
theorem long_any (n m : Int) (cr : Bool) (w : World) : Calls Try.prog 5 #[.int .i64 n, .int .i64 m, .bool cr] w fun e w' => e = .returned (.bool true) ∧ Below w.heap.size w w' := by
  obtain ⟨i0, hi, hz0, hz1, hz2⟩ := info_parts info5
  obtain ⟨iS, his, hs0, hs1, hs2⟩ := info_parts info9
  obtain ⟨hr1, hr2⟩ := tmod600 n
  obtain ⟨R, hR⟩ : ∃ R, Int.tmod n 600 = R := ⟨_, rfl⟩
  rw [hR] at hr1 hr2
  obtain ⟨M, hM, h1⟩ := mask m 127 (by decide)
  have m1 : bits .and .i64 m 127 = (M : Int) := h1
  clear h1
  by_cases hneg : R < 0
  · go_enter Try.func5, Try.ntmps5
    go_wp2_with fail
    refine (awake_any _).mono ?_
    rintro e w2 ⟨rfl, hb2⟩
    have Hb2 := Lib.hid hb2
    clear hb2
    go_wp2_with fail
    go_ret
    exact ⟨rfl, Hb2.out⟩
  obtain ⟨N, hN⟩ : ∃ N : Nat, R = (N : Int) := ⟨R.toNat, by omega⟩
  subst hN
  have hN6 : N < 600 := by omega
  have hmk : ∀ W : World, (Instr.makeSlice 26 (.int .i64 (N : Int)) (.int .i64 (N : Int))).run Try.prog W = .ok (.slice (some ⟨W.heap.size, 0, none⟩) N N) (W.alloc (.cells (fillA pa N 0) 5)) := by
    intro W
    have h := run_make_rowN 26 5 i0 (.int .u8 0) Try.underlying26 hi hz0 .i64 .i64 N N (Nat.le_refl _) (by rw [hz2]; omega) (by omega) W
    rw [hz1, Nat.mul_one] at h
    rw [← fillA_start]
    exact h
  clear hr1 hr2 hneg
  go_enter Try.func5, Try.ntmps5
  go_wp2_with fail
  go_loopw [31] (fun i wr => ∃ k : Nat, k ≤ N ∧ i = .int .i64 k ∧ Blk wr w.heap.size 5 (fillA pa N k) ∧ Below w.heap.size w wr) (fun i _ => N - (intOf i).toNat)
  case atStart => exact ⟨0, by omega, rfl, Blk.new w 5 _, (Below.refl _ _).alloc (Nat.le_refl _) _⟩
  case round =>
    obtain ⟨k, hk, rfl, hblk, hbel⟩ := hrel
    clear hmk
    by_cases hlt : k < N
    · have htm : Int.tmod (k : Int) 26 = ((k % 26 : Nat) : Int) := rfl
      have hm3 : k % 26 < 26 := by omega
      have hpa : (97 : Int) + ((k % 26 : Nat) : Int) = ((pa k : Nat) : Int) := by unfold pa; omega
      have hpl := pa_lt k
      have hbc : wr.cell? ⟨w.heap.size, k, none⟩ = some (.int .u8 ((if k < k then pa k else 0 : Nat) : Int)) := by rw [hblk.cell]; exact fillA_cell pa N k k hlt
      have hfz := hblk.frozen k
      have Hb2 := Lib.hid (hblk.set_ k (.int .u8 ((pa k : Nat) : Int)))
      rw [fillA_set pa N k hlt] at Hb2
      have Hbel2 := Lib.hid (hbel.setCell (p := ⟨w.heap.size, k, none⟩) (Nat.le_refl _) (.int .u8 ((pa k : Nat) : Int)))
      clear hblk hbel
      go_wp2_with fail
      go_roundw
      case rel => exact ⟨k + 1, by omega, by go_num, Hb2.out, Hbel2.out⟩
      case measure => simp [intOf]; omega
    · have hkK : k = N := by omega
      rw [hkK] at hblk
      clear hkK
      have hown := fill_own (Nat.le_refl w.heap.size) (by omega) hblk
      have hcv := conv_reads (P := Try.prog) 26 5 9 Try.underlying26 Try.underlying5 Try.underlying9 (rowF pa N) N (Reads.of_own hown) (rowF_lt pa_lt N)
      have Hbel := Lib.hid hbel
      have hszr := hbel.size
      obtain ⟨S, hS⟩ : ∃ S, S = strB (rowF pa N) := ⟨_, rfl⟩
      have hSz : S.size = N := by rw [hS, strB_size, rowF_length]
      rw [← hS] at hcv
      have HS := Lib.hid hS
      clear hblk hbel hown hS
      cases cr
      · go_wp2_with fail
        refine (new_any w.heap.size wr hszr).mono ?_
        rintro e w2 ⟨rfl, hf2, hb2⟩
        have hBG := hf2.1
        have Hf2 := Lib.hid hf2
        have Hb2 := Lib.hid (Hbel.out.trans (hb2.mono hszr))
        clear hf2 hb2 hcv
        obtain ⟨G, hG⟩ : ∃ G, G = wr.heap.size := ⟨_, rfl⟩
        rw [← hG] at Hf2 hBG
        simp only [← hG]
        clear hG
        obtain ⟨TX, hTX⟩ : ∃ TX, TX = S ++ ⟨#[10, 110, 101, 120, 116, 10]⟩ := ⟨_, rfl⟩
        have HTX : Hid (TX = strB (txt N false)) := Lib.hid (by rw [hTX, txt_str, show strB (body N false) = strB (rowF pa N) from rfl, HS.out])
        obtain ⟨t, ht⟩ : ∃ t, t = (txt N false).length := ⟨_, rfl⟩
        have ht7 : t ≤ 610 := by have := txt_len N false; omega
        have hTXs : TX.size = t := by rw [HTX.out, strB_size, ht]
        have HTXE := Lib.hid hTX
        have Ht := Lib.hid ht
        clear hTX ht
        go_wp2_with fail
        rw [← HTXE.out]
        go_wp2_with fail
        obtain ⟨tx, htx⟩ : ∃ tx, tx = txt N false := ⟨_, rfl⟩
        have Htx := Lib.hid htx
        have Htb : Hid (∀ i, tx.getD i 0 < 256) := Lib.hid (by rw [htx]; exact txt_lt N false)
        have Htl : Hid (t = tx.length) := Lib.hid (by rw [htx]; exact Ht.out)
        have HTS : Hid (TX = strB tx) := Lib.hid (by rw [htx]; exact HTX.out)
        clear htx HTXE
        go_loopw [12, 13, 14] (fun lo li at_ ws => ∃ (a : Nat) (E : List (Option (List Nat))), at_ = .int .i64 a ∧ a ≤ t ∧ Told w.heap.size ws E lo li ∧ Hid (runE ([], false) (tx.take a) = E) ∧ Hid (Frm ws w.heap.size G (runS ([], false) (tx.take a)).1 0 (runS ([], false) (tx.take a)).2) ∧ Hid (Below w.heap.size w ws)) (fun _ _ at_ _ => t - (intOf at_).toNat)
        case atStart => exact ⟨0, [], rfl, by omega, ⟨0, 0, none, 0, rfl, rfl, Lib.hid rfl, Lib.hid rfl, Lib.hid ⟨rfl, .inl ⟨rfl, rfl⟩⟩⟩, Lib.hid rfl, Hf2, Hb2⟩
        case round =>
          obtain ⟨a, E, rfl, ha, ⟨p, q, A, c, rfl, rfl, hp, hq, hown⟩, hE, hF, hbel⟩ := hrel
          have hBr := hbel.out.size
          by_cases hlt : a < t
          · obtain ⟨j, hj⟩ : ∃ j, j = min (M + 1) (t - a) := ⟨_, rfl⟩
            have hmin : min ((M : Int) + 1) ((t : Int) - (a : Int)) = (j : Int) := by omega
            have hj1 : 1 ≤ j := by omega
            have hja : a + j ≤ t := by omega
            obtain ⟨S2, hS2⟩ : ∃ S2, S2 = TX.extract a (a + j) := ⟨_, rfl⟩
            have hsl := fun W => slice_str TX a j W (by rw [hTXs]; exact hja)
            rw [← hS2] at hsl
            have hlen : ((tx.drop a).take j).length = j := by rw [List.length_take, List.length_drop, ← Htl.out]; omega
            have hS2e : S2 = strB ((tx.drop a).take j) := by rw [hS2, HTS.out, strB_cut]
            have hS2z : S2.size = j := by rw [hS2e, strB_size, hlen]
            have hcs := fun W => conv_str S2 W
            simp only [hS2z] at hcs
            have HS2 := Lib.hid hS2e
            have Hlen := Lib.hid hlen
            have hbm := Lib.hid (take_lt (drop_lt Htb.out a) j)
            clear hj hS2 hS2e hlen
            go_wp2_with fail
            have HBel1 := Lib.hid (hbel.out.alloc hBr (.cells (bytesRow S2 (grownCap wr j 0 5)) 5 ((bytesRow S2 (grownCap wr j 0 5)).size, (bytesRow S2 (grownCap wr j 0 5)).size + 1)))
            have HOwn1 := Lib.hid (hown.out.alloc (.cells (bytesRow S2 (grownCap wr j 0 5)) 5 ((bytesRow S2 (grownCap wr j 0 5)).size, (bytesRow S2 (grownCap wr j 0 5)).size + 1)))
            have HFrm1 := Lib.hid (hF.out.alloc (.cells (bytesRow S2 (grownCap wr j 0 5)) 5 ((bytesRow S2 (grownCap wr j 0 5)).size, (bytesRow S2 (grownCap wr j 0 5)).size + 1)))
            have HR := Lib.hid (row_of_string ((tx.drop a).take j) hbm.out wr 5 (grownCap wr j 0 5) ((bytesRow S2 (grownCap wr j 0 5)).size, (bytesRow S2 (grownCap wr j 0 5)).size + 1))
            rw [← HS2.out, Hlen.out] at HR
            generalize (bytesRow S2 (grownCap wr j 0 5)) = C at *
            have hsz1 := HBel1.out.size
            have hal : (tx.take a).length ≤ 610 := by rw [List.length_take]; omega
            refine (tk.fed_any w.heap.size G (tx.take a) ((tx.drop a).take j) _ j _ _ (take_lt Htb.out a) hbm.out (by omega) ?bz ?fz ?rz).mono ?_
            case bz => exact hsz1
            case fz => exact HFrm1.out.drew
            case rz => exact HR.out
            rintro e w5 ⟨rfl, X, Y, hf5, hx, hxb, hE5, hS5, hk5⟩
            rw [← take_more] at hE5 hS5
            rw [hE.out] at hE5
            obtain ⟨cs, hblk⟩ := tk.frm_blk HFrm1.out
            have HOwn5 := Lib.hid (tk.own_keep (w := (wr.alloc (.cells C 5 (C.size, C.size + 1))).drew) HOwn1.out hk5 hblk)
            have HBel5 := Lib.hid (HBel1.out.drew.trans (hk5.to_below hBG hsz1))
            have Hf5 := Lib.hid hf5
            have Hxb := Lib.hid hxb
            have HE5 := Lib.hid hE5
            have HS5 := Lib.hid hS5
            have hXl : X.length ≤ 1220 := by have := Hlen.out; omega
            clear hf5 hxb hE5 hS5 hk5 hblk hx hal hsz1 HBel1 HOwn1 HFrm1 HR hcs hsl
            go_wp2_with fail
            go_loopw [12, 13] (fun lo li ws => ∃ (E : List (Option (List Nat))) (L : List Nat) (cc : Bool), Told w.heap.size ws E lo li ∧ Hid (runE ([], false) (tx.take (a + j)) = E ++ runE ([], cc) L) ∧ Hid (runS ([], false) (tx.take (a + j)) = runS ([], cc) L) ∧ Hid (∀ i, L.getD i 0 < 256) ∧ L.length ≤ 1220 ∧ Hid (Frm ws w.heap.size G L 0 cc) ∧ Hid (Below w.heap.size w ws)) (fun lo li _ => 701 - ((intOf lo).toNat + lenOf li))
            case atStart => exact ⟨E, X, Y, ⟨p, q, A, c, rfl, rfl, hp, hq, HOwn5⟩, HE5, HS5, Hxb, hXl, Hf5, HBel5⟩
            case round =>
              obtain ⟨E2, L, cc, ⟨p2, q2, A2, c2, rfl, rfl, hp2, hq2, hown2⟩, hE2, hS2, hLb, hLl, hF2, hbel2⟩ := hrel
              have hB2 := hbel2.out.size
              have hpq : p2 + q2 ≤ 610 := by
                have h1 := cnt_lv E2
                have h2 := runE_len (tx.take (a + j)) ([], false)
                rw [hE2.out, List.length_append, List.length_take] at h2
                rw [hp2.out, hq2.out]
                omega
              go_wp2_with fail
              refine (tk.line_step w.heap.size G L cc wr hLb.out (by omega) hB2 hF2.out).mono ?_
              rintro e w6 ⟨hs, hk6⟩
              obtain ⟨cs6, hblk6⟩ := tk.frm_blk hF2.out
              have hown6 := Lib.hid (tk.own_keep hown2.out hk6 hblk6)
              have hb6 := Lib.hid (hbel2.out.trans (hk6.to_below hBG hB2))
              clear hk6 hblk6
              rcases hs with ⟨rfl, h1, h2⟩ | ⟨L', c', q1, g2, g3, g5, ⟨rfl, g4⟩ | ⟨m', g1, g6, rfl, g4⟩⟩
              · have H2 := Lib.hid h2
                have H1 := Lib.hid h1
                clear h1 h2
                go_wp2_with fail
                go_roundw
                case rel => exact ⟨a + j, E2, by go_num, by omega, ⟨p2, q2, A2, c2, rfl, rfl, hp2, hq2, hown6⟩, Lib.hid (by rw [hE2.out, H1.out, List.append_nil]), Lib.hid (by rw [hS2.out]; exact H2.out), hb6⟩
                case measure => simp [intOf]; omega
              · have H2 := Lib.hid g2
                have H3 := Lib.hid g3
                have H5 := Lib.hid g5
                have G4 := Lib.hid g4
                clear g2 g3 g5 g4
                go_wp2_with fail
                go_roundw
                case rel => exact ⟨E2 ++ [none], L', c', ⟨p2 + 1, q2, A2, c2, by go_num, rfl, Lib.hid (by rw [cnt_none, hp2.out]), Lib.hid (by rw [lv_none]; exact hq2.out), Lib.hid (by rw [lv_none]; exact hown6.out)⟩, Lib.hid (by rw [hE2.out, G4.out, List.append_assoc]; rfl), Lib.hid (by rw [hS2.out, H5.out]), H2, by omega, H3, hb6⟩
                case measure => simp [intOf, lenOf]; omega
              · have H2 := Lib.hid g2
                have H3 := Lib.hid g3
                have H5 := Lib.hid g5
                have G4 := Lib.hid g4
                have hszB : w.heap.size ≤ w6.heap.size := hb6.out.size
                clear g2 g3 g5 g4 g1
                obtain ⟨T, hT⟩ : ∃ T, T = strB m' := ⟨_, rfl⟩
                rw [← hT]
                have HT := Lib.hid hT
                clear hT
                go_wp2_with (at_builtin; go_loud (refine wpList_append_any _ rfl (.tmp 87) (.tmp 89) 35 rfl w.heap.size 9 iS (.string ⟨#[]⟩) 1 16 Try.underlying35 his hs0 hs1 hs2 rfl (by decide) _ q2 (lv E2) rfl (hown6.out.alloc _) (w6.heap.size + 1) (some ⟨w6.heap.size, 0, none⟩) 1 _ [.string T] rfl (one_reads w6 9 (.string T)) (by intro u hu; rw [List.mem_singleton] at hu; subst hu; rfl) (by unfold maxLen; omega) (by omega) (by simp; omega) ?_; intro v' w7 hown7 hgrow7 hat; obtain ⟨A7, c7, rfl⟩ := own_shape hown7; have HOwn7 := Lib.hid hown7; have HF7 := Lib.hid (tk.frm_beside (H3.out.alloc _) (hown6.out.alloc _) hgrow7); have HB7 := Lib.hid ((hb6.out.alloc hszB _).grown hgrow7 (by simp; omega) (fun k hk => (hown6.out.lt k hk).1)); clear hown7 hgrow7 hat))
                go_roundw
                case rel => exact ⟨E2 ++ [some m'], L', c', ⟨p2, q2 + 1, A7, c7, rfl, rfl, Lib.hid (by rw [cnt_some]; exact hp2.out), Lib.hid (by rw [lv_some, List.length_append, ← hq2.out]; rfl), Lib.hid (by rw [lv_some, ← HT.out]; exact HOwn7.out)⟩, Lib.hid (by rw [hE2.out, G4.out, List.append_assoc]; rfl), Lib.hid (by rw [hS2.out, H5.out]), H2, by omega, HF7, HB7⟩
                case measure => simp [intOf, lenOf]; omega
          · have hat : a = t := by omega
            have htk : tx.take a = txt N false := by rw [hat, Htl.out, List.take_length, Htx.out]
            have hEt : E = [evn N, some nx4] := by rw [← hE.out, htk, (txt_run N false).1]
            have hF' := hF.out
            rw [htk, (txt_run N false).2] at hF'
            have HF := Lib.hid hF'
            rw [hEt] at hp hq hown
            clear hF' hEt htk
            by_cases h256 : 256 < N
            · have hev : evn N = none := if_pos h256
              rw [hev] at hp hq hown
              have hp1 : p = 1 := hp.out
              have hq1 : q = 1 := hq.out
              subst hp1
              subst hq1
              obtain ⟨g, hA, hc⟩ := own_cells hown.out (by omega)
              subst hA
              have hc0 : wr.cell? ⟨g, 0, none⟩ = some (.string ⟨#[110, 101, 120, 116]⟩) := hc 0 _ rfl
              clear hc hev
              go_wp2_with fail
              refine (waiting_any w.heap.size G [] 0 false wr HF.out).mono ?_
              rintro e w7 ⟨rfl, rfl⟩
              go_wp2_with fail
              refine (awake_any _).mono ?_
              rintro e w8 ⟨rfl, hb8⟩
              have Hb8 := Lib.hid (hbel.out.trans (hb8.mono hBr))
              clear hb8
              go_wp2_with fail
              go_ret
              exact ⟨rfl, Hb8.out⟩
            · have hev : evn N = some (rowF pa N) := if_neg h256
              rw [hev] at hp hq hown
              have hp1 : p = 0 := hp.out
              have hq1 : q = 2 := hq.out
              subst hp1
              subst hq1
              obtain ⟨g, hA, hc⟩ := own_cells hown.out (by omega)
              subst hA
              have hc0 : wr.cell? ⟨g, 0, none⟩ = some (.string S) := by rw [HS.out]; exact hc 0 _ rfl
              have hc1 : wr.cell? ⟨g, 1, none⟩ = some (.string ⟨#[110, 101, 120, 116]⟩) := hc 1 _ rfl
              have hqq : (S.toList == S.toList) = true := beq_self_eq_true _
              clear hc hev
              go_wp2_with fail
              refine (awake_any _).mono ?_
              rintro e w8 ⟨rfl, hb8⟩
              have Hb8 := Lib.hid (hbel.out.trans (hb8.mono hBr))
              clear hb8
              go_wp2_with fail
              go_ret
              exact ⟨rfl, Hb8.out⟩
      · go_wp2_with fail
        refine (new_any w.heap.size wr hszr).mono ?_
        rintro e w2 ⟨rfl, hf2, hb2⟩
        have hBG := hf2.1
        have Hf2 := Lib.hid hf2
        have Hb2 := Lib.hid (Hbel.out.trans (hb2.mono hszr))
        clear hf2 hb2 hcv
        obtain ⟨G, hG⟩ : ∃ G, G = wr.heap.size := ⟨_, rfl⟩
        rw [← hG] at Hf2 hBG
        simp only [← hG]
        clear hG
        obtain ⟨TX, hTX⟩ : ∃ TX, TX = S ++ ⟨#[13]⟩ ++ ⟨#[10, 110, 101, 120, 116, 10]⟩ := ⟨_, rfl⟩
        have HTX : Hid (TX = strB (txt N true)) := Lib.hid (by rw [hTX, txt_str, body_str, HS.out])
        obtain ⟨t, ht⟩ : ∃ t, t = (txt N true).length := ⟨_, rfl⟩
        have ht7 : t ≤ 610 := by have := txt_len N true; omega
        have hTXs : TX.size = t := by rw [HTX.out, strB_size, ht]
        have HTXE := Lib.hid hTX
        have Ht := Lib.hid ht
        clear hTX ht
        go_wp2_with fail
        rw [← HTXE.out]
        go_wp2_with fail
        obtain ⟨tx, htx⟩ : ∃ tx, tx = txt N true := ⟨_, rfl⟩
        have Htx := Lib.hid htx
        have Htb : Hid (∀ i, tx.getD i 0 < 256) := Lib.hid (by rw [htx]; exact txt_lt N true)
        have Htl : Hid (t = tx.length) := Lib.hid (by rw [htx]; exact Ht.out)
        have HTS : Hid (TX = strB tx) := Lib.hid (by rw [htx]; exact HTX.out)
        clear htx HTXE
        go_loopw [12, 13, 14] (fun lo li at_ ws => ∃ (a : Nat) (E : List (Option (List Nat))), at_ = .int .i64 a ∧ a ≤ t ∧ Told w.heap.size ws E lo li ∧ Hid (runE ([], false) (tx.take a) = E) ∧ Hid (Frm ws w.heap.size G (runS ([], false) (tx.take a)).1 0 (runS ([], false) (tx.take a)).2) ∧ Hid (Below w.heap.size w ws)) (fun _ _ at_ _ => t - (intOf at_).toNat)
        case atStart => exact ⟨0, [], rfl, by omega, ⟨0, 0, none, 0, rfl, rfl, Lib.hid rfl, Lib.hid rfl, Lib.hid ⟨rfl, .inl ⟨rfl, rfl⟩⟩⟩, Lib.hid rfl, Hf2, Hb2⟩
        case round =>
          obtain ⟨a, E, rfl, ha, ⟨p, q, A, c, rfl, rfl, hp, hq, hown⟩, hE, hF, hbel⟩ := hrel
          have hBr := hbel.out.size
          by_cases hlt : a < t
          · obtain ⟨j, hj⟩ : ∃ j, j = min (M + 1) (t - a) := ⟨_, rfl⟩
            have hmin : min ((M : Int) + 1) ((t : Int) - (a : Int)) = (j : Int) := by omega
            have hj1 : 1 ≤ j := by omega
            have hja : a + j ≤ t := by omega
            obtain ⟨S2, hS2⟩ : ∃ S2, S2 = TX.extract a (a + j) := ⟨_, rfl⟩
            have hsl := fun W => slice_str TX a j W (by rw [hTXs]; exact hja)
            rw [← hS2] at hsl
            have hlen : ((tx.drop a).take j).length = j := by rw [List.length_take, List.length_drop, ← Htl.out]; omega
            have hS2e : S2 = strB ((tx.drop a).take j) := by rw [hS2, HTS.out, strB_cut]
            have hS2z : S2.size = j := by rw [hS2e, strB_size, hlen]
            have hcs := fun W => conv_str S2 W
            simp only [hS2z] at hcs
            have HS2 := Lib.hid hS2e
            have Hlen := Lib.hid hlen
            have hbm := Lib.hid (take_lt (drop_lt Htb.out a) j)
            clear hj hS2 hS2e hlen
            go_wp2_with fail
            have HBel1 := Lib.hid (hbel.out.alloc hBr (.cells (bytesRow S2 (grownCap wr j 0 5)) 5 ((bytesRow S2 (grownCap wr j 0 5)).size, (bytesRow S2 (grownCap wr j 0 5)).size + 1)))
            have HOwn1 := Lib.hid (hown.out.alloc (.cells (bytesRow S2 (grownCap wr j 0 5)) 5 ((bytesRow S2 (grownCap wr j 0 5)).size, (bytesRow S2 (grownCap wr j 0 5)).size + 1)))
            have HFrm1 := Lib.hid (hF.out.alloc (.cells (bytesRow S2 (grownCap wr j 0 5)) 5 ((bytesRow S2 (grownCap wr j 0 5)).size, (bytesRow S2 (grownCap wr j 0 5)).size + 1)))
            have HR := Lib.hid (row_of_string ((tx.drop a).take j) hbm.out wr 5 (grownCap wr j 0 5) ((bytesRow S2 (grownCap wr j 0 5)).size, (bytesRow S2 (grownCap wr j 0 5)).size + 1))
            rw [← HS2.out, Hlen.out] at HR
            generalize (bytesRow S2 (grownCap wr j 0 5)) = C at *
            have hsz1 := HBel1.out.size
            have hal : (tx.take a).length ≤ 610 := by rw [List.length_take]; omega
            refine (tk.fed_any w.heap.size G (tx.take a) ((tx.drop a).take j) _ j _ _ (take_lt Htb.out a) hbm.out (by omega) ?bz ?fz ?rz).mono ?_
            case bz => exact hsz1
            case fz => exact HFrm1.out.drew
            case rz => exact HR.out
            rintro e w5 ⟨rfl, X, Y, hf5, hx, hxb, hE5, hS5, hk5⟩
            rw [← take_more] at hE5 hS5
            rw [hE.out] at hE5
            obtain ⟨cs, hblk⟩ := tk.frm_blk HFrm1.out
            have HOwn5 := Lib.hid (tk.own_keep (w := (wr.alloc (.cells C 5 (C.size, C.size + 1))).drew) HOwn1.out hk5 hblk)
            have HBel5 := Lib.hid (HBel1.out.drew.trans (hk5.to_below hBG hsz1))
            have Hf5 := Lib.hid hf5
            have Hxb := Lib.hid hxb
            have HE5 := Lib.hid hE5
            have HS5 := Lib.hid hS5
            have hXl : X.length ≤ 1220 := by have := Hlen.out; omega
            clear hf5 hxb hE5 hS5 hk5 hblk hx hal hsz1 HBel1 HOwn1 HFrm1 HR hcs hsl
            go_wp2_with fail
            go_loopw [12, 13] (fun lo li ws => ∃ (E : List (Option (List Nat))) (L : List Nat) (cc : Bool), Told w.heap.size ws E lo li ∧ Hid (runE ([], false) (tx.take (a + j)) = E ++ runE ([], cc) L) ∧ Hid (runS ([], false) (tx.take (a + j)) = runS ([], cc) L) ∧ Hid (∀ i, L.getD i 0 < 256) ∧ L.length ≤ 1220 ∧ Hid (Frm ws w.heap.size G L 0 cc) ∧ Hid (Below w.heap.size w ws)) (fun lo li _ => 701 - ((intOf lo).toNat + lenOf li))
            case atStart => exact ⟨E, X, Y, ⟨p, q, A, c, rfl, rfl, hp, hq, HOwn5⟩, HE5, HS5, Hxb, hXl, Hf5, HBel5⟩
            case round =>
              obtain ⟨E2, L, cc, ⟨p2, q2, A2, c2, rfl, rfl, hp2, hq2, hown2⟩, hE2, hS2, hLb, hLl, hF2, hbel2⟩ := hrel
              have hB2 := hbel2.out.size
              have hpq : p2 + q2 ≤ 610 := by
                have h1 := cnt_lv E2
                have h2 := runE_len (tx.take (a + j)) ([], false)
                rw [hE2.out, List.length_append, List.length_take] at h2
                rw [hp2.out, hq2.out]
                omega
              go_wp2_with fail
              refine (tk.line_step w.heap.size G L cc wr hLb.out (by omega) hB2 hF2.out).mono ?_
              rintro e w6 ⟨hs, hk6⟩
              obtain ⟨cs6, hblk6⟩ := tk.frm_blk hF2.out
              have hown6 := Lib.hid (tk.own_keep hown2.out hk6 hblk6)
              have hb6 := Lib.hid (hbel2.out.trans (hk6.to_below hBG hB2))
              clear hk6 hblk6
              rcases hs with ⟨rfl, h1, h2⟩ | ⟨L', c', q1, g2, g3, g5, ⟨rfl, g4⟩ | ⟨m', g1, g6, rfl, g4⟩⟩
              · have H2 := Lib.hid h2
                have H1 := Lib.hid h1
                clear h1 h2
                go_wp2_with fail
                go_roundw
                case rel => exact ⟨a + j, E2, by go_num, by omega, ⟨p2, q2, A2, c2, rfl, rfl, hp2, hq2, hown6⟩, Lib.hid (by rw [hE2.out, H1.out, List.append_nil]), Lib.hid (by rw [hS2.out]; exact H2.out), hb6⟩
                case measure => simp [intOf]; omega
              · have H2 := Lib.hid g2
                have H3 := Lib.hid g3
                have H5 := Lib.hid g5
                have G4 := Lib.hid g4
                clear g2 g3 g5 g4
                go_wp2_with fail
                go_roundw
                case rel => exact ⟨E2 ++ [none], L', c', ⟨p2 + 1, q2, A2, c2, by go_num, rfl, Lib.hid (by rw [cnt_none, hp2.out]), Lib.hid (by rw [lv_none]; exact hq2.out), Lib.hid (by rw [lv_none]; exact hown6.out)⟩, Lib.hid (by rw [hE2.out, G4.out, List.append_assoc]; rfl), Lib.hid (by rw [hS2.out, H5.out]), H2, by omega, H3, hb6⟩
                case measure => simp [intOf, lenOf]; omega
              · have H2 := Lib.hid g2
                have H3 := Lib.hid g3
                have H5 := Lib.hid g5
                have G4 := Lib.hid g4
                have hszB : w.heap.size ≤ w6.heap.size := hb6.out.size
                clear g2 g3 g5 g4 g1
                obtain ⟨T, hT⟩ : ∃ T, T = strB m' := ⟨_, rfl⟩
                rw [← hT]
                have HT := Lib.hid hT
                clear hT
                go_wp2_with (at_builtin; go_loud (refine wpList_append_any _ rfl (.tmp 87) (.tmp 89) 35 rfl w.heap.size 9 iS (.string ⟨#[]⟩) 1 16 Try.underlying35 his hs0 hs1 hs2 rfl (by decide) _ q2 (lv E2) rfl (hown6.out.alloc _) (w6.heap.size + 1) (some ⟨w6.heap.size, 0, none⟩) 1 _ [.string T] rfl (one_reads w6 9 (.string T)) (by intro u hu; rw [List.mem_singleton] at hu; subst hu; rfl) (by unfold maxLen; omega) (by omega) (by simp; omega) ?_; intro v' w7 hown7 hgrow7 hat; obtain ⟨A7, c7, rfl⟩ := own_shape hown7; have HOwn7 := Lib.hid hown7; have HF7 := Lib.hid (tk.frm_beside (H3.out.alloc _) (hown6.out.alloc _) hgrow7); have HB7 := Lib.hid ((hb6.out.alloc hszB _).grown hgrow7 (by simp; omega) (fun k hk => (hown6.out.lt k hk).1)); clear hown7 hgrow7 hat))
                go_roundw
                case rel => exact ⟨E2 ++ [some m'], L', c', ⟨p2, q2 + 1, A7, c7, rfl, rfl, Lib.hid (by rw [cnt_some]; exact hp2.out), Lib.hid (by rw [lv_some, List.length_append, ← hq2.out]; rfl), Lib.hid (by rw [lv_some, ← HT.out]; exact HOwn7.out)⟩, Lib.hid (by rw [hE2.out, G4.out, List.append_assoc]; rfl), Lib.hid (by rw [hS2.out, H5.out]), H2, by omega, HF7, HB7⟩
                case measure => simp [intOf, lenOf]; omega
          · have hat : a = t := by omega
            have htk : tx.take a = txt N true := by rw [hat, Htl.out, List.take_length, Htx.out]
            have hEt : E = [evn N, some nx4] := by rw [← hE.out, htk, (txt_run N true).1]
            have hF' := hF.out
            rw [htk, (txt_run N true).2] at hF'
            have HF := Lib.hid hF'
            rw [hEt] at hp hq hown
            clear hF' hEt htk
            by_cases h256 : 256 < N
            · have hev : evn N = none := if_pos h256
              rw [hev] at hp hq hown
              have hp1 : p = 1 := hp.out
              have hq1 : q = 1 := hq.out
              subst hp1
              subst hq1
              obtain ⟨g, hA, hc⟩ := own_cells hown.out (by omega)
              subst hA
              have hc0 : wr.cell? ⟨g, 0, none⟩ = some (.string ⟨#[110, 101, 120, 116]⟩) := hc 0 _ rfl
              clear hc hev
              go_wp2_with fail
              refine (waiting_any w.heap.size G [] 0 false wr HF.out).mono ?_
              rintro e w7 ⟨rfl, rfl⟩
              go_wp2_with fail
              refine (awake_any _).mono ?_
              rintro e w8 ⟨rfl, hb8⟩
              have Hb8 := Lib.hid (hbel.out.trans (hb8.mono hBr))
              clear hb8
              go_wp2_with fail
              go_ret
              exact ⟨rfl, Hb8.out⟩
            · have hev : evn N = some (rowF pa N) := if_neg h256
              rw [hev] at hp hq hown
              have hp1 : p = 0 := hp.out
              have hq1 : q = 2 := hq.out
              subst hp1
              subst hq1
              obtain ⟨g, hA, hc⟩ := own_cells hown.out (by omega)
              subst hA
              have hc0 : wr.cell? ⟨g, 0, none⟩ = some (.string S) := by rw [HS.out]; exact hc 0 _ rfl
              have hc1 : wr.cell? ⟨g, 1, none⟩ = some (.string ⟨#[110, 101, 120, 116]⟩) := hc 1 _ rfl
              have hqq : (S.toList == S.toList) = true := beq_self_eq_true _
              clear hc hev
              go_wp2_with fail
              refine (awake_any _).mono ?_
              rintro e w8 ⟨rfl, hb8⟩
              have Hb8 := Lib.hid (hbel.out.trans (hb8.mono hBr))
              clear hb8
              go_wp2_with fail
              go_ret
              exact ⟨rfl, Hb8.out⟩
end Go.Proofs.Ytmpiacoddifjiaa
