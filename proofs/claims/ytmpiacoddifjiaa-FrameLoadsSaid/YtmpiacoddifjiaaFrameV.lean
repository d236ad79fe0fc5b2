/- The walk of FrameLoads. -/
import Derived.Test.YtmpiacoddifjiaaFrameU
namespace Go.Proofs.Ytmpiacoddifjiaa
open Go.RowKit
set_option linter.unusedVariables false
set_option maxRecDepth 100000 in
set_option maxHeartbeats 4000000 in
theorem loads_any (A0 : Option Addr) (len cap : Nat) (sl : Bool) (A : Nat → Option Addr) (L C : Nat → Nat) (ps : Nat → List Nat) (w : World) (hlen : len ≤ 9223372036854775807)
    (hr : Reads w w.heap.size 1 A0 len ((List.range len).map fun r => Value.slice (A r) (L r) (C r)))
    (hrow : ∀ r, r < len → Reads w w.heap.size 1 (A r) (L r) (Ints .u8 (ps r)) ∧ (ps r).length = L r ∧ (∀ i, (ps r).getD i 0 < 256) ∧ L r ≤ 9223372036854775807) :
    Calls Try.prog 8 #[.slice A0 len cap, .bool sl] w fun e w' => e = .returned (.bool true) ∧ Below w.heap.size w w' := by
  obtain ⟨i0, hi, hz0, hz1, hz2⟩ := info_parts info5
  have Hr := Lib.hid hr
  have Hrow := Lib.hid hrow
  clear hr hrow
  obtain ⟨n, hn⟩ : ∃ n, n = min len 12 := ⟨_, rfl⟩
  have hmin : min (len : Int) 12 = (n : Int) := by omega
  have hn12 : n ≤ 12 := by omega
  have hnl : n ≤ len := by omega
  clear hn
  go_enter Try.func8, Try.ntmps8
  go_wp2_with fail
  refine (new2_any w).mono ?_
  rintro e w1 ⟨rfl, hk1, hb1⟩
  have Hk1 := Lib.hid hk1
  have Hb1 := Lib.hid hb1
  have hG1 := hk1.lt
  clear hk1 hb1
  go_wp2_with fail
  go_loopw [6, 8] (fun al i ws => ∃ (k q : Nat) (B : Option Addr) (c : Nat), i = .int .i64 k ∧ k ≤ n ∧ al = .slice B q c ∧ q ≤ 304 * k ∧ Hid (q = st ps k) ∧ Hid (∀ r, r < k → (ps r).length ≤ 300) ∧ Hid (ws.ownsRow w1.heap.size 5 1 (.slice B q c) q (Ints .u8 (allL ps k))) ∧ Hid (Below w1.heap.size w1 ws)) (fun _ i _ => n - (intOf i).toNat)
  case atStart => exact ⟨0, 0, none, 0, rfl, by omega, rfl, by omega, Lib.hid rfl, Lib.hid (fun r h => by omega), Lib.hid ⟨rfl, .inl ⟨rfl, rfl⟩⟩, Lib.hid (Below.refl _ _)⟩
  case round =>
    obtain ⟨k, q, B, c, rfl, hk, rfl, hqk, hq, hps, hown, hbel⟩ := hrel
    have hsz := hbel.out.size
    have Hbw : Hid (Below w.heap.size w wr) := Lib.hid (Hb1.out.trans (hbel.out.mono (by omega)))
    by_cases hlt : k < n
    · have hkl : k < len := by omega
      obtain ⟨ad, u, hA, hadb, hu, hcell⟩ := (Hr.out.below Hbw.out).at_ hkl
      subst hA
      rw [List.getElem?_map, List.getElem?_range hkl, Option.map_some, Option.some.injEq] at hu
      subst hu
      obtain ⟨hrk, hpl, hpb, hL63⟩ := Hrow.out k hkl
      have Hrkw := Lib.hid hrk
      obtain ⟨_, _, hA2, _, hu2, hcw⟩ := Hr.out.at_ hkl
      cases hA2
      rw [List.getElem?_map, List.getElem?_range hkl, Option.map_some, Option.some.injEq] at hu2
      subst hu2
      have Hcw := Lib.hid hcw
      have Hpl := Lib.hid hpl
      have Hpb := Lib.hid hpb
      generalize hAk : A k = Ak at *
      generalize hLk : L k = Lk at *
      generalize hCk : C k = Ck at *
      have HLk := Lib.hid hLk
      clear hAk hLk hCk hrk hpl hpb hcw
      by_cases h300 : 300 < Lk
      · go_wp2_with fail
        refine (awake_any _).mono ?_
        rintro e w2 ⟨rfl, hb2⟩
        have Hb2 := Lib.hid (Hbw.out.trans (hb2.mono Hbw.out.size))
        clear hb2
        go_wp2_with fail
        go_ret
        exact ⟨rfl, Hb2.out⟩
      · have hw1 : IntKind.i64.wrap ((97 : Int) + (k : Int)) = (97 : Int) + (k : Int) := IntWalk.i64_in _ (by omega)
        have hw2 : IntKind.u8.wrap ((97 : Int) + (k : Int)) = ((97 + k : Nat) : Int) := by rw [IntWalk.u8_in _ (by omega)]; omega
        go_wp2_with fail
        have hap0 : Ap w1.heap.size w1 wr (.slice B q c) q (allL ps k) := ⟨hown.out, hbel.out, hsz⟩
        have hcl0 := hcell
        have Hap0 := Lib.hid hap0
        clear hap0
        have hadb2 : ad.block < w1.heap.size := by omega
        go_region_held3 (fun w' => w'.cell? (ad.add k) = some (.slice Ak Lk Ck)) (first | assumption | (simp [*, World.cell?_alloc_some]; done)) (first
          | (rw [if_pos (by rfl)]; refine wp_gather (.tmp 35) (.tmp 39) rfl w1.heap.size w1 (.slice B q c) q (allL ps k) rfl (by first | exact Hap0.out.drew.alloc _ | exact (Hap0.out.alloc _).drew | exact ((Hap0.out.alloc _).alloc _).drew) (by omega) (wr.heap.size + 5) _ 3 _ [120, 97 + k, 10] rfl (by first | exact three_a wr (97 + k) | exact three_b wr (97 + k) _ | exact three_c wr (97 + k) _) (by omega) ?_; intro A1 c1 w11 hap1 ht1; have hcl1 : w11.cell? (ad.add k) = some (.slice Ak Lk Ck) := hap1.cl Hb1.out (by rw [block_of_add]; exact hadb) Hcw.out; first | (have h10 := ht1 _ ((Hap0.out.ten).alloc _).drew) | (have h10 := ht1 _ (Hap0.out.ten2 _).drew) | skip)
          | (rw [if_pos (by rfl)]; refine wp_gather (.tmp 40) (.tmp 44) rfl w1.heap.size w1 (.slice A1 (q + 3) c1) (q + 3) (allL ps k ++ [120, 97 + k, 10]) rfl (by first | exact hap1 | exact hap1.alloc _) (by omega) w.heap.size Ak Lk Ck (ps k) rfl (by first | exact hap1.rd Hrkw.out Hb1.out | exact (hap1.alloc _).rd Hrkw.out Hb1.out) (by omega) ?_; intro A2 c2 w12 hap2 ht2; have hcl2 : w12.cell? (ad.add k) = some (.slice Ak Lk Ck) := hap2.cl Hb1.out (by rw [block_of_add]; exact hadb) Hcw.out; first | (have g10 := ht2 _ h10) | (have g10 := ht2 _ hap1.ten) | skip)
          | (rw [if_pos (by rfl)]; refine wp_gather (.tmp 45) (.tmp 46) rfl w1.heap.size w1 (.slice A2 (q + 3 + Lk) c2) (q + 3 + Lk) (allL ps k ++ [120, 97 + k, 10] ++ ps k) rfl hap2 (by omega) _ _ 1 _ [10] rfl g10.1 (by omega) ?_; intro A3 c3 w13 hap3 ht3; have hcl3 : w13.cell? (ad.add k) = some (.slice Ak Lk Ck) := hap3.cl Hb1.out (by rw [block_of_add]; exact hadb) Hcw.out)
          | (rw [if_pos (by rfl)]; refine wp_gather (.tmp 45) (.tmp 46) rfl w1.heap.size w1 (.slice A2 (q + 3 + Lk) c2) (q + 3 + Lk) (allL ps k ++ [120, 97 + k, 10] ++ ps k) rfl (hap2.alloc _) (by omega) _ _ 1 _ [10] rfl (ten_reads w12 _) (by omega) ?_; intro A3 c3 w13 hap3 ht3; have hcl3 : w13.cell? (ad.add k) = some (.slice Ak Lk Ck) := hap3.cl Hb1.out (by rw [block_of_add]; exact hadb) Hcw.out))
        all_goals (
          have Hap3 := Lib.hid hap3
          clear hap1 hap2 hap3 ht1 ht2 ht3 hcl1 hcl2 hcl3
          go_wp2_with fail
          go_roundw
          case rel =>
            refine ⟨k + 1, q + 3 + Lk + 1, A3, c3, by go_num, by omega, rfl, by omega, Lib.hid ?_, Lib.hid ?_, Lib.hid ?_, Lib.hid Hap3.out.bel⟩
            · rw [st_succ, Hpl.out, ← hq.out]; omega
            · intro r hr
              rcases Nat.lt_or_ge r k with h1 | h1
              · exact hps.out r h1
              · have : r = k := by omega
                rw [this, Hpl.out]; omega
            · have h1 := Hap3.out.own
              have h2 : allL ps k ++ [120, 97 + k, 10] ++ ps k ++ [10] = allL ps (k + 1) := by simp [allL, recd, List.append_assoc]
              rw [h2] at h1
              exact h1
          case measure => first | (simp [intOf]; done) | (simp [intOf]; omega))
    · have hkn0 : k = n := by omega
      subst hkn0
      obtain ⟨G, hG⟩ : ∃ G, G = w.heap.size := ⟨_, rfl⟩
      obtain ⟨Z, hZ0⟩ : ∃ Z, Z = wr.heap.size := ⟨_, rfl⟩
      have hown0 := hown.out
      have hcap := cons_row hown0
      have hc63 : c ≤ 9223372036854775807 := by have := hcap.2; unfold maxLen at this; exact this
      have Hne : Hid (∀ ad, B = some ad → ad.block ≠ G) := Lib.hid (by
        intro ad e
        have := (hown0.lt ad.block (by rw [e]; rfl)).1
        omega)
      have HA0 : Hid (Reads wr Z 1 B q (Ints .u8 (allL ps k))) := Lib.hid (by rw [hZ0]; exact Reads.of_own hown0)
      have hGZ : G < Z := by omega
      have HF00 : Hid (keep.Frm wr Z G [] 0 false) := Lib.hid (keep.Frm.fresh hGZ (by rw [hG]; exact Hk1.out.below hbel.out hG1))
      have hZG : w.heap.size ≤ min Z G := by omega
      have hZr : Z ≤ wr.heap.size := by omega
      have Halb : Hid (∀ i, (allL ps k).getD i 0 < 256) := Lib.hid (allL_lt ps k hn12 (fun r hr => (Hrow.out r (by omega)).2.2.1))
      have Hps := hps
      have hqc : q ≤ c := hcap.1
      rw [← hG]
      clear hown0 hcap hG hZ0 hown hbel
      generalize k = n at *
      go_wp2_with fail
      go_loopw [9, 10, 11] (fun a_ l_ i_ ws => ∃ (k i fed : Nat) (ln : Bool), a_ = .int .i64 k ∧ l_ = .bool ln ∧ i_ = .int .i64 i ∧ k ≤ n ∧ i ≤ q + 1 ∧ Hid (fed = if sl then min i q else if i = 0 then 0 else q) ∧ Hid (cp ps k ln ≤ fed ∧ fed ≤ st ps n) ∧ Hid (k = n → ln = true) ∧ Hid (k = n ∨ fed < nd ps k ln) ∧ Hid (keep.Frm ws Z G (wait ps n fed (cp ps k ln)) 0 false) ∧ Hid (Reads ws Z 1 B q (Ints .u8 (allL ps n))) ∧ Hid (Below w.heap.size w ws) ∧ Z ≤ ws.heap.size) (fun _ _ i_ _ => q + 2 - (intOf i_).toNat)
      case atStart =>
        refine ⟨0, 0, 0, true, rfl, rfl, rfl, by omega, by omega, Lib.hid (by cases sl <;> simp), Lib.hid ⟨by simp [cp, st, allL], by omega⟩, Lib.hid (fun _ => rfl), Lib.hid ?_, Lib.hid ?_, HA0, Hbw, hZr⟩
        · rcases Nat.eq_zero_or_pos n with h | h
          · exact .inl h.symm
          · exact .inr (by unfold nd; rw [if_pos rfl]; omega)
        · have e : wait ps n 0 (cp ps 0 true) = [] := by simp [wait]
          rw [e]; exact HF00.out
      case round =>
        obtain ⟨k, i, fed0, ln, rfl, rfl, rfl, hkn0, hi1, hfd, hcp0, hkt, hst, hF, hall, hbel, hZ⟩ := hrel
        by_cases hgo : i ≤ q ∧ k < n
        · obtain ⟨hiq, hkn⟩ := hgo
          have hfq0 : fed0 < q := by
            have h1 := nd_le ps n k ln hkn
            rcases hst.out with h2 | h2
            · omega
            · have := hq.out; omega
          have hwl0 := wait_len ps n fed0 (cp ps k ln) hcp0.out.2
          have Hwl0 := Lib.hid hwl0
          have Hlw : Hid ((wait ps n fed0 (cp ps k ln)).length ≤ 4000) := Lib.hid (by rw [hwl0]; omega)
          clear hwl0
          cases sl
          · have hi0 : i = 0 := by
              rcases Nat.eq_zero_or_pos i with h | h
              · exact h
              · have h1 := hfd.out
                simp only [Bool.false_eq_true, if_false] at h1
                rw [if_neg (by omega)] at h1
                omega
            subst hi0
            have hf00 : fed0 = 0 := by have h1 := hfd.out; simpa using h1
            have hz1 : (allL ps n).drop fed0 = allL ps n := by rw [hf00]; rfl
            have hmm : ((allL ps n).drop fed0).take q = allL ps n := by rw [hz1, hq.out]; exact List.take_length
            have Hpr := Lib.hid (hall.out.more hZ)
            rw [← hmm] at Hpr
            have Hfd2 : Hid (q = if false = true then min (0 + 1) q else if 0 + 1 = 0 then 0 else q) := Lib.hid (by simp)
            have Hf00 := Lib.hid hf00
            have Hmm := Lib.hid hmm
            clear hf00 hz1 hmm
            go_wp2_with fail
            refine (keep.feed0 Z G (wait ps n fed0 (cp ps k ln)) (((allL ps n).drop fed0).take q) B q c wr (drop_lt (take_lt Halb.out fed0) _) (take_lt (drop_lt Halb.out fed0) q) (by have := Hlw.out; omega) hZ hF.out Hpr.out).mono ?_
            rintro e w5 ⟨rfl, hf5, hk5⟩
            rw [wait_more ps n fed0 (cp ps k ln) q hcp0.out.1 hcp0.out.2, Hf00.out, Nat.zero_add] at hf5
            have hcq : cp ps k ln ≤ q := by have := hcp0.out.1; omega
            obtain ⟨fed, hfed⟩ : ∃ fed, fed = q := ⟨_, rfl⟩
            rw [← hfed] at hf5 hcq
            have hfd2 : Hid (fed = if false = true then min (0 + 1) q else if 0 + 1 = 0 then 0 else q) := Lib.hid (by rw [hfed]; exact Hfd2.out)
            have hfq : fed ≤ st ps n := by rw [hfed, ← hq.out]; exact Nat.le_refl _
            have hf4 : fed ≤ 4000 := by have := hq.out; omega
            have Hfd2' := hfd2
            have Hf5 := Lib.hid hf5
            have Ha5 := Lib.hid (keep_reads hall.out hk5 Hne.out)
            have Hb5 := Lib.hid (hbel.out.trans (hk5.to_below.mono hZG))
            have Hz5 : Z ≤ w5.heap.size := Nat.le_trans hZ hk5.size
            have Hcq := Lib.hid hcq
            clear hf5 hk5 hfed hcq Hpr hF hall hbel hZ hfd hcp0 hst Hlw Hwl0
            go_wp2_with fail
            go_loopw [9, 10] (fun a_ l_ ws => ∃ (k : Nat) (ln : Bool), a_ = .int .i64 k ∧ l_ = .bool ln ∧ k ≤ n ∧ Hid (cp ps k ln ≤ fed) ∧ Hid (k = n → ln = true) ∧ Hid (keep.Frm ws Z G (wait ps n fed (cp ps k ln)) 0 false) ∧ Hid (Reads ws Z 1 B q (Ints .u8 (allL ps n))) ∧ Hid (Below w.heap.size w ws) ∧ Z ≤ ws.heap.size) (fun a_ l_ _ => 2 * (13 - (intOf a_).toNat) + bN l_)
            case atStart => exact ⟨k, ln, rfl, rfl, by omega, Hcq, hkt, Hf5, Ha5, Hb5, Hz5⟩
            case round =>
              obtain ⟨k, ln, rfl, rfl, hkn1, hcp, hkt, HF0, hall, hbel, hZ⟩ := hrel
              by_cases hkn : k < n
              · have hkl : k < len := by omega
                cases ln
                · have HF : Hid (keep.Frm wr Z G (wait ps n fed (st ps k + 3)) 0 false) := HF0
                  have hcf : st ps k + 3 ≤ fed := hcp.out
                  have HB := hbel
                  have HA := hall
                  have HZ := hZ
                  obtain ⟨ad, u, hA, hadb, hu, hcw⟩ := Hr.out.at_ hkl
                  rw [List.getElem?_map, List.getElem?_range hkl, Option.map_some, Option.some.injEq] at hu
                  subst hu
                  cases hA
                  obtain ⟨hrk, hpl, hpb, hL63⟩ := Hrow.out k hkl
                  have hL3 : L k ≤ 300 := by rw [← hpl]; exact Hps.out k hkn
                  have Hcw := Lib.hid hcw
                  have Hrk := Lib.hid hrk
                  have Hpl := Lib.hid hpl
                  have Hpb := Lib.hid hpb
                  generalize hAk : A k = Ak at *
                  generalize hLk : L k = Lk at *
                  generalize hCk : C k = Ck at *
                  have hsc := st_succ ps k
                  have Hsc := Lib.hid hsc
                  have hwl := wait_len ps n fed (st ps k + 3) hfq
                  have Hwl := Lib.hid hwl
                  have hcell : wr.cell? (ad.add k) = some (.slice Ak Lk Ck) := (HB.out.cell (by rw [block_of_add]; exact hadb)).trans Hcw.out
                  clear hAk hLk hCk hrk hpl hpb hsc hwl hcw
                  by_cases hp : fed < st ps (k + 1)
                  · go_wp2_with fail
                    refine (keep.payload_no Z G Lk (wait ps n fed (st ps k + 3)) wr (drop_lt (take_lt Halb.out fed) _) (by omega) (by have := Hwl.out; omega) HZ HF.out (by have := Hwl.out; have := Hsc.out; have := Hpl.out; omega)).mono ?_
                    rintro e w7 ⟨rfl, hf7, hk7⟩
                    have Hf7 := Lib.hid hf7
                    have Ha7 := Lib.hid (keep_reads HA.out hk7 Hne.out)
                    have Hb7 := Lib.hid (HB.out.trans (hk7.to_below.mono hZG))
                    have Hz7 : Z ≤ w7.heap.size := Nat.le_trans HZ hk7.size
                    clear hf7 hk7
                    go_wp2_with fail
                    go_roundw
                    case rel => exact ⟨k, 0 + 1, fed, false, rfl, rfl, by go_num, by omega, by omega, hfd2, Lib.hid ⟨by unfold cp; rw [if_neg (by decide)]; exact hcf, hfq⟩, Lib.hid (fun h => by omega), Lib.hid (.inr (by unfold nd; rw [if_neg (by decide)]; exact hp)), Hf7, Ha7, Hb7, Hz7⟩
                    case measure => first | (simp [intOf]; done) | (simp [intOf]; omega)
                  · have hwp := wait_pay ps n k fed hkn (by omega)
                    have Hwp := Lib.hid hwp
                    have hlp : (ps k).length < (wait ps n fed (st ps k + 3)).length := by have := Hwl.out; have := Hsc.out; omega
                    rw [Hpl.out] at hlp
                    clear hwp
                    go_wp2_with fail
                    refine (keep.payload_yes Z G Lk (wait ps n fed (st ps k + 3)) wr (drop_lt (take_lt Halb.out fed) _) (by omega) (by have := Hwl.out; omega) HZ HF.out hlp).mono ?_
                    rintro e w7 ⟨A7, rfl, hr7, hf7, hk7⟩
                    rw [← Hpl.out, Hwp.out.1, Hpl.out] at hr7
                    rw [← Hpl.out, Hwp.out.2] at hf7
                    have Hf7 := Lib.hid hf7
                    have Ha7 := Lib.hid (keep_reads HA.out hk7 Hne.out)
                    have Hb7 := Lib.hid (HB.out.trans (hk7.to_below.mono hZG))
                    have Hz7 : Z ≤ w7.heap.size := Nat.le_trans HZ hk7.size
                    have hcell7 : w7.cell? (ad.add k) = some (.slice Ak Lk Ck) := (Hb7.out.cell (by rw [block_of_add]; exact hadb)).trans Hcw.out
                    have cB := fun m => conv_reads (P := Try.prog) 26 5 9 Try.underlying26 Try.underlying5 Try.underlying9 (ps k) Lk (Reads.drewN hr7 m) Hpb.out
                    have cA := fun m => conv_reads (P := Try.prog) 26 5 9 Try.underlying26 Try.underlying5 Try.underlying9 (ps k) Ck (Reads.drewN (Hrk.out.below Hb7.out) m) Hpb.out
                    obtain ⟨PK, hPK⟩ : ∃ PK, PK = strB (ps k) := ⟨_, rfl⟩
                    rw [← hPK] at cA cB
                    have hqk2 : (PK.toList == PK.toList) = true := beq_self_eq_true _
                    clear hf7 hk7 hr7 hPK
                    go_wp2_with fail
                    go_quiet (fail)
                    have Ha8 : Hid (Reads (w7.drewN nq) Z 1 B q (Ints .u8 (allL ps n))) := Lib.hid (Ha7.out.drewN nq)
                    have Hb8 : Hid (Below w.heap.size w (w7.drewN nq)) := Lib.hid (below_drewN Hb7.out nq)
                    have Hf8 : Hid (keep.Frm (w7.drewN nq) Z G (wait ps n fed (st ps (k + 1))) 0 false) := Lib.hid (Hf7.out.drewN nq)
                    have Hz8 : Z ≤ (w7.drewN nq).heap.size := Hz7
                    clear cA cB hcell7 hcell
                    go_wp2_with fail
                    go_roundw
                    case rel => exact ⟨k + 1, true, by go_num, rfl, by omega, Lib.hid (by unfold cp; rw [if_pos rfl]; omega), Lib.hid (fun _ => rfl), Lib.hid (by unfold cp; rw [if_pos rfl]; exact Hf8.out), Ha8, Hb8, Hz8⟩
                    case measure => simp [intOf, bN]; omega
                · have HFl : Hid (keep.Frm wr Z G (wait ps n fed (st ps k)) 0 false) := HF0
                  have hk12 : k < 12 := by omega
                  have hwl := wait_len ps n fed (st ps k) hfq
                  have Hwl := Lib.hid hwl
                  clear hwl
                  by_cases h3 : fed < st ps k + 3
                  · have hno := wait_short ps n k fed hkn h3 hfq hk12
                    have hl258 : (wait ps n fed (st ps k)).length < 258 := by have := Hwl.out; omega
                    have hlS : lineS (wait ps n fed (st ps k)) = [] := by unfold lineS; rw [if_pos hno]
                    have hlO : lineO (wait ps n fed (st ps k)) = false := by unfold lineO; rw [if_pos hno]
                    have hlE : lineE (wait ps n fed (st ps k)) = 0 := by unfold lineE; rw [if_pos hno, if_pos hl258]
                    have HlS := Lib.hid hlS
                    have HlO := Lib.hid hlO
                    have HlE := Lib.hid hlE
                    have Hno := Lib.hid hno
                    clear hlS hlO hlE hno
                    go_wp2_with fail
                    refine (keep.line0 Z G (wait ps n fed (st ps k)) wr (drop_lt (take_lt Halb.out fed) _) (by have := Hwl.out; omega) hZ HFl.out).mono ?_
                    rintro e w6 ⟨⟨h1, h2, _, _⟩, hk6⟩
                    rw [HlS.out, HlO.out, HlE.out] at h1
                    subst h1
                    have Hf6 := Lib.hid (h2 Hno.out hl258)
                    have Ha6 := Lib.hid (keep_reads hall.out hk6 Hne.out)
                    have Hb6 := Lib.hid (hbel.out.trans (hk6.to_below.mono hZG))
                    have Hz6 : Z ≤ w6.heap.size := Nat.le_trans hZ hk6.size
                    clear h2 hk6
                    go_wp2_with fail
                    go_roundw
                    case rel => exact ⟨k, 0 + 1, fed, true, rfl, rfl, by go_num, by omega, by omega, hfd2, Lib.hid ⟨hcp.out, hfq⟩, Lib.hid (fun h => rfl), Lib.hid (.inr (by unfold nd; rw [if_pos rfl]; exact h3)), Hf6, Ha6, Hb6, Hz6⟩
                    case measure => first | (simp [intOf]; done) | (simp [intOf]; omega)
                  · obtain ⟨y, hy⟩ := wait_line ps n k fed hkn (by omega)
                    have hlo := line_of k hk12 y
                    rw [← hy] at hlo
                    obtain ⟨hl2, hlS, hlO, hlE⟩ := hlo
                    have Hl2 := Lib.hid hl2
                    have HlS := Lib.hid hlS
                    have HlO := Lib.hid hlO
                    have HlE := Lib.hid hlE
                    clear hl2 hlS hlO hlE hy
                    go_wp2_with fail
                    refine (keep.line0 Z G (wait ps n fed (st ps k)) wr (drop_lt (take_lt Halb.out fed) _) (by have := Hwl.out; omega) hZ HFl.out).mono ?_
                    rintro e w6 ⟨⟨h1, _, _, h4⟩, hk6⟩
                    rw [HlS.out, HlO.out, HlE.out] at h1
                    subst h1
                    have hf6 := h4 (by rw [Hl2.out]; have := Hwl.out; omega)
                    rw [Hl2.out, wait_drop] at hf6
                    have Hf60 := Lib.hid hf6
                    have Ha60 := Lib.hid (keep_reads hall.out hk6 Hne.out)
                    have Hb60 := Lib.hid (hbel.out.trans (hk6.to_below.mono hZG))
                    have Hz60 : Z ≤ w6.heap.size := Nat.le_trans hZ hk6.size
                    clear h4 hk6 hf6
                    have hw1 : IntKind.i64.wrap ((97 : Int) + (k : Int)) = (97 : Int) + (k : Int) := IntWalk.i64_in _ (by omega)
                    have hw2 : IntKind.u8.wrap ((97 : Int) + (k : Int)) = ((97 + k : Nat) : Int) := by rw [IntWalk.u8_in _ (by omega)]; omega
                    have hcv := conv_reads (P := Try.prog) 26 5 9 Try.underlying26 Try.underlying5 Try.underlying9 [97 + k] 1 (u8_reads w6 5 (97 + k)) (one_lt (by omega))
                    obtain ⟨T1, hT1⟩ : ∃ T1, T1 = strB [97 + k] := ⟨_, rfl⟩
                    obtain ⟨SS, hSS⟩ : ∃ SS, SS = strB [120, 97 + k] := ⟨_, rfl⟩
                    have hT1s : T1.size = 1 := by rw [hT1, strB_size]; rfl
                    have hqq : (SS.toList == ((⟨#[120]⟩ : ByteArray) ++ T1).toList) = true := str_same (by
                      have e : (⟨#[120]⟩ : ByteArray) = strB [120] := by decide
                      rw [hSS, hT1, e, strB_append]; rfl)
                    rw [← hT1] at hcv
                    rw [← hSS]
                    clear hT1 hSS
                    rw [show (((97 + k : Nat)) : Int) = (97 : Int) + (k : Int) by omega] at hcv
                    have HF : Hid (keep.Frm (w6.alloc (.cells #[.int .u8 ((97 : Int) + (k : Int))] 5)) Z G (wait ps n fed (st ps k + 3)) 0 false) := Lib.hid (Hf60.out.alloc _)
                    have HA : Hid (Reads (w6.alloc (.cells #[.int .u8 ((97 : Int) + (k : Int))] 5)) Z 1 B q (Ints .u8 (allL ps n))) := Lib.hid (Ha60.out.alloc Hz60 _)
                    have HB : Hid (Below w.heap.size w (w6.alloc (.cells #[.int .u8 ((97 : Int) + (k : Int))] 5))) := Lib.hid (Hb60.out.alloc (Nat.le_trans (by omega) Hz60) _)
                    have HZ : Z ≤ ((w6.alloc (.cells #[.int .u8 ((97 : Int) + (k : Int))] 5))).heap.size := by simp; omega
                    have hcf : st ps k + 3 ≤ fed := by omega
                    obtain ⟨ad, u, hA, hadb, hu, hcw⟩ := Hr.out.at_ hkl
                    rw [List.getElem?_map, List.getElem?_range hkl, Option.map_some, Option.some.injEq] at hu
                    subst hu
                    cases hA
                    obtain ⟨hrk, hpl, hpb, hL63⟩ := Hrow.out k hkl
                    have hL3 : L k ≤ 300 := by rw [← hpl]; exact Hps.out k hkn
                    have Hcw := Lib.hid hcw
                    have Hrk := Lib.hid hrk
                    have Hpl := Lib.hid hpl
                    have Hpb := Lib.hid hpb
                    generalize hAk : A k = Ak at *
                    generalize hLk : L k = Lk at *
                    generalize hCk : C k = Ck at *
                    have hsc := st_succ ps k
                    have Hsc := Lib.hid hsc
                    have hwl := wait_len ps n fed (st ps k + 3) hfq
                    have Hwl := Lib.hid hwl
                    have hcell : (w6.alloc (.cells #[.int .u8 ((97 : Int) + (k : Int))] 5)).cell? (ad.add k) = some (.slice Ak Lk Ck) := (HB.out.cell (by rw [block_of_add]; exact hadb)).trans Hcw.out
                    clear hAk hLk hCk hrk hpl hpb hsc hwl hcw
                    by_cases hp : fed < st ps (k + 1)
                    · go_wp2_with fail
                      refine (keep.payload_no Z G Lk (wait ps n fed (st ps k + 3)) (w6.alloc (.cells #[.int .u8 ((97 : Int) + (k : Int))] 5)) (drop_lt (take_lt Halb.out fed) _) (by omega) (by have := Hwl.out; omega) HZ HF.out (by have := Hwl.out; have := Hsc.out; have := Hpl.out; omega)).mono ?_
                      rintro e w7 ⟨rfl, hf7, hk7⟩
                      have Hf7 := Lib.hid hf7
                      have Ha7 := Lib.hid (keep_reads HA.out hk7 Hne.out)
                      have Hb7 := Lib.hid (HB.out.trans (hk7.to_below.mono hZG))
                      have Hz7 : Z ≤ w7.heap.size := Nat.le_trans HZ hk7.size
                      clear hf7 hk7
                      go_wp2_with fail
                      go_roundw
                      case rel => exact ⟨k, 0 + 1, fed, false, rfl, rfl, by go_num, by omega, by omega, hfd2, Lib.hid ⟨by unfold cp; rw [if_neg (by decide)]; exact hcf, hfq⟩, Lib.hid (fun h => by omega), Lib.hid (.inr (by unfold nd; rw [if_neg (by decide)]; exact hp)), Hf7, Ha7, Hb7, Hz7⟩
                      case measure => first | (simp [intOf]; done) | (simp [intOf]; omega)
                    · have hwp := wait_pay ps n k fed hkn (by omega)
                      have Hwp := Lib.hid hwp
                      have hlp : (ps k).length < (wait ps n fed (st ps k + 3)).length := by have := Hwl.out; have := Hsc.out; omega
                      rw [Hpl.out] at hlp
                      clear hwp
                      go_wp2_with fail
                      refine (keep.payload_yes Z G Lk (wait ps n fed (st ps k + 3)) (w6.alloc (.cells #[.int .u8 ((97 : Int) + (k : Int))] 5)) (drop_lt (take_lt Halb.out fed) _) (by omega) (by have := Hwl.out; omega) HZ HF.out hlp).mono ?_
                      rintro e w7 ⟨A7, rfl, hr7, hf7, hk7⟩
                      rw [← Hpl.out, Hwp.out.1, Hpl.out] at hr7
                      rw [← Hpl.out, Hwp.out.2] at hf7
                      have Hf7 := Lib.hid hf7
                      have Ha7 := Lib.hid (keep_reads HA.out hk7 Hne.out)
                      have Hb7 := Lib.hid (HB.out.trans (hk7.to_below.mono hZG))
                      have Hz7 : Z ≤ w7.heap.size := Nat.le_trans HZ hk7.size
                      have hcell7 : w7.cell? (ad.add k) = some (.slice Ak Lk Ck) := (Hb7.out.cell (by rw [block_of_add]; exact hadb)).trans Hcw.out
                      have cB := fun m => conv_reads (P := Try.prog) 26 5 9 Try.underlying26 Try.underlying5 Try.underlying9 (ps k) Lk (Reads.drewN hr7 m) Hpb.out
                      have cA := fun m => conv_reads (P := Try.prog) 26 5 9 Try.underlying26 Try.underlying5 Try.underlying9 (ps k) Ck (Reads.drewN (Hrk.out.below Hb7.out) m) Hpb.out
                      obtain ⟨PK, hPK⟩ : ∃ PK, PK = strB (ps k) := ⟨_, rfl⟩
                      rw [← hPK] at cA cB
                      have hqk2 : (PK.toList == PK.toList) = true := beq_self_eq_true _
                      clear hf7 hk7 hr7 hPK
                      go_wp2_with fail
                      go_quiet (fail)
                      have Ha8 : Hid (Reads (w7.drewN nq) Z 1 B q (Ints .u8 (allL ps n))) := Lib.hid (Ha7.out.drewN nq)
                      have Hb8 : Hid (Below w.heap.size w (w7.drewN nq)) := Lib.hid (below_drewN Hb7.out nq)
                      have Hf8 : Hid (keep.Frm (w7.drewN nq) Z G (wait ps n fed (st ps (k + 1))) 0 false) := Lib.hid (Hf7.out.drewN nq)
                      have Hz8 : Z ≤ (w7.drewN nq).heap.size := Hz7
                      clear cA cB hcell7 hcell
                      go_wp2_with fail
                      go_roundw
                      case rel => exact ⟨k + 1, true, by go_num, rfl, by omega, Lib.hid (by unfold cp; rw [if_pos rfl]; omega), Lib.hid (fun _ => rfl), Lib.hid (by unfold cp; rw [if_pos rfl]; exact Hf8.out), Ha8, Hb8, Hz8⟩
                      case measure => simp [intOf, bN]; omega
              · have hkn3 : k = n := by omega
                go_wp2_with fail
                go_roundw
                case rel => exact ⟨k, 0 + 1, fed, ln, rfl, rfl, by go_num, by omega, by omega, hfd2, Lib.hid ⟨hcp.out, hfq⟩, hkt, Lib.hid (.inl hkn3), HF0, hall, hbel, hZ⟩
                case measure => first | (simp [intOf]; done) | (simp [intOf]; omega)
          · have hfi : fed0 = min i q := by have h1 := hfd.out; simpa using h1
            have hi2 : i < q := by omega
            have hfi2 : fed0 = i := by omega
            obtain ⟨P, hP⟩ : ∃ P, P = if c = i then B else B.map (·.add i) := ⟨_, rfl⟩
            have hsl : ∀ W, (Instr.slice 26 (.slice B q c) (some (.int .i64 (i : Int))) (some (.int .i64 ((i : Int) + 1))) none).run Try.prog W = .ok (.slice P 1 (c - i)) W := by
              intro W
              have h := slice_lh B q c i 1 W (by omega)
              rw [← hP] at h
              exact h
            have hpr := (hall.out.more hZ).cut (cap := c) (k := i) (by omega) hqc
            rw [Nat.mul_one, ← hP] at hpr
            have e1 : (Ints .u8 (allL ps n)).drop i = Ints .u8 ((allL ps n).drop i) := by simp [Ints]
            rw [e1] at hpr
            have hpr2 := hpr.take_ (k := 1) (by omega)
            rw [Ints_take, ← hfi2] at hpr2
            have Hpr := Lib.hid hpr2
            have Hfi := Lib.hid hfi2
            clear hpr hpr2 e1 hP hfi2 hfi
            go_wp2_with fail
            refine (keep.feed0 Z G (wait ps n fed0 (cp ps k ln)) (((allL ps n).drop fed0).take 1) P 1 _ wr (drop_lt (take_lt Halb.out fed0) _) (take_lt (drop_lt Halb.out fed0) 1) (by have := Hlw.out; omega) hZ hF.out Hpr.out).mono ?_
            rintro e w5 ⟨rfl, hf5, hk5⟩
            rw [wait_more ps n fed0 (cp ps k ln) 1 hcp0.out.1 hcp0.out.2] at hf5
            have hcq : cp ps k ln ≤ fed0 + 1 := by have := hcp0.out.1; omega
            obtain ⟨fed, hfed⟩ : ∃ fed, fed = fed0 + 1 := ⟨_, rfl⟩
            rw [← hfed] at hf5 hcq
            have hfd2 : Hid (fed = if true = true then min (i + 1) q else if i + 1 = 0 then 0 else q) := Lib.hid (by rw [if_pos rfl, hfed, Hfi.out]; omega)
            have hfq : fed ≤ st ps n := by rw [hfed, ← hq.out]; omega
            clear hsl
            have hf4 : fed ≤ 4000 := by have := hq.out; omega
            have Hfd2' := hfd2
            have Hf5 := Lib.hid hf5
            have Ha5 := Lib.hid (keep_reads hall.out hk5 Hne.out)
            have Hb5 := Lib.hid (hbel.out.trans (hk5.to_below.mono hZG))
            have Hz5 : Z ≤ w5.heap.size := Nat.le_trans hZ hk5.size
            have Hcq := Lib.hid hcq
            clear hf5 hk5 hfed hcq Hpr hF hall hbel hZ hfd hcp0 hst Hlw Hwl0
            go_wp2_with fail
            go_loopw [9, 10] (fun a_ l_ ws => ∃ (k : Nat) (ln : Bool), a_ = .int .i64 k ∧ l_ = .bool ln ∧ k ≤ n ∧ Hid (cp ps k ln ≤ fed) ∧ Hid (k = n → ln = true) ∧ Hid (keep.Frm ws Z G (wait ps n fed (cp ps k ln)) 0 false) ∧ Hid (Reads ws Z 1 B q (Ints .u8 (allL ps n))) ∧ Hid (Below w.heap.size w ws) ∧ Z ≤ ws.heap.size) (fun a_ l_ _ => 2 * (13 - (intOf a_).toNat) + bN l_)
            case atStart => exact ⟨k, ln, rfl, rfl, by omega, Hcq, hkt, Hf5, Ha5, Hb5, Hz5⟩
            case round =>
              obtain ⟨k, ln, rfl, rfl, hkn1, hcp, hkt, HF0, hall, hbel, hZ⟩ := hrel
              by_cases hkn : k < n
              · have hkl : k < len := by omega
                cases ln
                · have HF : Hid (keep.Frm wr Z G (wait ps n fed (st ps k + 3)) 0 false) := HF0
                  have hcf : st ps k + 3 ≤ fed := hcp.out
                  have HB := hbel
                  have HA := hall
                  have HZ := hZ
                  obtain ⟨ad, u, hA, hadb, hu, hcw⟩ := Hr.out.at_ hkl
                  rw [List.getElem?_map, List.getElem?_range hkl, Option.map_some, Option.some.injEq] at hu
                  subst hu
                  cases hA
                  obtain ⟨hrk, hpl, hpb, hL63⟩ := Hrow.out k hkl
                  have hL3 : L k ≤ 300 := by rw [← hpl]; exact Hps.out k hkn
                  have Hcw := Lib.hid hcw
                  have Hrk := Lib.hid hrk
                  have Hpl := Lib.hid hpl
                  have Hpb := Lib.hid hpb
                  generalize hAk : A k = Ak at *
                  generalize hLk : L k = Lk at *
                  generalize hCk : C k = Ck at *
                  have hsc := st_succ ps k
                  have Hsc := Lib.hid hsc
                  have hwl := wait_len ps n fed (st ps k + 3) hfq
                  have Hwl := Lib.hid hwl
                  have hcell : wr.cell? (ad.add k) = some (.slice Ak Lk Ck) := (HB.out.cell (by rw [block_of_add]; exact hadb)).trans Hcw.out
                  clear hAk hLk hCk hrk hpl hpb hsc hwl hcw
                  by_cases hp : fed < st ps (k + 1)
                  · go_wp2_with fail
                    refine (keep.payload_no Z G Lk (wait ps n fed (st ps k + 3)) wr (drop_lt (take_lt Halb.out fed) _) (by omega) (by have := Hwl.out; omega) HZ HF.out (by have := Hwl.out; have := Hsc.out; have := Hpl.out; omega)).mono ?_
                    rintro e w7 ⟨rfl, hf7, hk7⟩
                    have Hf7 := Lib.hid hf7
                    have Ha7 := Lib.hid (keep_reads HA.out hk7 Hne.out)
                    have Hb7 := Lib.hid (HB.out.trans (hk7.to_below.mono hZG))
                    have Hz7 : Z ≤ w7.heap.size := Nat.le_trans HZ hk7.size
                    clear hf7 hk7
                    go_wp2_with fail
                    go_roundw
                    case rel => exact ⟨k, i + 1, fed, false, rfl, rfl, by go_num, by omega, by omega, hfd2, Lib.hid ⟨by unfold cp; rw [if_neg (by decide)]; exact hcf, hfq⟩, Lib.hid (fun h => by omega), Lib.hid (.inr (by unfold nd; rw [if_neg (by decide)]; exact hp)), Hf7, Ha7, Hb7, Hz7⟩
                    case measure => first | (simp [intOf]; done) | (simp [intOf]; omega)
                  · have hwp := wait_pay ps n k fed hkn (by omega)
                    have Hwp := Lib.hid hwp
                    have hlp : (ps k).length < (wait ps n fed (st ps k + 3)).length := by have := Hwl.out; have := Hsc.out; omega
                    rw [Hpl.out] at hlp
                    clear hwp
                    go_wp2_with fail
                    refine (keep.payload_yes Z G Lk (wait ps n fed (st ps k + 3)) wr (drop_lt (take_lt Halb.out fed) _) (by omega) (by have := Hwl.out; omega) HZ HF.out hlp).mono ?_
                    rintro e w7 ⟨A7, rfl, hr7, hf7, hk7⟩
                    rw [← Hpl.out, Hwp.out.1, Hpl.out] at hr7
                    rw [← Hpl.out, Hwp.out.2] at hf7
                    have Hf7 := Lib.hid hf7
                    have Ha7 := Lib.hid (keep_reads HA.out hk7 Hne.out)
                    have Hb7 := Lib.hid (HB.out.trans (hk7.to_below.mono hZG))
                    have Hz7 : Z ≤ w7.heap.size := Nat.le_trans HZ hk7.size
                    have hcell7 : w7.cell? (ad.add k) = some (.slice Ak Lk Ck) := (Hb7.out.cell (by rw [block_of_add]; exact hadb)).trans Hcw.out
                    have cB := fun m => conv_reads (P := Try.prog) 26 5 9 Try.underlying26 Try.underlying5 Try.underlying9 (ps k) Lk (Reads.drewN hr7 m) Hpb.out
                    have cA := fun m => conv_reads (P := Try.prog) 26 5 9 Try.underlying26 Try.underlying5 Try.underlying9 (ps k) Ck (Reads.drewN (Hrk.out.below Hb7.out) m) Hpb.out
                    obtain ⟨PK, hPK⟩ : ∃ PK, PK = strB (ps k) := ⟨_, rfl⟩
                    rw [← hPK] at cA cB
                    have hqk2 : (PK.toList == PK.toList) = true := beq_self_eq_true _
                    clear hf7 hk7 hr7 hPK
                    go_wp2_with fail
                    go_quiet (fail)
                    have Ha8 : Hid (Reads (w7.drewN nq) Z 1 B q (Ints .u8 (allL ps n))) := Lib.hid (Ha7.out.drewN nq)
                    have Hb8 : Hid (Below w.heap.size w (w7.drewN nq)) := Lib.hid (below_drewN Hb7.out nq)
                    have Hf8 : Hid (keep.Frm (w7.drewN nq) Z G (wait ps n fed (st ps (k + 1))) 0 false) := Lib.hid (Hf7.out.drewN nq)
                    have Hz8 : Z ≤ (w7.drewN nq).heap.size := Hz7
                    clear cA cB hcell7 hcell
                    go_wp2_with fail
                    go_roundw
                    case rel => exact ⟨k + 1, true, by go_num, rfl, by omega, Lib.hid (by unfold cp; rw [if_pos rfl]; omega), Lib.hid (fun _ => rfl), Lib.hid (by unfold cp; rw [if_pos rfl]; exact Hf8.out), Ha8, Hb8, Hz8⟩
                    case measure => simp [intOf, bN]; omega
                · have HFl : Hid (keep.Frm wr Z G (wait ps n fed (st ps k)) 0 false) := HF0
                  have hk12 : k < 12 := by omega
                  have hwl := wait_len ps n fed (st ps k) hfq
                  have Hwl := Lib.hid hwl
                  clear hwl
                  by_cases h3 : fed < st ps k + 3
                  · have hno := wait_short ps n k fed hkn h3 hfq hk12
                    have hl258 : (wait ps n fed (st ps k)).length < 258 := by have := Hwl.out; omega
                    have hlS : lineS (wait ps n fed (st ps k)) = [] := by unfold lineS; rw [if_pos hno]
                    have hlO : lineO (wait ps n fed (st ps k)) = false := by unfold lineO; rw [if_pos hno]
                    have hlE : lineE (wait ps n fed (st ps k)) = 0 := by unfold lineE; rw [if_pos hno, if_pos hl258]
                    have HlS := Lib.hid hlS
                    have HlO := Lib.hid hlO
                    have HlE := Lib.hid hlE
                    have Hno := Lib.hid hno
                    clear hlS hlO hlE hno
                    go_wp2_with fail
                    refine (keep.line0 Z G (wait ps n fed (st ps k)) wr (drop_lt (take_lt Halb.out fed) _) (by have := Hwl.out; omega) hZ HFl.out).mono ?_
                    rintro e w6 ⟨⟨h1, h2, _, _⟩, hk6⟩
                    rw [HlS.out, HlO.out, HlE.out] at h1
                    subst h1
                    have Hf6 := Lib.hid (h2 Hno.out hl258)
                    have Ha6 := Lib.hid (keep_reads hall.out hk6 Hne.out)
                    have Hb6 := Lib.hid (hbel.out.trans (hk6.to_below.mono hZG))
                    have Hz6 : Z ≤ w6.heap.size := Nat.le_trans hZ hk6.size
                    clear h2 hk6
                    go_wp2_with fail
                    go_roundw
                    case rel => exact ⟨k, i + 1, fed, true, rfl, rfl, by go_num, by omega, by omega, hfd2, Lib.hid ⟨hcp.out, hfq⟩, Lib.hid (fun h => rfl), Lib.hid (.inr (by unfold nd; rw [if_pos rfl]; exact h3)), Hf6, Ha6, Hb6, Hz6⟩
                    case measure => first | (simp [intOf]; done) | (simp [intOf]; omega)
                  · obtain ⟨y, hy⟩ := wait_line ps n k fed hkn (by omega)
                    have hlo := line_of k hk12 y
                    rw [← hy] at hlo
                    obtain ⟨hl2, hlS, hlO, hlE⟩ := hlo
                    have Hl2 := Lib.hid hl2
                    have HlS := Lib.hid hlS
                    have HlO := Lib.hid hlO
                    have HlE := Lib.hid hlE
                    clear hl2 hlS hlO hlE hy
                    go_wp2_with fail
                    refine (keep.line0 Z G (wait ps n fed (st ps k)) wr (drop_lt (take_lt Halb.out fed) _) (by have := Hwl.out; omega) hZ HFl.out).mono ?_
                    rintro e w6 ⟨⟨h1, _, _, h4⟩, hk6⟩
                    rw [HlS.out, HlO.out, HlE.out] at h1
                    subst h1
                    have hf6 := h4 (by rw [Hl2.out]; have := Hwl.out; omega)
                    rw [Hl2.out, wait_drop] at hf6
                    have Hf60 := Lib.hid hf6
                    have Ha60 := Lib.hid (keep_reads hall.out hk6 Hne.out)
                    have Hb60 := Lib.hid (hbel.out.trans (hk6.to_below.mono hZG))
                    have Hz60 : Z ≤ w6.heap.size := Nat.le_trans hZ hk6.size
                    clear h4 hk6 hf6
                    have hw1 : IntKind.i64.wrap ((97 : Int) + (k : Int)) = (97 : Int) + (k : Int) := IntWalk.i64_in _ (by omega)
                    have hw2 : IntKind.u8.wrap ((97 : Int) + (k : Int)) = ((97 + k : Nat) : Int) := by rw [IntWalk.u8_in _ (by omega)]; omega
                    have hcv := conv_reads (P := Try.prog) 26 5 9 Try.underlying26 Try.underlying5 Try.underlying9 [97 + k] 1 (u8_reads w6 5 (97 + k)) (one_lt (by omega))
                    obtain ⟨T1, hT1⟩ : ∃ T1, T1 = strB [97 + k] := ⟨_, rfl⟩
                    obtain ⟨SS, hSS⟩ : ∃ SS, SS = strB [120, 97 + k] := ⟨_, rfl⟩
                    have hT1s : T1.size = 1 := by rw [hT1, strB_size]; rfl
                    have hqq : (SS.toList == ((⟨#[120]⟩ : ByteArray) ++ T1).toList) = true := str_same (by
                      have e : (⟨#[120]⟩ : ByteArray) = strB [120] := by decide
                      rw [hSS, hT1, e, strB_append]; rfl)
                    rw [← hT1] at hcv
                    rw [← hSS]
                    clear hT1 hSS
                    rw [show (((97 + k : Nat)) : Int) = (97 : Int) + (k : Int) by omega] at hcv
                    have HF : Hid (keep.Frm (w6.alloc (.cells #[.int .u8 ((97 : Int) + (k : Int))] 5)) Z G (wait ps n fed (st ps k + 3)) 0 false) := Lib.hid (Hf60.out.alloc _)
                    have HA : Hid (Reads (w6.alloc (.cells #[.int .u8 ((97 : Int) + (k : Int))] 5)) Z 1 B q (Ints .u8 (allL ps n))) := Lib.hid (Ha60.out.alloc Hz60 _)
                    have HB : Hid (Below w.heap.size w (w6.alloc (.cells #[.int .u8 ((97 : Int) + (k : Int))] 5))) := Lib.hid (Hb60.out.alloc (Nat.le_trans (by omega) Hz60) _)
                    have HZ : Z ≤ ((w6.alloc (.cells #[.int .u8 ((97 : Int) + (k : Int))] 5))).heap.size := by simp; omega
                    have hcf : st ps k + 3 ≤ fed := by omega
                    obtain ⟨ad, u, hA, hadb, hu, hcw⟩ := Hr.out.at_ hkl
                    rw [List.getElem?_map, List.getElem?_range hkl, Option.map_some, Option.some.injEq] at hu
                    subst hu
                    cases hA
                    obtain ⟨hrk, hpl, hpb, hL63⟩ := Hrow.out k hkl
                    have hL3 : L k ≤ 300 := by rw [← hpl]; exact Hps.out k hkn
                    have Hcw := Lib.hid hcw
                    have Hrk := Lib.hid hrk
                    have Hpl := Lib.hid hpl
                    have Hpb := Lib.hid hpb
                    generalize hAk : A k = Ak at *
                    generalize hLk : L k = Lk at *
                    generalize hCk : C k = Ck at *
                    have hsc := st_succ ps k
                    have Hsc := Lib.hid hsc
                    have hwl := wait_len ps n fed (st ps k + 3) hfq
                    have Hwl := Lib.hid hwl
                    have hcell : (w6.alloc (.cells #[.int .u8 ((97 : Int) + (k : Int))] 5)).cell? (ad.add k) = some (.slice Ak Lk Ck) := (HB.out.cell (by rw [block_of_add]; exact hadb)).trans Hcw.out
                    clear hAk hLk hCk hrk hpl hpb hsc hwl hcw
                    by_cases hp : fed < st ps (k + 1)
                    · go_wp2_with fail
                      refine (keep.payload_no Z G Lk (wait ps n fed (st ps k + 3)) (w6.alloc (.cells #[.int .u8 ((97 : Int) + (k : Int))] 5)) (drop_lt (take_lt Halb.out fed) _) (by omega) (by have := Hwl.out; omega) HZ HF.out (by have := Hwl.out; have := Hsc.out; have := Hpl.out; omega)).mono ?_
                      rintro e w7 ⟨rfl, hf7, hk7⟩
                      have Hf7 := Lib.hid hf7
                      have Ha7 := Lib.hid (keep_reads HA.out hk7 Hne.out)
                      have Hb7 := Lib.hid (HB.out.trans (hk7.to_below.mono hZG))
                      have Hz7 : Z ≤ w7.heap.size := Nat.le_trans HZ hk7.size
                      clear hf7 hk7
                      go_wp2_with fail
                      go_roundw
                      case rel => exact ⟨k, i + 1, fed, false, rfl, rfl, by go_num, by omega, by omega, hfd2, Lib.hid ⟨by unfold cp; rw [if_neg (by decide)]; exact hcf, hfq⟩, Lib.hid (fun h => by omega), Lib.hid (.inr (by unfold nd; rw [if_neg (by decide)]; exact hp)), Hf7, Ha7, Hb7, Hz7⟩
                      case measure => first | (simp [intOf]; done) | (simp [intOf]; omega)
                    · have hwp := wait_pay ps n k fed hkn (by omega)
                      have Hwp := Lib.hid hwp
                      have hlp : (ps k).length < (wait ps n fed (st ps k + 3)).length := by have := Hwl.out; have := Hsc.out; omega
                      rw [Hpl.out] at hlp
                      clear hwp
                      go_wp2_with fail
                      refine (keep.payload_yes Z G Lk (wait ps n fed (st ps k + 3)) (w6.alloc (.cells #[.int .u8 ((97 : Int) + (k : Int))] 5)) (drop_lt (take_lt Halb.out fed) _) (by omega) (by have := Hwl.out; omega) HZ HF.out hlp).mono ?_
                      rintro e w7 ⟨A7, rfl, hr7, hf7, hk7⟩
                      rw [← Hpl.out, Hwp.out.1, Hpl.out] at hr7
                      rw [← Hpl.out, Hwp.out.2] at hf7
                      have Hf7 := Lib.hid hf7
                      have Ha7 := Lib.hid (keep_reads HA.out hk7 Hne.out)
                      have Hb7 := Lib.hid (HB.out.trans (hk7.to_below.mono hZG))
                      have Hz7 : Z ≤ w7.heap.size := Nat.le_trans HZ hk7.size
                      have hcell7 : w7.cell? (ad.add k) = some (.slice Ak Lk Ck) := (Hb7.out.cell (by rw [block_of_add]; exact hadb)).trans Hcw.out
                      have cB := fun m => conv_reads (P := Try.prog) 26 5 9 Try.underlying26 Try.underlying5 Try.underlying9 (ps k) Lk (Reads.drewN hr7 m) Hpb.out
                      have cA := fun m => conv_reads (P := Try.prog) 26 5 9 Try.underlying26 Try.underlying5 Try.underlying9 (ps k) Ck (Reads.drewN (Hrk.out.below Hb7.out) m) Hpb.out
                      obtain ⟨PK, hPK⟩ : ∃ PK, PK = strB (ps k) := ⟨_, rfl⟩
                      rw [← hPK] at cA cB
                      have hqk2 : (PK.toList == PK.toList) = true := beq_self_eq_true _
                      clear hf7 hk7 hr7 hPK
                      go_wp2_with fail
                      go_quiet (fail)
                      have Ha8 : Hid (Reads (w7.drewN nq) Z 1 B q (Ints .u8 (allL ps n))) := Lib.hid (Ha7.out.drewN nq)
                      have Hb8 : Hid (Below w.heap.size w (w7.drewN nq)) := Lib.hid (below_drewN Hb7.out nq)
                      have Hf8 : Hid (keep.Frm (w7.drewN nq) Z G (wait ps n fed (st ps (k + 1))) 0 false) := Lib.hid (Hf7.out.drewN nq)
                      have Hz8 : Z ≤ (w7.drewN nq).heap.size := Hz7
                      clear cA cB hcell7 hcell
                      go_wp2_with fail
                      go_roundw
                      case rel => exact ⟨k + 1, true, by go_num, rfl, by omega, Lib.hid (by unfold cp; rw [if_pos rfl]; omega), Lib.hid (fun _ => rfl), Lib.hid (by unfold cp; rw [if_pos rfl]; exact Hf8.out), Ha8, Hb8, Hz8⟩
                      case measure => simp [intOf, bN]; omega
              · have hkn3 : k = n := by omega
                go_wp2_with fail
                go_roundw
                case rel => exact ⟨k, i + 1, fed, ln, rfl, rfl, by go_num, by omega, by omega, hfd2, Lib.hid ⟨hcp.out, hfq⟩, hkt, Lib.hid (.inl hkn3), HF0, hall, hbel, hZ⟩
                case measure => first | (simp [intOf]; done) | (simp [intOf]; omega)
        · have hkn2 : k = n := by
            rcases Nat.lt_or_ge k n with h1 | h1
            · exfalso
              have hi3 : i = q + 1 := by
                rcases Nat.lt_or_ge q i with h2 | h2
                · omega
                · exact absurd ⟨h2, h1⟩ hgo
              have h4 := nd_le ps n k ln h1
              have h3 := hfd.out
              have h5 : fed0 = q := by
                rw [h3, hi3]
                cases sl
                · simp
                · simp
              rcases hst.out with h2 | h2
              · omega
              · have := hq.out; omega
            · omega
          have hln : ln = true := hkt.out hkn2
          have hwt : wait ps n fed0 (cp ps k ln) = [] := by
            have h1 := hcp0.out
            rw [hln, hkn2] at h1 ⊢
            unfold cp at h1 ⊢
            rw [if_pos rfl] at h1 ⊢
            have h2 : fed0 = st ps n := by omega
            rw [h2]
            exact wait_all ps n _ (Nat.le_refl _)
          rw [hwt] at hF
          clear hwt hcp0 hst
          subst hkn2
          by_cases hiq : i ≤ q
          all_goals (
            go_wp2_with fail
            refine (keep.waiting_any Z G [] 0 false wr hF.out).mono ?_
            rintro e w6 ⟨rfl, rfl⟩
            go_wp2_with fail
            refine (awake_any _).mono ?_
            rintro e w7 ⟨rfl, hb7⟩
            have Hb7 := Lib.hid (hbel.out.trans (hb7.mono hbel.out.size))
            clear hb7
            go_wp2_with fail
            go_ret
            exact ⟨rfl, Hb7.out⟩)
end Go.Proofs.Ytmpiacoddifjiaa
