/- The walk of WordsParts. -/
import Derived.Test.YtkkdcojgnpmpgaaWordsT
namespace Go.Proofs.Ytkkdcojgnpmpgaa
open Go.RowKit
set_option linter.unusedVariables false
def sm2 (L : Nat → Nat) : Nat → Nat
  | 0 => 0
  | k + 1 => sm2 L k + min (L k) 100000
theorem jn_bound2 (L : Nat → Nat) (ps : Nat → List Nat) (n : Nat) (h : ∀ r, r < n → (ps r).length = L r) (hs : sm2 L n ≤ 20000) : (jn ps n).length ≤ sm2 L n + 10 * n := by
  induction n with
  | zero => simp [jn]
  | succ m ih =>
    have h0 : sm2 L (m + 1) = sm2 L m + min (L m) 100000 := rfl
    have h1 := ih (fun r hr => h r (by omega)) (by omega)
    have h2 := h m (by omega)
    have h3 := uvl_len 9 (ps m).length
    show (jn ps m ++ (uv (ps m).length ++ ps m)).length ≤ _
    rw [List.length_append, List.length_append]
    unfold uv
    omega
theorem sl_len : ∀ (f : Nat) (acc : List (List Nat)) (l : List Nat), ((slN f acc l).2).length ≤ acc.length + l.length
  | 0, acc, l => by simp [slN]
  | f + 1, acc, l => by
    unfold slN
    by_cases h0 : l.length = 0
    · rw [if_pos h0]; show acc.length ≤ _; omega
    · rw [if_neg h0]
      by_cases h1 : (vr l).2.2 ≠ 0
      · rw [if_pos h1]; simp
      · rw [if_neg h1]
        by_cases h2 : (l.drop (vr l).2.1).length < (vr l).1
        · rw [if_pos h2]; simp
        · rw [if_neg h2]
          have hu := vr_used (l := l) (by omega)
          have ih := sl_len f (acc ++ [(l.drop (vr l).2.1).take (vr l).1]) ((l.drop (vr l).2.1).drop (vr l).1)
          simp only [List.length_append, List.length_drop, List.length_singleton] at ih
          omega
theorem PR.drewN {w : World} {xs : List Value} {acc : List (List Nat)} (h : PR w xs acc) (n : Nat) : PR (w.drewN n) xs acc := h
set_option maxRecDepth 100000 in
set_option maxHeartbeats 4000000 in
theorem parts_big (A0 B0 : Option Addr) (len cap nb capb : Nat) (w : World) (h : 100 < len ∨ 5000 < nb) :
    Calls Try.prog 5 #[.slice A0 len cap, .slice B0 nb capb] w fun e w' => e = .returned (.bool true) ∧ Below w.heap.size w w' := by
  by_cases h1 : 100 < len
  all_goals (
    first | (have h2 : 5000 < nb := by omega) | skip
    go_enter Try.func5, Try.ntmps5
    go_wp2_with fail
    refine (awake_any _).mono ?_
    rintro e w2 ⟨rfl, hb2⟩
    have Hb2 := Lib.hid hb2
    clear hb2
    go_wp2_with fail
    go_ret
    exact ⟨rfl, Hb2.out⟩)
set_option maxRecDepth 100000 in
set_option maxHeartbeats 4000000 in
theorem parts_any (A0 B0 : Option Addr) (len cap nb capb : Nat) (A : Nat → Option Addr) (L C : Nat → Nat) (ps : Nat → List Nat) (lb : List Nat) (w : World) (hlen : len ≤ 100)
    (hr : Reads w w.heap.size 1 A0 len ((List.range len).map fun r => Value.slice (A r) (L r) (C r)))
    (hrow : ∀ r, r < len → Reads w w.heap.size 1 (A r) (L r) (Ints .u8 (ps r)) ∧ (ps r).length = L r ∧ (∀ i, (ps r).getD i 0 < 256) ∧ L r ≤ 9223372036854775807)
    (hlb : lb.length = nb) (hnb : nb ≤ 5000) (hnc : nb ≤ capb) (hcm : capb ≤ 9223372036854775807) (hbb : ∀ i, lb.getD i 0 < 256) (hrb : Reads w w.heap.size 1 B0 nb (Ints .u8 lb)) :
    Calls Try.prog 5 #[.slice A0 len cap, .slice B0 nb capb] w fun e w' => e = .returned (.bool true) ∧ Below w.heap.size w w' := by
  have Hr := Lib.hid hr
  have Hrow := Lib.hid hrow
  have Hlb := Lib.hid hlb
  have Hbb := Lib.hid hbb
  have Hrb := Lib.hid hrb
  clear hr hrow hlb hbb hrb
  have h100 : ¬ 100 < len := by omega
  have h5000 : ¬ 5000 < nb := by omega
  go_enter Try.func5, Try.ntmps5
  go_wp2_with fail
  go_loop [5, 6] (fun sv i => ∃ k s : Nat, i = .int .i64 k ∧ sv = .int .i64 s ∧ k ≤ len ∧ s ≤ 100000 * k ∧ Hid (s = sm2 L k)) (fun _ i => len - (intOf i).toNat)
  case atStart => exact ⟨0, 0, rfl, rfl, by omega, by omega, Lib.hid rfl⟩
  case round =>
    obtain ⟨k, s, rfl, rfl, hk, hs5, hs⟩ := hrel
    by_cases hk1 : k < len
    · obtain ⟨ad, u, hA, hadb, hu, hcell⟩ := Hr.out.at_ hk1
      rw [List.getElem?_map, List.getElem?_range hk1, Option.map_some, Option.some.injEq] at hu
      subst hu
      subst hA
      have hL63 := (Hrow.out k hk1).2.2.2
      obtain ⟨mn, hmn⟩ : ∃ mn, mn = min (L k) 100000 := ⟨_, rfl⟩
      have hmin : min ((L k : Nat) : Int) 100000 = (mn : Int) := by omega
      have hmn5 : mn ≤ 100000 := by omega
      have Hmn := Lib.hid hmn
      clear hmn
      generalize hLk : L k = Lk at *
      generalize hAk : A k = Ak at *
      generalize hCk : C k = Ck at *
      have HLk := Lib.hid hLk
      clear hLk hAk hCk
      go_wp2_with fail
      go_round
      case rel => exact ⟨k + 1, s + mn, by go_num, by go_num, by omega, by omega, Lib.hid (by show _ = sm2 L k + min (L k) 100000; rw [HLk.out, ← Hmn.out, hs.out])⟩
      case measure => simp [intOf]; omega
    · by_cases h3 : 20000 < s
      · go_wp2_with fail
        refine (awake_any _).mono ?_
        rintro e w2 ⟨rfl, hb2⟩
        have Hb2 := Lib.hid hb2
        clear hb2
        go_wp2_with fail
        go_ret
        exact ⟨rfl, Hb2.out⟩
      · have hkl : k = len := by omega
        have hsl : sm2 L len ≤ 20000 := by rw [← hkl, ← hs.out]; omega
        have hjb := jn_bound2 L ps len (fun r hr => (Hrow.out r hr).2.1) hsl
        have hjl := jn_lt ps len (fun r hr => (Hrow.out r hr).2.2.1) (fun r hr => by rw [(Hrow.out r hr).2.1]; have := (Hrow.out r hr).2.2.2; omega)
        have hpl : ((List.range len).map ps).length = len := by simp
        have hpw : ∀ p ∈ (List.range len).map ps, p.length < 18446744073709551616 := fun p hp => by
          obtain ⟨r, hr, rfl⟩ := List.mem_map.1 hp
          have hr2 := List.mem_range.1 hr
          rw [(Hrow.out r hr2).2.1]; have := (Hrow.out r hr2).2.2.2; omega
        have hsj := sl_join ((List.range len).map ps) [] hpw
        rw [jn_joinL, List.nil_append] at hsj
        have Hjl := Lib.hid hjl
        have hjo := join_any A0 len cap A L C ps w (by omega) Hr.out Hrow.out (by omega)
        have Hjo := Lib.hid hjo
        have hj4 : (jn ps len).length ≤ 22000 := by omega
        have hjj := jn_joinL ps len
        have hpat : ∀ r, r < len → ((List.range len).map ps)[r]? = some (ps r) := fun r hr => by rw [List.getElem?_map, List.getElem?_range hr]; rfl
        obtain ⟨PL, hPL⟩ : ∃ PL, PL = (List.range len).map ps := ⟨_, rfl⟩
        rw [← hPL] at hsj hjj hpl hpat
        obtain ⟨jl, hjle⟩ : ∃ jl, jl = jn ps len := ⟨_, rfl⟩
        rw [← hjle] at Hjl Hjo hj4 hsj hjj
        have Hsj := Lib.hid hsj
        have Hjj := Lib.hid hjj
        have Hpl := Lib.hid hpl
        have Hpat := Lib.hid hpat
        have HPL := Lib.hid hPL
        obtain ⟨J, hJ⟩ : ∃ J, J = jl.length := ⟨_, rfl⟩
        have HJ := Lib.hid hJ
        rw [← hJ] at hj4
        clear hjl hjo hjb hsl hjle hJ hsj hjj hpl hpat hPL hpw hkl
        go_wp2_with fail
        refine Hjo.out.mono ?_
        rintro e w2 ⟨A2, rfl, hr2, hb2⟩
        rw [← HJ.out] at hr2
        rw [← HJ.out]
        have Hr2 := Lib.hid hr2
        have Hb2 := Lib.hid hb2
        have hsz2 := hb2.size
        clear hr2 hb2
        go_wp2_with fail
        refine (splitc_any A2 J J jl HJ.out.symm (by omega) (Nat.le_refl _) (by omega) Hjl.out w2 Hr2.out).mono ?_
        rintro e w3 ⟨X1, c1, xs1, rfl, hx1, hp1, hb3⟩
        rw [Hsj.out] at hx1 hp1
        rw [Hsj.out]
        rw [show (0, PL).2 = PL from rfl, Hpl.out] at hx1
        rw [show (0, PL).2 = PL from rfl] at hp1
        rw [show (0, PL).2.length = len from Hpl.out, show (0, PL).1 = 0 from rfl]
        have Hb3 := Lib.hid (Hb2.out.trans (hb3.mono hsz2))
        have Hx3 := Lib.hid hx1
        have Hp3 := Lib.hid hp1
        have Hr3 := Lib.hid ((Hr2.out.below hb3).more hb3.size)
        clear hx1 hp1 hb3
        go_wp2_with fail
        refine (splitc_any B0 nb capb lb Hlb.out (by omega) hnc hcm Hbb.out w3 ((Hrb.out.below Hb3.out).more Hb3.out.size)).mono ?_
        rintro e w4 ⟨X2, c2, xs2, rfl, hx2, hp2, hb4⟩
        have hql := sl_len (lb.length + 1) [] lb
        have hql2 : (sl [] lb).2.length ≤ 5000 := by unfold sl; have := Hlb.out; simp at hql; omega
        have hrs := fun W => rsplitc_any lb nb Hlb.out (by omega) Hbb.out W
        unfold RsPost at hrs
        obtain ⟨E, hE⟩ : ∃ E, E = (sl [] lb).1 := ⟨_, rfl⟩
        obtain ⟨Q, hQ⟩ : ∃ Q, Q = (sl [] lb).2 := ⟨_, rfl⟩
        simp only [← hE, ← hQ] at hrs
        rw [← hQ] at hx2 hp2 hql2
        rw [← hE, ← hQ]
        obtain ⟨qn, hqn⟩ : ∃ qn, qn = Q.length := ⟨_, rfl⟩
        rw [← hqn] at hx2 hql2
        simp only [← hqn] at hrs
        rw [← hqn]
        have Hqn := Lib.hid hqn
        have Hb4 := Lib.hid (Hb3.out.trans (hb4.mono Hb3.out.size))
        have Hx4 := Lib.hid hx2
        have Hp4 := Lib.hid hp2
        have Hx34 := Lib.hid ((Hx3.out.below hb4).more hb4.size)
        have Hp34 := Lib.hid (Hp3.out.below hb4)
        have Hr4 := Lib.hid ((Hr3.out.below hb4).more hb4.size)
        have hcvb := conv_reads (P := Try.prog) 22 5 9 Try.underlying22 Try.underlying5 Try.underlying9 lb capb (Hrb.out.below Hb4.out) Hbb.out
        obtain ⟨TB, hTB⟩ : ∃ TB, TB = strB lb := ⟨_, rfl⟩
        rw [← hTB] at hcvb
        simp only [← hTB] at hrs
        have Hrs := Lib.hid hrs
        clear hx2 hp2 hb4 hql hrs hE hQ hqn hTB
        go_wp2_with fail
        refine (Hrs.out w4).mono ?_
        rintro e w5 ⟨Y, cy, rfl, hy5, hb5⟩
        have Hb5 := Lib.hid (Hb4.out.trans (hb5.mono Hb4.out.size))
        have Hy5 := Lib.hid hy5
        have Hx25 := Lib.hid ((Hx4.out.below hb5).more hb5.size)
        have Hp25 := Lib.hid (Hp4.out.below hb5)
        have Hx15 := Lib.hid ((Hx34.out.below hb5).more hb5.size)
        have Hp15 := Lib.hid (Hp34.out.below hb5)
        have Hr5 := Lib.hid ((Hr4.out.below hb5).more hb5.size)
        have hsz5 := Hb5.out.size
        obtain ⟨JT, hJT⟩ : ∃ JT, JT = strB jl := ⟨_, rfl⟩
        have hcj := conv_reads (P := Try.prog) 22 5 9 Try.underlying22 Try.underlying5 Try.underlying9 jl J (Hr5.out.drew) Hjl.out
        rw [← hJT] at hcj
        have HJT := Lib.hid hJT
        have Hcj := Lib.hid hcj
        clear hy5 hb5 hcvb hJT hcj
        have htx : Calls Try.prog 18 #[.slice A0 len cap] w5.drew (fun e w' => ∃ X c, e = .returned (.slice X len c) ∧ Reads w' w'.heap.size 1 X len (txs PL) ∧ Below w5.heap.size w5.drew w') := by
          have h := texts_any A0 len cap A L C ps w5.drew hlen ((Hr.out.below Hb5.out.drew).more hsz5) (fun r hr => by
            obtain ⟨g1, g2, g3, g4⟩ := Hrow.out r hr
            exact ⟨(g1.below Hb5.out.drew).more hsz5, g2, g3, g4⟩)
          rw [← HPL.out] at h
          refine h.mono ?_
          rintro e w' ⟨X, c, he, h1, h2⟩
          rw [Hpl.out] at he h1
          exact ⟨X, c, he, h1, h2⟩
        have hrj : ∀ (X : Option Addr) (c : Nat) (W : World), Reads W W.heap.size 1 X len (txs PL) → Calls Try.prog 17 #[.slice X len c] W (fun e w' => e = .returned (.string JT) ∧ Below W.heap.size W w') := fun X c W h => by
          have h1 := rjoin_any X len c PL W Hpl.out hlen (by rw [Hjj.out, ← HJ.out]; omega) h
          rw [Hjj.out, ← HJT.out] at h1
          exact h1
        have Htx := Lib.hid htx
        have Hrj := Lib.hid hrj
        have hqq : (JT.toList == JT.toList) = true := beq_self_eq_true _
        clear htx hrj
        go_wp2_with fail
        go_region_held3 (fun w' => (convert 22 9 (.slice A2 J J)).run Try.prog w' = .ok (.string JT) w') (first | assumption | exact Hcj.out) (first
          | (go_simp; go_at_call 18; refine Htx.out.mono ?_; rintro e w6 ⟨XT, cT, rfl, hrT, hb6⟩; have hr6 := (Hr5.out.drew).below hb6; have hs6 : (convert 22 9 (.slice A2 J J)).run Try.prog w6 = .ok (.string JT) w6 := by rw [HJT.out]; exact conv_reads (P := Try.prog) 22 5 9 Try.underlying22 Try.underlying5 Try.underlying9 jl J hr6 Hjl.out)
          | (go_simp; go_at_call 17; refine (Hrj.out XT cT _ hrT).mono ?_; rintro e w7 ⟨rfl, hb7⟩; have hs7 : (convert 22 9 (.slice A2 J J)).run Try.prog w7 = .ok (.string JT) w7 := by rw [HJT.out]; exact conv_reads (P := Try.prog) 22 5 9 Try.underlying22 Try.underlying5 Try.underlying9 jl J (hr6.below (hb7.mono hb6.size)) Hjl.out))
        have Hb57 : Hid (Below w5.heap.size w5 w7) := Lib.hid ((Below.refl _ _).drew.trans (hb6.trans (hb7.mono hb6.size)))
        have Hb7 := Lib.hid (Hb5.out.trans (Hb57.out.mono hsz5))
        have Hx17 := Lib.hid ((Hx15.out.below Hb57.out).more Hb57.out.size)
        have Hp17 := Lib.hid (Hp15.out.below Hb57.out)
        have Hx27 := Lib.hid ((Hx25.out.below Hb57.out).more Hb57.out.size)
        have Hp27 := Lib.hid (Hp25.out.below Hb57.out)
        have Hy7 := Lib.hid ((Hy5.out.below Hb57.out).more Hb57.out.size)
        clear hs6 hs7 hb6 hb7 hrT hr6 Htx Hrj Hcj Hx15 Hp15 Hx25 Hp25 Hy5 hqq
        go_wp2_with fail
        go_loopw [14] (fun i ws => ∃ k q : Nat, i = .int .i64 k ∧ k ≤ len ∧ Hid (ws = w7.drewN q)) (fun i _ => len - (intOf i).toNat)
        case atStart => exact ⟨0, 0, rfl, by omega, Lib.hid rfl⟩
        case round =>
          obtain ⟨k, q, rfl, hk, hws⟩ := hrel
          by_cases hlt : k < len
          · obtain ⟨ad, u, hA, hadb, hu, hcw⟩ := (Hr.out.below Hb7.out).at_ hlt
            rw [List.getElem?_map, List.getElem?_range hlt, Option.map_some, Option.some.injEq] at hu
            subst hu
            subst hA
            obtain ⟨ad1, u1, hA1, hadb1, hu1, hcw1⟩ := Hx17.out.at_ hlt
            subst hA1
            obtain ⟨D, cD, hxk, hpart⟩ := Hp17.out.2 k (ps k) (Hpat.out k hlt)
            rw [hxk, Option.some.injEq] at hu1
            subst hu1
            obtain ⟨g1, g2, g3, g4⟩ := Hrow.out k hlt
            have gA : Reads wr w.heap.size 1 (A k) (L k) (Ints .u8 (ps k)) := by rw [hws.out]; exact Reads.drewN (g1.below Hb7.out) q
            have gB : Reads wr w7.heap.size 1 D (ps k).length (Ints .u8 (ps k)) := by rw [hws.out]; exact Reads.drewN hpart.1 q
            have cA := fun m => conv_reads (P := Try.prog) 22 5 9 Try.underlying22 Try.underlying5 Try.underlying9 (ps k) (C k) (Reads.drewN gA m) g3
            have cB := fun m => conv_reads (P := Try.prog) 22 5 9 Try.underlying22 Try.underlying5 Try.underlying9 (ps k) cD (Reads.drewN gB m) g3
            have hc1 : wr.cell? (ad.add k) = some (.slice (A k) (L k) (C k)) := by rw [hws.out]; exact hcw
            have hc2 : wr.cell? (ad1.add k) = some (.slice D (ps k).length cD) := by rw [hws.out]; exact hcw1
            obtain ⟨PK, hPK⟩ : ∃ PK, PK = strB (ps k) := ⟨_, rfl⟩
            rw [← hPK] at cA cB
            have hqk2 : (PK.toList == PK.toList) = true := beq_self_eq_true _
            have a1 : (0 : Int) ≤ (k : Int) := by omega
            have a2 : (k : Int) < (len : Int) := by omega
            generalize hLk : L k = Lk at *
            generalize hAk : A k = Ak at *
            generalize hCk : C k = Ck at *
            generalize (ps k).length = pk at *
            clear hcw hcw1 hpart g1 g2 g3 g4 gA gB hPK hxk hLk hAk hCk
            go_wp2_with fail
            go_quiet (fail)
            clear cA cB hc1 hc2
            go_wp2_with fail
            go_roundw
            case rel => exact ⟨k + 1, q + nq, by go_num, by omega, Lib.hid (by rw [hws.out]; exact World.drewN_drewN _ _ _)⟩
            case measure => simp [intOf]; omega
          · go_wp2_with fail
            go_loopw [15] (fun i ws => ∃ k q : Nat, i = .int .i64 k ∧ k ≤ qn ∧ Hid (ws = w7.drewN q)) (fun i _ => qn - (intOf i).toNat)
            case atStart => exact ⟨0, q, rfl, by omega, hws⟩
            case round =>
              obtain ⟨k2, q2, rfl, hk2, hws2⟩ := hrel
              by_cases hlt2 : k2 < qn
              · have hkQ : k2 < Q.length := by rw [← Hqn.out]; exact hlt2
                obtain ⟨ad1, u1, hA1, hadb1, hu1, hcw1⟩ := Hx27.out.at_ hlt2
                subst hA1
                obtain ⟨ad2, u2, hA2, hadb2, hu2, hcw2⟩ := Hy7.out.at_ hlt2
                subst hA2
                obtain ⟨D, cD, hxk, hpart⟩ := Hp27.out.2 k2 (Q[k2]) (List.getElem?_eq_getElem hkQ)
                rw [hxk, Option.some.injEq] at hu1
                subst hu1
                rw [txs_at Q k2 hkQ, Option.some.injEq] at hu2
                subst hu2
                generalize Q[k2] = pq at *
                have gB : Reads wr w7.heap.size 1 D pq.length (Ints .u8 pq) := by rw [hws2.out]; exact Reads.drewN hpart.1 q2
                have cB := fun m => conv_reads (P := Try.prog) 22 5 9 Try.underlying22 Try.underlying5 Try.underlying9 pq cD (Reads.drewN gB m) hpart.2.2
                have hc1 : wr.cell? (ad1.add k2) = some (.slice D pq.length cD) := by rw [hws2.out]; exact hcw1
                have hc2 : wr.cell? (ad2.add k2) = some (.string (strB pq)) := by rw [hws2.out]; exact hcw2
                obtain ⟨PK, hPK⟩ : ∃ PK, PK = strB pq := ⟨_, rfl⟩
                rw [← hPK] at cB hc2
                have hqk2 : (PK.toList == PK.toList) = true := beq_self_eq_true _
                have a1 : (0 : Int) ≤ (k2 : Int) := by omega
                have a2 : (k2 : Int) < (qn : Int) := by omega
                generalize pq.length = pk at *
                clear hcw1 hcw2 hpart gB hPK hxk hkQ
                go_wp2_with fail
                go_quiet (fail)
                clear cB hc1 hc2
                go_wp2_with fail
                go_roundw
                case rel => exact ⟨k2 + 1, q2 + nq, by go_num, by omega, Lib.hid (by rw [hws2.out]; exact World.drewN_drewN _ _ _)⟩
                case measure => simp [intOf]; omega
              · have Hb8 : Hid (Below w.heap.size w wr) := Lib.hid (by rw [hws2.out]; exact below_drewN Hb7.out q2)
                go_wp2_with fail
                refine (awake_any _).mono ?_
                rintro e w9 ⟨rfl, hb9⟩
                have Hb9 := Lib.hid (Hb8.out.trans (hb9.mono Hb8.out.size))
                clear hb9
                go_wp2_with fail
                go_ret
                exact ⟨rfl, Hb9.out⟩
end Go.Proofs.Ytkkdcojgnpmpgaa
