/- mark's queue: heap's down and Pop. -/
import Derived.Test.YtogdmmjonojdfaaMarkD
namespace Go.Proofs.Ytogdmmjonojdfaa
open Go.RowKit
set_option linter.unusedVariables false
set_option maxHeartbeats 8000000 in
theorem heap_down (w : World) (q g c N n : Nat) (f : Nat → Int) (h : Qs w q g c N f) (hN : N < 1000000) (hn : n < N) (hd : Dn n f 0) :
    Calls Try.prog 31 #[.iface 43 (.pointer (some ⟨q, 0, none⟩)), .int .i64 0, .int .i64 n] w (fun e w' => (∃ v : Value, e = .returned v) ∧ ∃ f', Qs w' q g c N f' ∧ Pm n f' f ∧ (∀ k, n ≤ k → f' k = f k) ∧ Hp n f' ∧ Mv (fun b => b = g) w w') := by
  have Hh := Lib.hid h
  have Hd := Lib.hid hd
  clear h hd
  go_enter Try.func31, Try.ntmps31
  go_wp2_with fail
  go_loopw [7] (fun v wr => ∃ (i : Nat) (fr : Nat → Int), v = .int .i64 (i : Int) ∧ i ≤ n ∧ Hid (Qs wr q g c N fr) ∧ Hid (Pm n fr f) ∧ Hid (∀ k, n ≤ k → fr k = f k) ∧ Hid (Dn n fr i) ∧ Hid (Mv (fun b => b = g) w wr))
    (fun v wr => n - (intOf v).toNat)
  case atStart => exact ⟨0, f, rfl, Nat.zero_le _, Hh, Lib.hid (Pm.refl _ _), Lib.hid (fun _ _ => rfl), Hd, Lib.hid (Mv.refl _ w)⟩
  case round =>
    obtain ⟨i, fr, rfl, hi, hq, hp, ho, hu, hm⟩ := hrel
    have w1 := wrap_small (z := 2 * (i : Int)) (by omega) (by omega)
    obtain ⟨p1, hp1⟩ : ∃ p1, p1 = 2 * i + 1 := ⟨_, rfl⟩
    obtain ⟨p2, hp2⟩ : ∃ p2, p2 = 2 * i + 2 := ⟨_, rfl⟩
    have E1 : 2 * (i : Int) + 1 = (p1 : Int) := by omega
    have E2 : (p1 : Int) + 1 = (p2 : Int) := by omega
    have w2 := wrap_small (z := (p1 : Int)) (by omega) (by omega)
    have w3 := wrap_small (z := (p2 : Int)) (by omega) (by omega)
    have P1 := Lib.hid hp1
    have P2 := Lib.hid hp2
    clear hp1 hp2
    have hc := (hq.out.cell.cell 0).trans (show _ = some (Value.slice (some ⟨g, 0, none⟩) N c) from rfl)
    have hl : ∀ m, (Go.method 201 43 (.pointer (some ⟨q, 0, none⟩)) "Less").run Try.prog (wr.drewN m) = .ok (72, .slice (some ⟨g, 0, none⟩) N c) (wr.drewN m) := fun m => inv_less (wr.drewN m) ⟨q, 0, none⟩ _ hc
    have hs : ∀ m, (Go.method 201 43 (.pointer (some ⟨q, 0, none⟩)) "Swap").run Try.prog (wr.drewN m) = .ok (75, .slice (some ⟨g, 0, none⟩) N c) (wr.drewN m) := fun m => inv_swap (wr.drewN m) ⟨q, 0, none⟩ _ hc
    have hpos : ¬ ((p1 : Int) < 0) := by omega
    rcases Nat.lt_or_ge p1 n with hj1 | hj1
    · have g1 : ¬ (n ≤ p1) := by omega
      have hi1 : i < N := by have := P1.out; omega
      have hi2 : p1 < N := by omega
      have hl0 := inv_less wr ⟨q, 0, none⟩ _ hc
      by_cases hj2 : p2 < n
      · have hi3 : p2 < N := by omega
        by_cases hm2 : fr p2 < fr p1
        · have Hm2 := Lib.hid hm2
          clear hm2
          by_cases hsw : fr p2 < fr i
          · skip
            have Hsw := Lib.hid hsw
            clear hsw
            go_wp2_with (first
              | (go_at_call 72; (fail_if_success (have := m1)); refine (qless wr q g c N fr hq.out p2 p1 hi3 hi2).mono ?_; rintro e w5 ⟨rfl, m1, rfl⟩; have hl1 := hl m1; rw [decide_eq_true (show (fr p2 < fr p1) by have := Hm2.out; omega)])
              | (go_at_call 72; refine (qless _ q g c N fr (hq.out.drewN m1) p2 i hi3 hi1).mono ?_; rintro e w5 ⟨rfl, m2, rfl⟩; have hs1 := inv_swap (wr.drewN (m1 + m2)) ⟨q, 0, none⟩ _ hc; rw [decide_eq_true (show (fr p2 < fr i) by have := Hsw.out; omega)])
              | (go_at_call 75; refine (qswap _ q g c N fr (hq.out.drewN (m1 + m2)) i p2 hi1 hi3).mono ?_; rintro e w5 ⟨rfl, hq1, hm1⟩)
              | fail)
            have hsw := Hsw.out
            have hm2 := Hm2.out
            have e1 := P1.out
            have e2 := P2.out
            have hin : i < n := by omega
            have hst := hu.out.step (j := p2) (by omega) hj2 (by omega) (fun k h1 h2 h3 => by
              rcases (show k = p1 ∨ k = p2 by omega) with e | e <;> subst e <;> omega) hsw
            refine ⟨⟨p2, swp fr i p2, rfl, by omega, Lib.hid hq1, Lib.hid ((swp_perm fr hin hj2).trans hp.out), Lib.hid (fun k hk => (swp_o fr (show k ≠ i by omega) (show k ≠ p2 by omega)).trans (ho.out k hk)), Lib.hid hst, Lib.hid (hm.out.trans (((Mv.refl (fun b => b = g) wr).drewN (m1 + m2)).trans hm1))⟩, ?_⟩
            show n - ((p2 : Int)).toNat < n - ((i : Int)).toNat
            omega
          · skip
            have Hsw := Lib.hid hsw
            clear hsw
            go_wp2_with (first
              | (go_at_call 72; (fail_if_success (have := m1)); refine (qless wr q g c N fr hq.out p2 p1 hi3 hi2).mono ?_; rintro e w5 ⟨rfl, m1, rfl⟩; have hl1 := hl m1; rw [decide_eq_true (show (fr p2 < fr p1) by have := Hm2.out; omega)])
              | (go_at_call 72; refine (qless _ q g c N fr (hq.out.drewN m1) p2 i hi3 hi1).mono ?_; rintro e w5 ⟨rfl, m2, rfl⟩; have hs1 := inv_swap (wr.drewN (m1 + m2)) ⟨q, 0, none⟩ _ hc; rw [decide_eq_false (show ¬ (fr p2 < fr i) by have := Hsw.out; omega)])
              | fail)
            have hsw := Hsw.out
            have hm2 := Hm2.out
            go_ret
            have e1 := P1.out
            have e2 := P2.out
            exact ⟨by simp, fr, (hq.out.drewN (m1 + m2)), hp.out, ho.out, hu.out.stop (fun k h1 h2 h3 => by
              rcases (show k = p1 ∨ k = p2 by omega) with e | e <;> subst e <;> omega), hm.out.drewN (m1 + m2)⟩
        · have Hm2 := Lib.hid hm2
          clear hm2
          by_cases hsw : fr p1 < fr i
          · skip
            have Hsw := Lib.hid hsw
            clear hsw
            go_wp2_with (first
              | (go_at_call 72; (fail_if_success (have := m1)); refine (qless wr q g c N fr hq.out p2 p1 hi3 hi2).mono ?_; rintro e w5 ⟨rfl, m1, rfl⟩; have hl1 := hl m1; rw [decide_eq_false (show ¬ (fr p2 < fr p1) by have := Hm2.out; omega)])
              | (go_at_call 72; refine (qless _ q g c N fr (hq.out.drewN m1) p1 i hi2 hi1).mono ?_; rintro e w5 ⟨rfl, m2, rfl⟩; have hs1 := inv_swap (wr.drewN (m1 + m2)) ⟨q, 0, none⟩ _ hc; rw [decide_eq_true (show (fr p1 < fr i) by have := Hsw.out; omega)])
              | (go_at_call 75; refine (qswap _ q g c N fr (hq.out.drewN (m1 + m2)) i p1 hi1 hi2).mono ?_; rintro e w5 ⟨rfl, hq1, hm1⟩)
              | fail)
            have hsw := Hsw.out
            have hm2 := Hm2.out
            have e1 := P1.out
            have e2 := P2.out
            have hin : i < n := by omega
            have hst := hu.out.step (j := p1) (by omega) hj1 (by omega) (fun k h1 h2 h3 => by
              rcases (show k = p1 ∨ k = p2 by omega) with e | e <;> subst e <;> omega) hsw
            refine ⟨⟨p1, swp fr i p1, rfl, by omega, Lib.hid hq1, Lib.hid ((swp_perm fr hin hj1).trans hp.out), Lib.hid (fun k hk => (swp_o fr (show k ≠ i by omega) (show k ≠ p1 by omega)).trans (ho.out k hk)), Lib.hid hst, Lib.hid (hm.out.trans (((Mv.refl (fun b => b = g) wr).drewN (m1 + m2)).trans hm1))⟩, ?_⟩
            show n - ((p1 : Int)).toNat < n - ((i : Int)).toNat
            omega
          · skip
            have Hsw := Lib.hid hsw
            clear hsw
            go_wp2_with (first
              | (go_at_call 72; (fail_if_success (have := m1)); refine (qless wr q g c N fr hq.out p2 p1 hi3 hi2).mono ?_; rintro e w5 ⟨rfl, m1, rfl⟩; have hl1 := hl m1; rw [decide_eq_false (show ¬ (fr p2 < fr p1) by have := Hm2.out; omega)])
              | (go_at_call 72; refine (qless _ q g c N fr (hq.out.drewN m1) p1 i hi2 hi1).mono ?_; rintro e w5 ⟨rfl, m2, rfl⟩; have hs1 := inv_swap (wr.drewN (m1 + m2)) ⟨q, 0, none⟩ _ hc; rw [decide_eq_false (show ¬ (fr p1 < fr i) by have := Hsw.out; omega)])
              | fail)
            have hsw := Hsw.out
            have hm2 := Hm2.out
            go_ret
            have e1 := P1.out
            have e2 := P2.out
            exact ⟨by simp, fr, (hq.out.drewN (m1 + m2)), hp.out, ho.out, hu.out.stop (fun k h1 h2 h3 => by
              rcases (show k = p1 ∨ k = p2 by omega) with e | e <;> subst e <;> omega), hm.out.drewN (m1 + m2)⟩
      · by_cases hsw : fr p1 < fr i
        · skip
          have Hsw := Lib.hid hsw
          clear hsw
          go_wp2_with (first
            | (go_at_call 72; refine (qless _ q g c N fr hq.out p1 i hi2 hi1).mono ?_; rintro e w5 ⟨rfl, m2, rfl⟩; have hs1 := inv_swap (wr.drewN m2) ⟨q, 0, none⟩ _ hc; rw [decide_eq_true (show (fr p1 < fr i) by have := Hsw.out; omega)])
            | (go_at_call 75; refine (qswap _ q g c N fr (hq.out.drewN m2) i p1 hi1 hi2).mono ?_; rintro e w5 ⟨rfl, hq1, hm1⟩)
            | fail)
          have hsw := Hsw.out
          have e1 := P1.out
          have e2 := P2.out
          have hin : i < n := by omega
          have hst := hu.out.step (j := p1) (by omega) hj1 (by omega) (fun k h1 h2 h3 => by
            have e3 : k = p1 := by omega
            subst e3
            exact Int.le_refl _) hsw
          refine ⟨⟨p1, swp fr i p1, rfl, by omega, Lib.hid hq1, Lib.hid ((swp_perm fr hin hj1).trans hp.out), Lib.hid (fun k hk => (swp_o fr (show k ≠ i by omega) (show k ≠ p1 by omega)).trans (ho.out k hk)), Lib.hid hst, Lib.hid (hm.out.trans (((Mv.refl (fun b => b = g) wr).drewN m2).trans hm1))⟩, ?_⟩
          show n - ((p1 : Int)).toNat < n - ((i : Int)).toNat
          omega
        · skip
          have Hsw := Lib.hid hsw
          clear hsw
          go_wp2_with (first
            | (go_at_call 72; refine (qless _ q g c N fr hq.out p1 i hi2 hi1).mono ?_; rintro e w5 ⟨rfl, m2, rfl⟩; have hs1 := inv_swap (wr.drewN m2) ⟨q, 0, none⟩ _ hc; rw [decide_eq_false (show ¬ (fr p1 < fr i) by have := Hsw.out; omega)])
            | fail)
          have hsw := Hsw.out
          go_ret
          have e1 := P1.out
          have e2 := P2.out
          exact ⟨by simp, fr, (hq.out.drewN m2), hp.out, ho.out, hu.out.stop (fun k h1 h2 h3 => by
            have e3 : k = p1 := by omega
            subst e3
            omega), hm.out.drewN m2⟩
    · go_wp2_with fail
      go_ret
      exact ⟨by simp, fr, hq.out, hp.out, ho.out, hu.out.stop (fun k h1 h2 h3 => by have := P1.out; omega), hm.out⟩
theorem heap_pop (w : World) (q g c n : Nat) (f : Nat → Int) (h : Qs w q g c (n + 1) f) (hn : n < 100000) (hp : Hp (n + 1) f) :
    Calls Try.prog 23 #[.iface 43 (.pointer (some ⟨q, 0, none⟩))] w (fun e w' => e = .returned (.iface 3 (.int .i64 (f 0))) ∧ ∃ f', Qs w' q g c n f' ∧ Pm (n + 1) (upd f' n (f 0)) f ∧ Hp n f' ∧ Mv (fun b => b = q ∨ b = g) w w') := by
  have Hh := Lib.hid h
  have hw := wrap_small (z := (n : Int)) (by omega) (by omega)
  have hw2 : (n : Int) + 1 - 1 = n := by omega
  have hd := Dn.start hp
  have hc := (h.cell.cell 0).trans (show _ = some (Value.slice (some ⟨g, 0, none⟩) (n + 1) c) from rfl)
  have hl := inv_len w ⟨q, 0, none⟩ _ hc
  have hs := inv_swap w ⟨q, 0, none⟩ _ hc
  clear h
  go_enter Try.func23, Try.ntmps23
  go_wp2_with (first
    | (go_at_call 22; refine (qlen _ _ _ _).mono ?_; rintro e w2 ⟨rfl, rfl⟩)
    | (go_at_call 75; refine (qswap _ q g c (n + 1) f Hh.out 0 n (by omega) (by omega)).mono ?_; rintro e w1 ⟨rfl, hq1, hm1⟩)
    | (go_at_call 31; refine (heap_down _ q g c (n + 1) n _ hq1 (by omega) (by omega) hd).mono ?_; rintro e w3 ⟨⟨v, rfl⟩, f', hq2, hp2, ho2, hh2, hm2⟩)
    | (go_at_call 73; refine (qpop _ q g c (n + 1) f' hq2 (by omega) (by omega)).mono ?_; rintro e w4 ⟨rfl, hq3, hm3⟩))
  go_ret
  refine ⟨by have := swp_j f 0 n; simp only [swp] at this; rw [this]; rfl, f', hq3, ?_, hh2, ?_⟩
  · have e1 : (List.range (n + 1)).map (upd f' n (f 0)) = (List.range n).map f' ++ [f 0] := by
      rw [List.range_succ, List.map_append]
      congr 1
      · apply List.map_congr_left
        intro j hj
        have : j < n := by simpa using hj
        simp [upd, show j ≠ n by omega]
      · simp [upd]
    have e2 : (List.range (n + 1)).map (swp f 0 n) = (List.range n).map (swp f 0 n) ++ [f 0] := by
      rw [List.range_succ, List.map_append]
      congr 1
      simp [swp_j]
    have h3 : Pm n f' (swp f 0 n) := hp2
    have h4 : Pm (n + 1) (swp f 0 n) f := swp_perm f (by omega) (by omega)
    unfold Pm at *
    rw [e1]
    rw [e2] at h4
    exact (h3.append_right _).trans h4
  · exact ((hm1.trans hm2).mono (fun b _ e => .inr e)).trans (hm3.mono (fun b _ e => .inl e))
end Go.Proofs.Ytogdmmjonojdfaa
