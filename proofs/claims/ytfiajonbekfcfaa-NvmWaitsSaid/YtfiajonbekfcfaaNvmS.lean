/- NvmWaits: the law's walk. -/
import Derived.Test.YtfiajonbekfcfaaNvmR
import Derived.StillTailTactics
namespace Go.Proofs.Ytfiajonbekfcfaa
open Go.RowKit
set_option linter.unusedVariables false
theorem waits_getW (s : DS) (n k : Nat) (hk : k < n) (hw : (s.now k == s.last k) = false) : (waits s n)[(waits s k).length]? = some k := by
  induction n with
  | zero => omega
  | succ n ih =>
    rw [waits_succ]
    by_cases e : k = n
    · subst e
      rw [if_neg (by rw [hw]; decide), List.getElem?_append_right (Nat.le_refl _), Nat.sub_self]
      rfl
    · have h1 := ih (by omega)
      have h2 := (List.getElem?_eq_some_iff.1 h1).1
      rw [List.getElem?_append_left h2]
      exact h1
set_option maxRecDepth 100000 in
set_option maxHeartbeats 16000000 in
theorem waitsW (a1 : Option Addr) (len1 cap1 : Nat) (z1 : List Int) (a2 : Option Addr) (len2 cap2 : Nat) (z2 : List Int) (w : World) (w1 : IsRow .i64 w a1 len1 cap1 z1) (w2 : IsRow .i64 w a2 len2 cap2 z2) :
    Calls Try.prog 7 #[.slice a1 len1 cap1, .slice a2 len2 cap2] w fun e w' => e = .returned (.bool true) ∧ Below w.heap.size w w' := by
  have hmf : ∀ (fn : Fn) (first cap : Array Value) (w : World), (Instr.makeFunc fn first cap).run Try.prog w = .ok (.func fn first cap) w := fun _ _ _ _ => rfl
  obtain ⟨r1, hz1, hl1, -, -⟩ := isrow_rd w1
  obtain ⟨r2, hz2, hl2, -, hw2⟩ := isrow_rd w2
  have R1 := Lib.hid r1
  have R2 := Lib.hid r2
  have Hw2 := Lib.hid hw2
  clear w1 w2 r1 r2 hw2
  go_enter Try.func7, Try.ntmps7
  go_wp2_with fail
  refine (new_any _ 64 (by decide)).mono ?_
  rintro e w3 ⟨G, rfl, hF, hD, hM⟩
  have hs0 := hM.size
  simp at hs0
  have bS3 : Blk w3 w.heap.size 22 #[.slice a1 len1 cap1] := Blk.mv (Blk.new w _ _) hM (fun e => e)
  have bD4 := Blk.new w3 23 #[.pointer (some ⟨G.d, 0, none⟩)]
  go_wp2_with fail
  obtain ⟨F1, F2, F3, F4⟩ := hF
  simp at F1 F2 F3 F4
  have hap := hD.apart
  have own2 : ∀ b, G.own b → w.heap.size + 1 ≤ b ∧ b < w3.heap.size := fun b e => by rcases e with rfl | rfl | rfl | rfl <;> exact ⟨by omega, by omega⟩
  have hb3 : Below w.heap.size w w3 := ((Below.refl _ w).alloc (Nat.le_refl _) _).trans (hM.below (by simp) (fun b e => e.elim))
  refine (tellR 0 26 Try.f26 _ _ (Iv w.heap.size (w3.heap.size + 2)) (fun w' => ∃ v, ∃ s wt, Wt v w.heap.size (w3.heap.size + 2) (w3.heap.size + 4) G w.heap.size w3.heap.size (w3.heap.size + 1) #[.slice a1 len1 cap1] #[.pointer (some ⟨G.d, 0, none⟩)] (bls 64 wt) w' s ∧ (∀ j, wt j = !(s.now j == s.last j))) Try.func26 (by kernel_rfl) (by kernel_rfl) ?hS ?h).mono ?_
  case hS => intro b e; have := e.2; simp; omega
  case h =>
    intro v hv hs
    have m5 : Mv (fun _ => False) w3 v := Mv.trans' (((Mv.refl (fun _ => False) w3).alloc _) |>.alloc _) hv (fun _ _ e => e.elim)
    have hbv : Below w.heap.size w v := hb3.trans (m5.below (by omega) (fun b e => e.elim))
    have hsz := hv.size
    simp at hsz hs
    refine (waits1 v w.heap.size (w3.heap.size + 2) (w3.heap.size + 4) G w.heap.size w3.heap.size (w3.heap.size + 1) a1 len1 cap1 (z1.take len1) ?_ (R1.out.below hbv) (by omega) hl1).mono ?_
    · exact ⟨DevA.rebase (hD.mv m5 (fun _ _ e => e.elim) (A' := G.own) (fun _ _ e => e) hD.2.2.2.2.1 (fun _ _ e => e)) (fun _ => rfl) (fun b e => by have := own2 b e; exact ⟨by omega, by omega⟩) (fun b e => by have := e.2; omega),
        bS3.mv m5 (fun e => e), ⟨by omega, by omega⟩, fun e => by have := own2 _ e; omega,
        Blk.mv (bD4.alloc _) hv (fun e => e), ⟨by omega, by omega⟩, fun e => by have := own2 _ e; omega,
        Blk.mv (blk_new _ _ _ (by simp)) hv (fun e => e), ⟨by omega, by omega⟩, fun e => by have := own2 _ e; omega,
        fun b e => by have := own2 b e; exact ⟨by omega, by omega⟩, by omega, Mv.refl _ _⟩
    · rintro e w' ⟨he, s, wt, hL, hwt⟩
      exact ⟨he, ⟨v, s, wt, hL, hwt⟩, hL.mv⟩
  rintro e w6 ⟨rfl, w5, ⟨v, s, wt, hL5, hwt⟩, hM5, hM6⟩
  have hw5 : Below w.heap.size w w5 := (hb3.trans ((((Mv.refl (fun _ => False) w3).alloc _) |>.alloc _).below (by omega) (fun b e => e.elim))).trans (hM5.below (by simp; omega) (fun b e => e.1))
  have HM6 := Lib.hid (hw5.trans (hM6.below hw5.size (fun b e => by subst e; simp; omega)))
  have HA6 := Lib.hid (hL5.dev.keep hM6 (fun b e _ => by subst e; simp; exact ⟨by omega, by omega⟩) (fun b hb e => by have := own2 b hb; subst e; simp at this; omega))
  have HbD6 := Lib.hid (hL5.pD.mv hM6 (by simp; omega))
  have HbW6 := Lib.hid (hL5.pW.mv hM6 (by simp; try omega))
  have Hwt := Lib.hid hwt
  obtain ⟨A, hA⟩ : ∃ A : Nat → Prop, A = Iv w.heap.size (w3.heap.size + 4) := ⟨_, rfl⟩
  rw [← hA] at HA6
  have hAW : Hid (A (w3.heap.size + 1)) := Lib.hid (by rw [hA]; exact ⟨by omega, by omega⟩)
  have own3 : Hid (∀ b, G.own b → w.heap.size ≤ b ∧ b < w3.heap.size) := Lib.hid (fun b e => by have := own2 b e; omega)
  clear hM5 hM6 hL5 hw5 hb3 hD hM bS3 bD4 R1 hwt hA hap F1 F2 F3 F4 own2
  go_wp2_with fail
  generalize hfW : w3.heap.size + 1 = fW at *
  generalize hfD : w3.heap.size = fD at *
  generalize hB : w.heap.size = B at *
  go_loopw [9] (fun i wr => ∃ (k : Nat) (s : DS) (wt : Nat → Bool), i = .int .i64 k ∧ k ≤ 20 ∧ Hid (DevA wr A G 64 s) ∧ Hid (Blk wr fD 23 #[.pointer (some ⟨G.d, 0, none⟩)]) ∧ Hid (Blk wr fW 43 (bls 64 wt)) ∧ Hid (Below B w wr) ∧ Hid (∀ j, wt j = !(s.now j == s.last j)))
    (fun i _ => 20 - (intOf i).toNat)
  case atStart => exact ⟨0, s, wt, rfl, by omega, HA6, HbD6, HbW6, HM6, Hwt⟩
  case round =>
    clear HA6 HbD6 HbW6 HM6 Hwt
    obtain ⟨k, s, wt, rfl, hk, HA, HbD, HbW, HM, Hwt⟩ := hrel
    have cD : wr.cell? ⟨fD, 0, none⟩ = some (.pointer (some ⟨G.d, 0, none⟩)) := (HbD.out.cell 0).trans rfl
    have hsz : B ≤ wr.heap.size := by have := HM.out.size; omega
    by_cases hlt : k < len2 ∧ k < 20
    · obtain ⟨hlt, h20⟩ := hlt
      obtain ⟨ad, z, rfl, hadb, -, -, hcl0⟩ := int_at R2.out hlt
      have hcl : wr.cell? (ad.add k) = some (.int .i64 z) := (HM.out.cell (by rw [block_of_add]; omega)).trans hcl0
      have a0 : (0 : Int) ≤ (k : Int) := by omega
      have a1' : (k : Int) < (len2 : Int) := by omega
      have dr := Lib.hid (HA.out.keep (Mv.refl (fun _ => False) wr).drew (fun _ e _ => e.elim) (fun _ _ e => e))
      rcases (show (z < 0 ∨ (0 ≤ z ∧ 64 ≤ z)) ∨ (0 ≤ z ∧ z < 64) by omega) with hz | hz
      · have Hev := Lib.hid (evict_bad wr.drew A G 64 s z dr.out.1 (by omega))
        have HA2 : Hid (DevA wr.drew A G 64 s) := dr
        have HbD2 : Hid (Blk wr.drew fD 23 #[.pointer (some ⟨G.d, 0, none⟩)]) := HbD
        have HbW2 : Hid (Blk wr.drew fW 43 (bls 64 wt)) := HbW
        have HM2 : Hid (Below B w wr.drew) := Lib.hid HM.out.drew
        have hcl2 : wr.drew.cell? (ad.add k) = some (.int .i64 z) := hcl
        rcases hz with hz | ⟨hz0, hz⟩
        all_goals (
          go_wp2_with fail
          go_still_tail 5, (by kernel_rfl)
          change wpList _ _ _ _ _ wr.drew
          generalize wr.drew = w9 at *
          go_wp2_with fail
          refine Hev.out.mono ?_
          rintro e w8 ⟨rfl, rfl⟩
          go_wp2_with fail
          go_roundw
          case rel => exact ⟨k + 1, s, wt, by go_num, by omega, HA2, HbD2, HbW2, HM2, Hwt⟩
          case measure => simp [intOf]; omega)
      · obtain ⟨x, rfl⟩ : ∃ x : Nat, z = (x : Int) := ⟨z.toNat, by omega⟩
        obtain ⟨q, hq⟩ : ∃ q, q = x / 8 := ⟨_, rfl⟩
        obtain ⟨p, hp⟩ : ∃ p, p = 8 * q := ⟨_, rfl⟩
        have hx64 : x < 64 := by omega
        have qq1 : (x : Int).tdiv 8 = (q : Int) := by rw [Int.tdiv_eq_ediv_of_nonneg (by omega)]; omega
        have qq2 : (q : Int) * 8 = (p : Int) := by omega
        have hp8 : p + 8 ≤ 64 := by omega
        have hpx : 8 * (x / 8) = p := by omega
        have hz0 : (0 : Int) ≤ (x : Int) := hz.1
        have hz1' : (x : Int) < 64 := hz.2
        have hz2' : ¬ (x : Int) < 0 := by omega
        have hev := evict_ok wr.drew A G 64 s x dr.out hx64
        rw [hpx] at hev
        have Hev := Lib.hid hev
        have HbD2 : Hid (Blk wr.drew fD 23 #[.pointer (some ⟨G.d, 0, none⟩)]) := HbD
        have HbW2 : Hid (Blk wr.drew fW 43 (bls 64 wt)) := HbW
        have HM2 : Hid (Below B w wr.drew) := Lib.hid HM.out.drew
        have Hcl0 := Lib.hid hcl0
        clear hev hpx hq hp hz hcl0
        go_wp2_with fail
        go_still_tail 5, (by kernel_rfl)
        change wpList _ _ _ _ _ wr.drew
        have hsz2 : B ≤ wr.drew.heap.size := hsz
        generalize wr.drew = w9 at HbD2 HbW2 HM2 dr Hev hsz2 ⊢
        go_wp2_with fail
        refine Hev.out.mono ?_
        rintro e w8 ⟨rfl, hD8, hM8⟩
        have HA8 := Lib.hid hD8
        have HbD8 := Lib.hid (HbD2.out.mv hM8 (fun e => by have := own3.out _ e; omega))
        have HbW8 := Lib.hid (HbW2.out.mv hM8 (fun e => by have := own3.out _ e; omega))
        have HM8 := Lib.hid (HM2.out.trans (hM8.below hsz2 (fun b e => by have := own3.out _ e; omega)))
        have hcl8 : w8.cell? (ad.add k) = some (.int .i64 (x : Int)) := (HM8.out.cell (by rw [block_of_add]; omega)).trans Hcl0.out
        clear hD8 hM8 HbD2 HbW2 HM2 dr Hev hcl cD HA HbD HbW HM
        go_wp2_with fail
        go_loopw [11] (fun i wr => ∃ m : Nat, i = .int .i64 m ∧ p ≤ m ∧ m ≤ p + 8 ∧ Hid (DevA wr A G 64 (s.evict p)) ∧ Hid (Blk wr fD 23 #[.pointer (some ⟨G.d, 0, none⟩)]) ∧ Hid (Blk wr fW 43 (bls 64 fun j => if p ≤ j ∧ j < m then false else wt j)) ∧ Hid (Below B w wr))
          (fun i _ => p + 8 - (intOf i).toNat)
        case atStart =>
          refine ⟨p, rfl, by omega, by omega, HA8, HbD8, Lib.hid ?_, HM8⟩
          rw [show (fun j => if p ≤ j ∧ j < p then false else wt j) = wt from funext fun j => if_neg (by omega)]
          exact HbW8.out
        case round =>
          clear HA8 HbD8 HbW8 HM8 hcl8
          obtain ⟨m, rfl, hm1, hm2, HA, HbD, HbW, HM⟩ := hrel
          have hcl8 : wr.cell? (ad.add k) = some (.int .i64 (x : Int)) := (HM.out.cell (by rw [block_of_add]; omega)).trans Hcl0.out
          by_cases hml : m < p + 8
          · have cW := (HbW.out.cell m).trans (bls_get 64 _ (show m < 64 by omega))
            have fW0 := HbW.out.frozen m
            have m0 : (0 : Int) ≤ (m : Int) := by omega
            have m64 : (m : Int) < 64 := by omega
            have hmv : Mv (fun b => b = fW) wr (wr.setCell ⟨fW, m, none⟩ (.bool false)) := (Mv.refl (fun b => b = fW) wr).setCell (p := ⟨fW, m, none⟩) (fun _ => rfl) _
            have HA9 := Lib.hid (HA.out.keep hmv (fun b e _ => by subst e; exact hAW.out) (fun b hb e => by have := own3.out b hb; omega))
            have HbD9 := Lib.hid (HbD.out.mv hmv (by omega))
            have HM9 := Lib.hid (HM.out.trans (hmv.below (by have := HM.out.size; omega) (fun b e => by omega)))
            have hbw := HbW.out.set_ m (.bool false)
            rw [bls_set 64 _ (fun j => if p ≤ j ∧ j < m + 1 then false else wt j) m false (fun j _ => by
              by_cases e : j = m
              · rw [if_pos e, if_pos (by omega)]
              · rw [if_neg e]
                by_cases e2 : p ≤ j ∧ j < m
                · rw [if_pos e2, if_pos (by omega)]
                · rw [if_neg e2, if_neg (by omega)])] at hbw
            have HbW9 := Lib.hid hbw
            clear hmv hbw
            go_wp2_with fail
            go_roundw
            case rel => exact ⟨m + 1, by go_num, by omega, by omega, HA9, HbD9, HbW9, HM9⟩
            case measure => simp [intOf]; omega
          · have Hwt2 : Hid (∀ j, (if p ≤ j ∧ j < m then false else wt j) = !((s.evict p).now j == (s.evict p).last j)) := Lib.hid (fun j => by
              have hmp : m = p + 8 := by omega
              show (if p ≤ j ∧ j < m then false else wt j) = !(s.now j == if p ≤ j ∧ j < p + 8 then s.now j else s.last j)
              rw [hmp]
              by_cases e : p ≤ j ∧ j < p + 8
              · rw [if_pos e, if_pos e, beq_self_eq_true]; rfl
              · rw [if_neg e, if_neg e, Hwt.out])
            go_wp2_with fail
            go_roundw
            case rel => exact ⟨k + 1, s.evict p, _, by go_num, by omega, HA, HbD, HbW, HM, Hwt2⟩
            case measure => simp [intOf]; omega
    · go_wp2_with fail
      all_goals (
        refine (waiting_any wr A G 64 s HA.out.1).mono ?_
        rintro e w7 ⟨A8, q, hq, rfl, hr8, hg8, hb8⟩
        have Hq := Lib.hid hq
        have Hr8 := Lib.hid hr8
        have HM8 := Lib.hid (HM.out.trans (hb8.mono hsz))
        have HbW8 := Lib.hid (HbW.out.mv (Mv.of_below hb8 (fun _ => False)) (fun e => e))
        have hq64 : q ≤ 64 := by rw [hq]; exact waits_len s 64
        clear hq hr8 hg8 hb8 HA HbD HbW HM cD hlt
        go_wp2_with fail
        go_loopw [13, 14] (fun n i wr => ∃ (k m : Nat), n = .int .i64 m ∧ i = .int .i64 k ∧ k ≤ 64 ∧ Hid (m = (waits s k).length) ∧ Hid (wr = w7))
          (fun _ i _ => 64 - (intOf i).toNat)
        case atStart => exact ⟨0, 0, rfl, rfl, by omega, Lib.hid rfl, Lib.hid rfl⟩
        case round =>
          obtain ⟨k, m, rfl, rfl, hk, hm, hw⟩ := hrel
          obtain rfl := hw.out
          by_cases hk64 : k < 64
          · have cW := (HbW8.out.cell k).trans (bls_get 64 _ hk64)
            have k0 : (0 : Int) ≤ (k : Int) := by omega
            have k64 : (k : Int) < 64 := by omega
            have hsucc := Lib.hid (waits_succ s k)
            have hmk : m ≤ k := by rw [hm.out]; exact waits_len s k
            rcases hb : (s.now k == s.last k) with _ | _
            · have hwk : wt k = true := by rw [Hwt.out, hb]; rfl
              rw [hwk] at cW
              have hget := waits_getW s 64 k hk64 hb
              rw [← hm.out] at hget
              have hmq : m < q := by rw [Hq.out]; exact (List.getElem?_eq_some_iff.1 hget).1
              have hr := Reads.ints_at (l := waits s 64) (A := A8) (k := .i64) (w := wr) (B := wr.heap.size) (by rw [← Hq.out]; exact Hr8.out) m (by rw [← Hq.out]; exact hmq)
              obtain ⟨ad8, rfl, had8, hc8⟩ := hr
              have hgd : (waits s 64).getD m 0 = k := by rw [List.getD, hget]; rfl
              rw [hgd] at hc8
              have hm2 : Hid (m + 1 = (waits s (k + 1)).length) := Lib.hid (by rw [hsucc.out, hb, hm.out]; simp)
              clear hget hgd hb hwk
              go_wp2_with fail
              go_roundw
              case rel => exact ⟨k + 1, m + 1, by go_num, by go_num, by omega, hm2, Lib.hid trivial⟩
              case measure => simp [intOf]; omega
            · have hwk : wt k = false := by rw [Hwt.out, hb]; rfl
              rw [hwk] at cW
              have hm2 : Hid (m = (waits s (k + 1)).length) := Lib.hid (by rw [hsucc.out, hb, hm.out]; simp)
              clear hb hwk
              go_wp2_with fail
              go_roundw
              case rel => exact ⟨k + 1, m, rfl, by go_num, by omega, hm2, Lib.hid trivial⟩
              case measure => simp [intOf]; omega
          · have hmq : m = q := by rw [hm.out, Hq.out, show k = 64 by omega]
            have hqq : ((m : Int) == (q : Int)) = true := by rw [hmq]; simp
            clear hm
            go_wp2_with fail
            refine (awake_any wr).mono ?_
            rintro e w9 ⟨rfl, hb9⟩
            have Hb9 := Lib.hid (HM8.out.trans (hb9.mono (by have := HM8.out.size; omega)))
            clear hb9
            go_wp2_with fail
            go_ret
            exact ⟨by simp, by rw [hB]; exact Hb9.out⟩)
end Go.Proofs.Ytfiajonbekfcfaa
