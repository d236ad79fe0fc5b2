/- NvmLines: the closure's walk. -/
import Derived.Test.YtfiajonbekfcfaaNvmJ
namespace Go.Proofs.Ytfiajonbekfcfaa
open Go.RowKit
set_option linter.unusedVariables false

theorem int_at {w : World} {B n : Nat} {a : Option Addr} {zs : List Int} {k : Nat} (h : Reads w B 1 a n (zs.map (Value.int .i64))) (hk : k < n) : ∃ ad z, a = some ad ∧ ad.block < B ∧ z ∈ zs ∧ zs[k]? = some z ∧ w.cell? (ad.add k) = some (.int .i64 z) := by
  obtain ⟨ad, u, e, hb, hu, hc⟩ := h.at_ hk
  rw [List.getElem?_map] at hu
  rcases hz : zs[k]? with _ | z
  · rw [hz] at hu; cases hu
  · rw [hz] at hu
    cases hu
    exact ⟨ad, z, e, hb, List.mem_of_getElem? hz, rfl, hc⟩
set_option maxRecDepth 100000 in
set_option maxHeartbeats 16000000 in
theorem lines1 (w0 : World) (B M : Nat) (G : Dv) (fB fD fN fA fS fH fO : Nat) (a1 a2 : Option Addr) (len1 cap1 len2 cap2 at_ : Nat) (z1 z2 : List Int)
    (h : Ln w0 B M G fB fD fN fA fS fH fO #[.slice a1 len1 cap1] #[.pointer (some ⟨G.d, 0, none⟩)] (words .u64 64 fun _ => 0) #[.int .i64 (at_ : Int)] (words .u64 64 fun _ => 0) #[.slice a2 len2 cap2] #[.bool true] w0 noughts)
    (hr1 : Reads w0 B 1 a1 len1 (z1.map (Value.int .i64))) (hr2 : Reads w0 B 1 a2 len2 (z2.map (Value.int .i64))) (hB : B ≤ w0.heap.size) (hat : at_ < 64) (hl1 : len1 ≤ 9223372036854775807) (hl2 : len2 ≤ 9223372036854775807) :
    Calls Try.prog 11 #[.pointer (some ⟨fB, 0, none⟩), .pointer (some ⟨fD, 0, none⟩), .pointer (some ⟨fN, 0, none⟩), .pointer (some ⟨fA, 0, none⟩), .pointer (some ⟨fS, 0, none⟩), .pointer (some ⟨fH, 0, none⟩), .pointer (some ⟨fO, 0, none⟩)] w0
      fun e w' => e = .returned (.tuple #[]) ∧ Blk w' fO 4 #[.bool true] ∧ Mv (Iv B M) w0 w' := by
  have H0 := Lib.hid h
  have R1 := Lib.hid hr1
  have R2 := Lib.hid hr2
  have HB := Lib.hid hB
  clear h hr1 hr2
  obtain ⟨q, hq⟩ : ∃ q, q = at_ / 8 := ⟨_, rfl⟩
  obtain ⟨p, hp⟩ : ∃ p, p = 8 * q := ⟨_, rfl⟩
  have hq8 : q < 8 := by omega
  have qq1 : (at_ : Int).tdiv 8 = (q : Int) := by rw [Int.tdiv_eq_ediv_of_nonneg (by omega)]; omega
  have qq2 : (q : Int) * 8 = (p : Int) := by omega
  have hpq := Lib.hid (show 8 * (at_ / 8) = p by omega)
  have hp8 : p + 8 ≤ 64 := by omega
  clear hq hp
  go_enter Try.func11, Try.ntmps11
  go_wp2_with fail
  go_loopw [7] (fun i wr => ∃ (k : Nat) (s : DS), i = .int .i64 k ∧ k ≤ 40 ∧ Hid (Ln w0 B M G fB fD fN fA fS fH fO #[.slice a1 len1 cap1] #[.pointer (some ⟨G.d, 0, none⟩)] (words .u64 64 s.now) #[.int .i64 (at_ : Int)] (words .u64 64 fun _ => 0) #[.slice a2 len2 cap2] #[.bool true] wr s) ∧ Hid (Free s k) ∧ Hid (∀ j, s.last j = 0) ∧ Hid (∀ j, s.way j = none))
    (fun i _ => 40 - (intOf i).toNat)
  case atStart => exact ⟨0, noughts, rfl, by omega, H0, Lib.hid Free.noughts, Lib.hid (fun _ => rfl), Lib.hid (fun _ => rfl)⟩
  case round =>
    obtain ⟨k, s, rfl, hk, hL, hF, hlast, hway⟩ := hrel
    have cB : wr.cell? ⟨fB, 0, none⟩ = some (.slice a1 len1 cap1) := (hL.out.pB.cell 0).trans rfl
    have cD : wr.cell? ⟨fD, 0, none⟩ = some (.pointer (some ⟨G.d, 0, none⟩)) := (hL.out.pD.cell 0).trans rfl
    by_cases hlt : k < len1 ∧ k < 40
    · obtain ⟨hlt, h40⟩ := hlt
      obtain ⟨ad, z, rfl, hadb, -, -, hcl⟩ := int_at (hL.out.rd R1.out HB.out) hlt
      obtain ⟨N, hN, hm⟩ := mask z 63 (by decide)
      have hm' : bits .and .i64 z 63 = (N : Int) := hm
      have hw0 : IntKind.i64.wrap ((k : Int) + 1) = (k : Int) + 1 := IntWalk.i64_in _ (by omega)
      have hw1 : IntKind.u64.wrap ((k : Int) + 1) = (k : Int) + 1 := IntWalk.u64_in _ (by omega)
      have hL' := Lib.hid (hL.out.keep ((Mv.refl (fun _ => False) wr).drew))
      clear hm
      go_wp2_with fail
      go_region_held3 (fun w' => w'.cell? ⟨fD, 0, none⟩ = some (.pointer (some ⟨G.d, 0, none⟩)) ∧ w'.cell? ⟨fB, 0, none⟩ = some (.slice (some ad) len1 cap1) ∧ w'.cell? (ad.add k) = some (.int .i64 z)) (first | assumption | exact ⟨by assumption, by assumption, by assumption⟩ | (simp [*]; done)) (first
        | (go_simp; go_at_call 12; refine (storeA wr.drew (Iv B M) G 64 s k N ((k : Int) + 1) hL'.out.dev hF.out (by omega) (by omega)).mono ?_; rintro e w3 ⟨rfl, hD3, hM3⟩; have hL3 := hL'.out.to hD3 hM3; have dD : w3.cell? ⟨fD, 0, none⟩ = some (.pointer (some ⟨G.d, 0, none⟩)) := (hL3.pD.cell 0).trans rfl; have dB : w3.cell? ⟨fB, 0, none⟩ = some (.slice (some ad) len1 cap1) := (hL3.pB.cell 0).trans rfl; have dcl : w3.cell? (ad.add k) = some (.int .i64 z) := (mv_cell (hL'.out.mv.trans' (S := Iv B M) hM3 (fun b _ e => hL'.out.dev.own_in b e)) (p := ad.add k) (by rw [block_of_add]; exact Nat.lt_of_lt_of_le hadb HB.out) (by rw [block_of_add]; exact fun e => by have := e.1; omega)).trans ((mv_cell hL.out.mv (p := ad.add k) (by rw [block_of_add]; exact Nat.lt_of_lt_of_le hadb HB.out) (by rw [block_of_add]; exact fun e => by have := e.1; omega)).symm.trans hcl)))
      have HL3 := Lib.hid hL3
      have dN : w3.cell? ⟨fN, N, none⟩ = some (.int .u64 (s.now N)) := (hL3.pN.cell N).trans (words_get _ _ _ (by omega))
      have fN0 := hL3.pN.frozen N
      have hN0 : (0 : Int) ≤ (N : Int) := by omega
      have hN1 : (N : Int) < 64 := by omega
      clear hL3 hD3 hM3 cB cD hcl hL'
      go_wp2_with fail
      go_roundw
      case rel =>
        refine ⟨k + 1, s.store N ((k : Int) + 1), by go_num, by omega, Lib.hid ?_, Lib.hid (hF.out.store _ _), Lib.hid hlast.out, Lib.hid hway.out⟩
        have h1 := HL3.out.setN N (.int .u64 ((k : Int) + 1))
        rw [words_set] at h1
        exact h1
      case measure => simp [intOf]; omega
    · have cA : wr.cell? ⟨fA, 0, none⟩ = some (.int .i64 (at_ : Int)) := (hL.out.pA.cell 0).trans rfl
      go_wp2_with fail
      all_goals (
        refine (flushA wr (Iv B M) G 64 s k at_ hL.out.dev hF.out (by omega) hat).mono ?_
        rintro e w1 ⟨rfl, hD1, hM1⟩
        rw [hpq.out] at hD1
        have hL1 := Lib.hid (hL.out.to hD1 hM1)
        have hF1 := Lib.hid (hF.out.flush p)
        have hway1 : Hid (∀ j, (s.flush p).way j = if p ≤ j ∧ j < p + 8 then some (s.now j) else none) := Lib.hid (fun j => by
          show (if p ≤ j ∧ j < p + 8 then some (s.now j) else s.way j) = _
          rw [hway.out])
        have hlast1 : Hid (∀ j, (s.flush p).last j = 0) := Lib.hid hlast.out
        have cA1 : w1.cell? ⟨fA, 0, none⟩ = some (.int .i64 (at_ : Int)) := (hL1.out.pA.cell 0).trans rfl
        have hkk : k + 1 ≤ 41 := by omega
        obtain ⟨nw, hnw⟩ : ∃ nw, nw = s.now := ⟨_, rfl⟩
        have hnow1 : Hid ((s.flush p).now = nw) := Lib.hid hnw.symm
        rw [← hnw] at hway1 hL1
        generalize s.flush p = s1 at hL1 hF1 hway1 hlast1 hnow1
        generalize k + 1 = k1 at hF1 hkk
        clear hnw hD1 hM1 hL hF hlast hway cA cB cD hlt
        go_wp2_with fail
        go_loopw [8] (fun i wr => ∃ k : Nat, i = .int .i64 k ∧ p ≤ k ∧ k ≤ p + 8 ∧ Hid (Ln w0 B M G fB fD fN fA fS fH fO #[.slice a1 len1 cap1] #[.pointer (some ⟨G.d, 0, none⟩)] (words .u64 64 nw) #[.int .i64 (at_ : Int)] (words .u64 64 (fun j => if p ≤ j ∧ j < k then nw j else 0)) #[.slice a2 len2 cap2] #[.bool true] wr s1))
          (fun i _ => p + 8 - (intOf i).toNat)
        case atStart => exact ⟨p, rfl, by omega, by omega, Lib.hid (by
          rw [words_congr (g := fun _ => 0) (fun i _ => if_neg (by omega))]
          exact hL1.out)⟩
        case round =>
          obtain ⟨k, rfl, hk1, hk2, hL⟩ := hrel
          have cA2 : wr.cell? ⟨fA, 0, none⟩ = some (.int .i64 (at_ : Int)) := (hL.out.pA.cell 0).trans rfl
          by_cases hlt : k < p + 8
          · have cN := (hL.out.pN.cell k).trans (words_get _ _ _ (show k < 64 by omega))
            have cS := (hL.out.pS.cell k).trans (words_get _ _ _ (show k < 64 by omega))
            have fS0 := hL.out.pS.frozen k
            have hk0 : (0 : Int) ≤ (k : Int) := by omega
            have hk64 : (k : Int) < 64 := by omega
            have Hnk : Hid (∀ f, upd f k (nw k) = upd f k (nw k)) := Lib.hid (fun _ => rfl)
            obtain ⟨vk, hvk⟩ : ∃ vk, vk = nw k := ⟨_, rfl⟩
            rw [← hvk] at cN
            have Hvk := Lib.hid hvk
            clear hvk Hnk
            go_wp2_with fail
            go_roundw
            case rel =>
              refine ⟨k + 1, by go_num, by omega, by omega, Lib.hid ?_⟩
              have h1 := hL.out.setS k (.int .u64 vk)
              have e0 : words .u64 64 (upd (fun j => if p ≤ j ∧ j < k then nw j else 0) k (nw k)) = words .u64 64 (fun j => if p ≤ j ∧ j < k + 1 then nw j else 0) := words_congr (fun i _ => by
                unfold upd
                by_cases e : i = k
                · subst e
                  rw [if_pos rfl, if_pos (by omega)]
                · rw [if_neg e]
                  show (if p ≤ i ∧ i < k then nw i else 0) = _
                  by_cases e2 : p ≤ i ∧ i < k
                  · rw [if_pos e2, if_pos (by omega)]
                  · rw [if_neg e2, if_neg (by omega)])
              rw [words_set, Hvk.out, e0] at h1
              rw [Hvk.out]
              exact h1
            case measure => simp [intOf]; omega
          · go_wp2_with fail
            have hkp : k = p + 8 := by omega
            obtain ⟨sent, hsent⟩ : ∃ sent : Nat → Int, sent = fun j => if p ≤ j ∧ j < k then nw j else 0 := ⟨_, rfl⟩
            have hL2 := hL
            rw [← hsent] at hL2
            have hway2 : Hid (∀ j, (s1.way j).getD 0 = sent j) := Lib.hid (fun j => by
              rw [hway1.out, hsent, hkp]
              show Option.getD (if p ≤ j ∧ j < p + 8 then some (nw j) else none) 0 = if p ≤ j ∧ j < p + 8 then nw j else 0
              by_cases e : p ≤ j ∧ j < p + 8
              · rw [if_pos e, if_pos e]; rfl
              · rw [if_neg e, if_neg e]; rfl)
            rw [← hnow1.out] at hL2
            clear hsent hway1 hL hnow1 hL1 hlt hkp hk1 hk2
            go_loopw [9] (fun i wr => ∃ (k : Nat) (s : DS), i = .int .i64 k ∧ k ≤ 40 ∧ Hid (Ln w0 B M G fB fD fN fA fS fH fO #[.slice a1 len1 cap1] #[.pointer (some ⟨G.d, 0, none⟩)] (words .u64 64 s.now) #[.int .i64 (at_ : Int)] (words .u64 64 sent) #[.slice a2 len2 cap2] #[.bool true] wr s) ∧ Hid (Free s (k1 + k)) ∧ Hid (∀ j, s.last j = 0) ∧ Hid (∀ j, (s.way j).getD 0 = sent j))
              (fun i _ => 40 - (intOf i).toNat)
            case atStart => exact ⟨0, s1, rfl, by omega, hL2, Lib.hid hF1.out, hlast1, hway2⟩
            case round =>
              obtain ⟨k, s, rfl, hk, hL, hF, hlast, hway⟩ := hrel
              have cH : wr.cell? ⟨fH, 0, none⟩ = some (.slice a2 len2 cap2) := (hL.out.pH.cell 0).trans rfl
              have cD : wr.cell? ⟨fD, 0, none⟩ = some (.pointer (some ⟨G.d, 0, none⟩)) := (hL.out.pD.cell 0).trans rfl
              by_cases hlt : k < len2 ∧ k < 40
              · obtain ⟨hlt, h40⟩ := hlt
                obtain ⟨ad, z, rfl, hadb, -, -, hcl⟩ := int_at (hL.out.rd R2.out HB.out) hlt
                obtain ⟨N, hN, hm⟩ := mask z 63 (by decide)
                have hm' : bits .and .i64 z 63 = (N : Int) := hm
                have hw0 : IntKind.i64.wrap (100 + (k : Int)) = 100 + (k : Int) := IntWalk.i64_in _ (by omega)
                have hw1 : IntKind.u64.wrap (100 + (k : Int)) = 100 + (k : Int) := IntWalk.u64_in _ (by omega)
                have hL' := Lib.hid (hL.out.keep ((Mv.refl (fun _ => False) wr).drew))
                clear hm
                go_wp2_with fail
                go_region_held3 (fun w' => w'.cell? ⟨fD, 0, none⟩ = some (.pointer (some ⟨G.d, 0, none⟩)) ∧ w'.cell? ⟨fH, 0, none⟩ = some (.slice (some ad) len2 cap2) ∧ w'.cell? (ad.add k) = some (.int .i64 z)) (first | assumption | exact ⟨by assumption, by assumption, by assumption⟩ | (simp [*]; done)) (first
                  | (go_simp; go_at_call 12; refine (storeA wr.drew (Iv B M) G 64 s (k1 + k) N (100 + (k : Int)) hL'.out.dev hF.out (by omega) (by omega)).mono ?_; rintro e w3 ⟨rfl, hD3, hM3⟩; have hL3 := hL'.out.to hD3 hM3; have dD : w3.cell? ⟨fD, 0, none⟩ = some (.pointer (some ⟨G.d, 0, none⟩)) := (hL3.pD.cell 0).trans rfl; have dH : w3.cell? ⟨fH, 0, none⟩ = some (.slice (some ad) len2 cap2) := (hL3.pH.cell 0).trans rfl; have dcl : w3.cell? (ad.add k) = some (.int .i64 z) := (mv_cell (hL'.out.mv.trans' (S := Iv B M) hM3 (fun b _ e => hL'.out.dev.own_in b e)) (p := ad.add k) (by rw [block_of_add]; exact Nat.lt_of_lt_of_le hadb HB.out) (by rw [block_of_add]; exact fun e => by have := e.1; omega)).trans ((mv_cell hL.out.mv (p := ad.add k) (by rw [block_of_add]; exact Nat.lt_of_lt_of_le hadb HB.out) (by rw [block_of_add]; exact fun e => by have := e.1; omega)).symm.trans hcl)))
                have HL3 := Lib.hid hL3
                have dN : w3.cell? ⟨fN, N, none⟩ = some (.int .u64 (s.now N)) := (hL3.pN.cell N).trans (words_get _ _ _ (by omega))
                have fN0 := hL3.pN.frozen N
                have hN0 : (0 : Int) ≤ (N : Int) := by omega
                have hN1 : (N : Int) < 64 := by omega
                clear hL3 hD3 hM3 cH cD hcl hL'
                go_wp2_with fail
                go_roundw
                case rel =>
                  refine ⟨k + 1, s.store N (100 + (k : Int)), by go_num, by omega, Lib.hid ?_, Lib.hid (hF.out.store _ _), Lib.hid hlast.out, Lib.hid hway.out⟩
                  have h1 := HL3.out.setN N (.int .u64 (100 + (k : Int)))
                  rw [words_set] at h1
                  exact h1
                case measure => simp [intOf]; omega
              · go_wp2_with fail
                all_goals (
                  refine (fenceA wr (Iv B M) G 64 s (k1 + k) hL.out.dev hF.out (by omega)).mono ?_
                  rintro e w2 ⟨rfl, hD2, hM2⟩
                  have hL3 := Lib.hid (hL.out.to hD2 hM2)
                  have hF3 := Lib.hid hF.out.fence
                  have hlast3 : Hid (∀ j, s.fence.last j = sent j) := Lib.hid (fun j => by
                    show (s.way j).getD (s.last j) = _
                    rw [hlast.out, hway.out])
                  have hnow3 : Hid (s.now = s.fence.now) := Lib.hid rfl
                  rw [hnow3.out] at hL3
                  generalize s.fence = s5 at hL3 hF3 hlast3
                  generalize k1 + k + 1 = k5 at hF3
                  clear hnow3 hD2 hM2 hL hF hlast hway cH cD hlt
                  go_wp2_with fail
                  go_loopw [10] (fun i wr => ∃ k : Nat, i = .int .i64 k ∧ k ≤ 64 ∧ Hid (Ln w0 B M G fB fD fN fA fS fH fO #[.slice a1 len1 cap1] #[.pointer (some ⟨G.d, 0, none⟩)] (words .u64 64 s5.now) #[.int .i64 (at_ : Int)] (words .u64 64 sent) #[.slice a2 len2 cap2] #[.bool true] wr s5))
                    (fun i _ => 64 - (intOf i).toNat)
                  case atStart => exact ⟨0, rfl, by omega, hL3⟩
                  case round =>
                    obtain ⟨k, rfl, hk, hL⟩ := hrel
                    have cD : wr.cell? ⟨fD, 0, none⟩ = some (.pointer (some ⟨G.d, 0, none⟩)) := (hL.out.pD.cell 0).trans rfl
                    have cO : wr.cell? ⟨fO, 0, none⟩ = some (.bool true) := (hL.out.pO.cell 0).trans rfl
                    have fO0 := hL.out.pO.frozen 0
                    by_cases hlt : k < 64
                    · have cX : wr.cell? ⟨fN, k, none⟩ = some (.int .u64 (s5.now k)) := (hL.out.pN.cell k).trans (words_get _ _ _ hlt)
                      have hk0 : (0 : Int) ≤ (k : Int) := by omega
                      have hk64 : (k : Int) < 64 := by omega
                      have hL' := Lib.hid (hL.out.keep ((Mv.refl (fun _ => False) wr).drew))
                      have hld := Lib.hid (loadA wr.drew (Iv B M) G 64 s5 _ k (s5.now k) hL'.out.dev hF3.out hlt rfl)
                      have hLs := Lib.hid (hL.out.setO 0 (.bool true))
                      have HS4 : Hid ((wr.setCell ⟨fO, 0, none⟩ (.bool true)).drew.cell? ⟨fD, 0, none⟩ = some (.pointer (some ⟨G.d, 0, none⟩)) ∧ (wr.setCell ⟨fO, 0, none⟩ (.bool true)).drew.cell? ⟨fO, 0, none⟩ = some (.bool true) ∧ (wr.setCell ⟨fO, 0, none⟩ (.bool true)).drew.frozen? ⟨fO, 0, none⟩ = false ∧ (wr.setCell ⟨fO, 0, none⟩ (.bool true)).drew.cell? ⟨fN, k, none⟩ = some (.int .u64 (s5.now k))) :=
                        Lib.hid ⟨(hLs.out.pD.cell 0).trans rfl, (hLs.out.pO.cell 0).trans rfl, hLs.out.pO.frozen 0, (hLs.out.pN.cell k).trans (words_get _ _ _ hlt)⟩
                      have hLs' := Lib.hid (hLs.out.keep ((Mv.refl (fun _ => False) _).drew))
                      generalize s5.now k = v at cX hld HS4
                      go_wp2_with fail
                      go_region_held3 (fun w' => w'.cell? ⟨fD, 0, none⟩ = some (.pointer (some ⟨G.d, 0, none⟩)) ∧ w'.cell? ⟨fO, 0, none⟩ = some (.bool true) ∧ w'.frozen? ⟨fO, 0, none⟩ = false ∧ w'.cell? ⟨fN, k, none⟩ = some (.int .u64 v)) (first | assumption | exact ⟨by assumption, by assumption, by assumption, by assumption⟩ | exact HS4.out | (simp [*]; done)) (first
                        | (go_simp; go_at_call 15; refine hld.out.mono ?_; rintro e w3 ⟨rfl, rfl⟩))
                      go_wp2_with fail
                      go_roundw
                      case rel => exact ⟨k + 1, by go_num, by omega, hLs'⟩
                      case measure => simp [intOf]; omega
                    · go_wp2_with fail
                      refine (powerN wr (Iv B M) G 64 s5 hL.out.dev).mono ?_
                      rintro e w4 ⟨rfl, hD4, hM4⟩
                      have hL6 := Lib.hid (hL.out.to hD4 hM4)
                      have hF6 := Lib.hid (hF3.out.power fun _ => false)
                      have hnow6 : Hid (∀ j, (s5.power fun _ => false).now j = sent j) := Lib.hid (fun j => hlast3.out j)
                      obtain ⟨nw5, hnw5⟩ : ∃ nw5, nw5 = s5.now := ⟨_, rfl⟩
                      rw [← hnw5] at hL6
                      generalize (s5.power fun _ => false) = s6 at hL6 hF6 hnow6
                      clear hD4 hM4 hL cO fO0 cD hlast3 hF3 hnw5
                      go_wp2_with fail
                      go_loopw [11] (fun i wr => ∃ k : Nat, i = .int .i64 k ∧ k ≤ 64 ∧ Hid (Ln w0 B M G fB fD fN fA fS fH fO #[.slice a1 len1 cap1] #[.pointer (some ⟨G.d, 0, none⟩)] (words .u64 64 nw5) #[.int .i64 (at_ : Int)] (words .u64 64 sent) #[.slice a2 len2 cap2] #[.bool true] wr s6))
                        (fun i _ => 64 - (intOf i).toNat)
                      case atStart => exact ⟨0, rfl, by omega, hL6⟩
                      case round =>
                        obtain ⟨k, rfl, hk, hL⟩ := hrel
                        have cD : wr.cell? ⟨fD, 0, none⟩ = some (.pointer (some ⟨G.d, 0, none⟩)) := (hL.out.pD.cell 0).trans rfl
                        have cO : wr.cell? ⟨fO, 0, none⟩ = some (.bool true) := (hL.out.pO.cell 0).trans rfl
                        have fO0 := hL.out.pO.frozen 0
                        by_cases hlt : k < 64
                        · have cX : wr.cell? ⟨fS, k, none⟩ = some (.int .u64 (sent k)) := (hL.out.pS.cell k).trans (words_get _ _ _ hlt)
                          have hk0 : (0 : Int) ≤ (k : Int) := by omega
                          have hk64 : (k : Int) < 64 := by omega
                          have hL' := Lib.hid (hL.out.keep ((Mv.refl (fun _ => False) wr).drew))
                          have hld := Lib.hid (loadA wr.drew (Iv B M) G 64 s6 _ k (sent k) hL'.out.dev hF6.out hlt (hnow6.out k))
                          have hLs := Lib.hid (hL.out.setO 0 (.bool true))
                          have HS4 : Hid ((wr.setCell ⟨fO, 0, none⟩ (.bool true)).drew.cell? ⟨fD, 0, none⟩ = some (.pointer (some ⟨G.d, 0, none⟩)) ∧ (wr.setCell ⟨fO, 0, none⟩ (.bool true)).drew.cell? ⟨fO, 0, none⟩ = some (.bool true) ∧ (wr.setCell ⟨fO, 0, none⟩ (.bool true)).drew.frozen? ⟨fO, 0, none⟩ = false ∧ (wr.setCell ⟨fO, 0, none⟩ (.bool true)).drew.cell? ⟨fS, k, none⟩ = some (.int .u64 (sent k))) :=
                            Lib.hid ⟨(hLs.out.pD.cell 0).trans rfl, (hLs.out.pO.cell 0).trans rfl, hLs.out.pO.frozen 0, (hLs.out.pS.cell k).trans (words_get _ _ _ hlt)⟩
                          have hLs' := Lib.hid (hLs.out.keep ((Mv.refl (fun _ => False) _).drew))
                          generalize sent k = v at cX hld HS4
                          go_wp2_with fail
                          go_region_held3 (fun w' => w'.cell? ⟨fD, 0, none⟩ = some (.pointer (some ⟨G.d, 0, none⟩)) ∧ w'.cell? ⟨fO, 0, none⟩ = some (.bool true) ∧ w'.frozen? ⟨fO, 0, none⟩ = false ∧ w'.cell? ⟨fS, k, none⟩ = some (.int .u64 v)) (first | assumption | exact ⟨by assumption, by assumption, by assumption, by assumption⟩ | exact HS4.out | (simp [*]; done)) (first
                            | (go_simp; go_at_call 15; refine hld.out.mono ?_; rintro e w3 ⟨rfl, rfl⟩))
                          go_wp2_with fail
                          go_roundw
                          case rel => exact ⟨k + 1, by go_num, by omega, hLs'⟩
                          case measure => simp [intOf]; omega
                        · go_wp2_with fail
                          go_end0
                          exact ⟨rfl, hL.out.pO, hL.out.mv⟩))
end Go.Proofs.Ytfiajonbekfcfaa
