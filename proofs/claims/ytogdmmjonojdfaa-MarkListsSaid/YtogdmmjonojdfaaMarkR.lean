/- mark: MarkCloses' walk. -/
import Derived.Test.YtogdmmjonojdfaaMarkQ
namespace Go.Proofs.Ytogdmmjonojdfaa
open Go.RowKit
set_option linter.unusedVariables false
theorem ofInt_i64 (n : Nat) (hn : n < 9223372036854775808) : (BitVec.ofInt 64 (n : Int)).toNat = n := by
  rw [BitVec.toNat_ofInt]
  have h2 : (2 ^ 64 : Nat) = 18446744073709551616 := by decide
  rw [h2]
  omega
theorem mask (n : Int) (m : Nat) (hm : m < 9223372036854775808) : ∃ N : Nat, N ≤ m ∧ bits .and .i64 n (m : Int) = (N : Int) := by
  refine ⟨(BitVec.ofInt 64 n).toNat &&& m, Nat.and_le_right, ?_⟩
  have hx : (BitVec.ofInt 64 n).toNat &&& m ≤ m := Nat.and_le_right
  show IntKind.i64.wrap ((BitVec.ofInt 64 n &&& BitVec.ofInt 64 (m : Int)).toNat : Int) = _
  rw [BitVec.toNat_and, ofInt_i64 m hm, IntWalk.i64_in _ (by omega)]
theorem Zs_map_get {l : List Nat} {i x : Nat} {u : Value} (hx : l[i]? = some x) (hu : (Zs (l.map Int.ofNat))[i]? = some u) : u = .int .i64 (x : Int) := by
  simp [Zs, hx] at hu
  exact hu.symm
theorem rise_at {l : List Nat} {i k x z : Nat} (h : l.Pairwise (· < ·)) (hk : k < i) (hz : l[k]? = some z) (hx : l[i]? = some x) : z < x := by
  obtain ⟨h1, rfl⟩ := List.getElem?_eq_some_iff.1 hz
  obtain ⟨h2, rfl⟩ := List.getElem?_eq_some_iff.1 hx
  exact List.pairwise_iff_getElem.1 h k i h1 h2 hk
theorem LC.len {R M : Nat} {l : List Nat} (h : LC R M l) : l.length ≤ 300 :=
  pigeon 300 l (h.up.imp (fun h => by omega)) h.lt
theorem fromC {R M b : Nat} {e : Ending} {w w' : World} (hM : M ≤ 256) (hR : R ≤ 127) (h : FromPost [R] (ansC M) 300 (IC M b) (fun x => x = b) w e w') :
    ∃ (A : Option Addr) (l : List Nat), e = .returned (.tuple #[.slice A l.length l.length, .int .i64 0]) ∧ Reads w' w'.heap.size 1 A l.length (Zs (l.map Int.ofNat)) ∧ Mv (fun x => x = b) w w' ∧ Blk w' b 3 #[.int .i64 (M : Int)] ∧ (R = 0 → l = []) ∧ (R ≠ 0 → LC R M l) := by
  obtain ⟨out, asked, P', hI, hm, _, h⟩ := h
  rcases h with ⟨hf, hall, A, l, hp, hs, rfl, hr, _⟩ | ⟨hf, _, hbig, _⟩ | ⟨a0, x, _, hf, _, _, _, _, hne, _⟩
  · refine ⟨A, l, rfl, by rw [← ints_zs]; exact hr, hm, hI.2, fun h0 => ?_, fun h0 => lc_of hM hR h0 hf hall hp hs⟩
    subst h0
    rw [fr_zero hf] at hp
    exact hp.eq_nil
  · have := fr_len hM hR hf
    omega
  · exact absurd rfl hne
set_option maxRecDepth 100000 in
set_option maxHeartbeats 8000000 in
theorem closes_any (w : World) (r0 m0 : Int) : Calls Try.prog 3 #[.int .i64 r0, .int .i64 m0] w (fun e w' => e = .returned (.bool true) ∧ Below w.heap.size w w') := by
  obtain ⟨R, hR, hr⟩ := mask r0 127 (by omega)
  obtain ⟨m1, hm1, hm⟩ := mask m0 255 (by omega)
  obtain ⟨M, hM⟩ : ∃ M, M = m1 + 1 := ⟨_, rfl⟩
  have hMl : M ≤ 256 := by omega
  have hw : IntKind.i64.wrap ((m1 : Int) + 1) = (M : Int) := by rw [wrap_small (by omega) (by omega)]; omega
  have HM := Lib.hid hM
  clear hM
  go_enter Try.func3, Try.ntmps3
  go_upto_region 1 with fail
  have hcl : (w.alloc (.cells #[.int .i64 m0] 3)).cell? ⟨w.heap.size, 0, none⟩ = some (.int .i64 m0) := ((Blk.new w 3 #[.int .i64 m0]).cell 0).trans rfl
  have hfz : (w.alloc (.cells #[.int .i64 m0] 3)).frozen? ⟨w.heap.size, 0, none⟩ = false := (Blk.new w 3 #[.int .i64 m0]).frozen 0
  go_region
  rw [show bits .and .i64 r0 127 = (R : Int) from hr, show bits .and .i64 m0 255 = (m1 : Int) from hm, show wrap64 ((m1 : Int) + 1) = (M : Int) from (IntWalk.i64_left _).symm.trans hw]
  have hb1 : Blk ((w.alloc (.cells #[.int .i64 (M : Int)] 3)).drew) w.heap.size 3 #[.int .i64 (M : Int)] := Blk.new w 3 #[.int .i64 (M : Int)]
  have hbel := ((Below.refl w.heap.size w).alloc (Nat.le_refl _) (.cells #[.int .i64 (M : Int)] 3))
  have hbel1 := Lib.hid (below_drewN hbel 1)
  have hb1' := Lib.hid hb1
  clear hcl hfz hr hm hw hbel hb1
  change Exit.then _ _ _ _ ((w.alloc (.cells #[.int .i64 (M : Int)] 3)).drew)
  generalize hw1 : (w.alloc (.cells #[.int .i64 (M : Int)] 3)).drew = w1 at hb1' ⊢
  have hbel2 : Hid (Below w.heap.size w w1) := by rw [← hw1]; exact hbel1
  clear hbel1 hw1
  generalize hb : w.heap.size = b at hb1' ⊢
  have Hb := Lib.hid hb
  clear hb
  have hrr : Reads (w1.alloc (.cells #[.int .i64 (R : Int)] 3)) (w1.alloc (.cells #[.int .i64 (R : Int)] 3)).heap.size 1 (some ⟨w1.heap.size, 0, none⟩) 1 (Ints .i64 [R]) := (one_reads w1 (R : Int) 3 rfl).more (by simp)
  have hfrom := Lib.hid (from_any _ #[.pointer (some ⟨b, 0, none⟩)] 300 (IC M b) (ansC M) (ofC M b hMl) (by omega) _ (fun x => x = b) ⟨rfl, hb1'.out.mv ((Mv.refl (fun _ => False) w1).alloc _) (fun e => e)⟩ [R] (some ⟨w1.heap.size, 0, none⟩) 1 1 rfl (by omega) hrr (fun ad e => by cases e; simp) (by simp; omega) 300)
  clear hrr
  rcases Nat.eq_zero_or_pos R with h0 | h0
  · have hz : ((R : Int) == 0) = true := by simp [h0]
    have H00 := Lib.hid h0
    clear h0
    go_upto_region 3 with fail
    go_wp2_with (first
      | (go_at_call 8; refine hfrom.out.mono ?_; rintro e w2 h2; obtain ⟨A, l, rfl, hr2, hm2, hb2, hl0, hl1⟩ := fromC hMl hR h2; obtain rfl := hl0 H00.out; clear hl0 hl1; have Hb2 := Lib.hid hb2; have hbw := Lib.hid ((hbel2.out.alloc hbel2.out.size _).trans (hm2.below (B := w.heap.size) (by have := hbel2.out.size; simp; omega) (fun x hx => by subst hx; rw [Hb.out]; exact Nat.le_refl _))); clear hr2 hm2 hb2 h2)
      | (go_at_call 9; refine (awake_any _).mono ?_; rintro e w8 ⟨rfl, hb8⟩; have Hb8 := Lib.hid (hbw.out.trans (hb8.mono hbw.out.size)); clear hb8)
      | fail)
    go_ret
    exact ⟨by simp, Hb8.out⟩
  · have hz : ((R : Int) == 0) = false := by simp; omega
    have Hh0 := Lib.hid h0
    go_upto_region 3 with fail
    go_wp2_with (first
      | (go_at_call 8; refine hfrom.out.mono ?_; rintro e w2 h2; obtain ⟨A, l, rfl, hr2, hm2, hb2, hl0, hl1⟩ := fromC hMl hR h2; have Hr2 := Lib.hid hr2; have Hlc := Lib.hid (hl1 (by omega)); clear hl0 hl1; have Hb2 := Lib.hid hb2; have hbw := Lib.hid ((hbel2.out.alloc hbel2.out.size _).trans (hm2.below (B := w.heap.size) (by have := hbel2.out.size; simp; omega) (fun x hx => by subst hx; rw [Hb.out]; exact Nat.le_refl _))); clear hr2 hm2 hb2 h2)
      | fail)
    clear hfrom hz h0
    generalize hn : l.length = n at Hr2 ⊢
    have Hn := Lib.hid hn
    have hnb := Lib.hid (show n ≤ 300 by rw [← hn]; exact Hlc.out.len)
    clear hn
    go_loopw [8] (fun v8 wr => ∃ i : Nat, v8 = .int .i64 (i : Int) ∧ i ≤ n ∧ Hid (∃ q, wr = w2.drewN q))
      (fun v8 _ => n - (intOf v8).toNat)
    case atStart => exact ⟨0, rfl, Nat.zero_le _, Lib.hid ⟨0, rfl⟩⟩
    case round =>
      obtain ⟨i, rfl, hin, hw⟩ := hrel
      obtain ⟨q, hq⟩ := hw.out
      have Hq := Lib.hid hq
      clear hq hw
      rcases Nat.lt_or_ge i n with hlt | hge
      · obtain ⟨x, hx⟩ : ∃ x, l[i]? = some x := ⟨l[i]'(by rw [Hn.out]; exact hlt), by simp⟩
        obtain ⟨ad, u, hA1, hadb, hu, hcl⟩ := Hr2.out.at_ hlt
        subst hA1
        have hu' := Zs_map_get hx hu
        subst hu'
        have hmem := List.mem_of_getElem? hx
        have hxb := Hlc.out.lt x hmem
        have Hx := Lib.hid hx
        have Hmem := Lib.hid hmem
        have hd1 : ∀ p, (wr.drewN p).cell? (ad.add i) = some (.int .i64 (x : Int)) := fun p => by rw [Hq.out]; exact hcl
        have hc1 : wr.cell? (ad.add i) = some (.int .i64 (x : Int)) := by rw [Hq.out]; exact hcl
        clear hx hu hcl hmem
        have hwi := wrap_small (z := (i : Int) + 1) (by omega) (by have := hnb.out; omega)
        go_wp2_with fail
        go_loopw [9] (fun v9 wy => ∃ y : Nat, v9 = .int .i64 (y : Int) ∧ R ≤ y ∧ y < 300 ∧ Hid (Rch R y) ∧ Hid (wy = wr))
          (fun v9 _ => (intOf v9).toNat)
        case atStart => exact ⟨x, rfl, (Hlc.out.rch x Hmem.out).ge Hh0.out, hxb, Lib.hid (Hlc.out.rch x Hmem.out), Lib.hid rfl⟩
        case round =>
          obtain ⟨y, rfl, hRy, hy3, hry, hw⟩ := hrel
          have hq := hw.out
          subst hq
          clear hw
          rcases Nat.lt_or_ge R y with hlt2 | hge2
          · go_wp2_with fail
            refine ⟨⟨y / 2, by go_num, (hry.out.half Hh0.out hlt2).ge Hh0.out, by omega, Lib.hid (hry.out.half Hh0.out hlt2), Lib.hid trivial⟩, ?_⟩
            show ((y : Int) / 2).toNat < ((y : Int)).toNat
            have := Hh0.out
            omega
          · have hyR : y = R := by omega
            subst hyR
            have hdM : ∀ p, (wr.drewN p).cell? ⟨b, 0, none⟩ = some (.int .i64 (M : Int)) := fun p => by rw [Hq.out]; exact (Hb2.out.cell 0).trans rfl
            go_upto_region 14 with fail
            go_cut [83] from 49 to 83 (fun s83 wx => s83 = .bool false ∧ ∃ q2, wx = wr.drewN q2)
            case first =>
              have hne : ((y : Int) != (y : Int)) = false := by simp
              rcases Nat.eq_zero_or_pos i with hi0 | hi0
              · have hg0 : decide ((i : Int) > 0) = false := by simp; omega
                have hg1 : decide (0 < i) = false := by simp; omega
                have Hi0 := Lib.hid hi0
                clear hi0
                by_cases hxM : M < x
                · have hxy := (Hlc.out.le x Hmem.out).resolve_left (by omega)
                  have hm5 : decide ((x : Int) > (M : Int)) = true := by simp; omega
                  have hm6 : decide (M < x) = true := by simp; omega
                  have hm7 : ((x : Int) != (y : Int)) = false := by simp [hxy]
                  have HxM := Lib.hid hxM
                  clear hxy hxM
                  go_quiet (fail)
                  go_wp2_with fail
                  go_meet
                  case rel => exact ⟨rfl, nq, rfl⟩
                · have hm5 : decide ((x : Int) > (M : Int)) = false := by simp; omega
                  have hm6 : decide (M < x) = false := by simp; omega
                  have HxM := Lib.hid hxM
                  clear hxM
                  go_quiet (fail)
                  go_wp2_with fail
                  go_meet
                  case rel => exact ⟨rfl, nq, rfl⟩
              · have hg0 : decide ((i : Int) > 0) = true := by simp; omega
                have hg1 : decide (0 < i) = true := by simp; omega
                obtain ⟨k, hk⟩ : ∃ k, i = k + 1 := ⟨i - 1, by omega⟩
                have hwk : IntKind.i64.wrap ((i : Int) - 1) = (k : Int) := by rw [wrap_small (by omega) (by have := hnb.out; omega)]; omega
                have hkn : k < n := by omega
                obtain ⟨z, hz⟩ : ∃ z, l[k]? = some z := ⟨l[k]'(by rw [Hn.out]; exact hkn), by simp⟩
                obtain ⟨ad2, u, hA2, -, hu, hcl⟩ := Hr2.out.at_ hkn
                cases hA2
                have hu' := Zs_map_get hz hu
                subst hu'
                have hzx := Lib.hid (rise_at Hlc.out.up (show k < i by omega) hz Hx.out)
                have hd2 : ∀ p, (wr.drewN p).cell? (ad.add k) = some (.int .i64 (z : Int)) := fun p => by rw [Hq.out]; exact hcl
                have hm1 : decide ((x : Int) ≤ (z : Int)) = false := by have := hzx.out; simp; omega
                have hm2 : decide (x ≤ z) = false := by have := hzx.out; simp; omega
                have Hk := Lib.hid hk
                clear hi0 hk hz hu hcl
                by_cases hxM : M < x
                · have hxy := (Hlc.out.le x Hmem.out).resolve_left (by omega)
                  have hm5 : decide ((x : Int) > (M : Int)) = true := by simp; omega
                  have hm6 : decide (M < x) = true := by simp; omega
                  have hm7 : ((x : Int) != (y : Int)) = false := by simp [hxy]
                  have HxM := Lib.hid hxM
                  clear hxy hxM
                  go_quiet (fail)
                  go_wp2_with fail
                  go_meet
                  case rel => exact ⟨rfl, nq, rfl⟩
                · have hm5 : decide ((x : Int) > (M : Int)) = false := by simp; omega
                  have hm6 : decide (M < x) = false := by simp; omega
                  have HxM := Lib.hid hxM
                  clear hxM
                  go_quiet (fail)
                  go_wp2_with fail
                  go_meet
                  case rel => exact ⟨rfl, nq, rfl⟩
            case rest =>
              obtain ⟨rfl, q2, rfl⟩ := hcut
              have hc2 := hd1 q2
              have hM2 := hdM q2
              have Hq5 := Lib.hid (show wr.drewN q2 = w2.drewN (q + q2) by rw [Hq.out]; simp)
              obtain ⟨a, ha⟩ : ∃ a, a = 2 * x := ⟨_, rfl⟩
              have hwa : IntKind.i64.wrap (2 * (x : Int)) = (a : Int) := by rw [wrap_small (by omega) (by omega)]; omega
              obtain ⟨a1, ha1⟩ : ∃ a1, a1 = a + 1 := ⟨_, rfl⟩
              have hwa1 : IntKind.i64.wrap ((a : Int) + 1) = (a1 : Int) := by rw [wrap_small (by omega) (by omega)]; omega
              have ha1b : a1 ≤ 1000 := by omega
              have Ha := Lib.hid ha
              have Ha1 := Lib.hid ha1
              clear ha ha1 hd1 hc1 hdM hxb hry hRy hge2
              generalize wr.drewN q2 = w5 at hc2 hM2 Hq5 ⊢
              go_wp2_with fail
              go_loopw [10] (fun v10 wz => ∃ k : Nat, v10 = .int .i64 (k : Int) ∧ k ≤ a1 + 1 ∧ Hid (a ≤ k) ∧ Hid (wz = w5))
                (fun v10 _ => a1 + 1 - (intOf v10).toNat)
              case atStart => exact ⟨a, rfl, by have := Ha1.out; omega, Lib.hid (Nat.le_refl _), Lib.hid rfl⟩
              case round =>
                obtain ⟨k, rfl, hk, hak, hw⟩ := hrel
                have hq := hw.out
                subst hq
                clear hw
                rcases Nat.lt_or_ge a1 k with hgt | hle
                · go_wp2_with fail
                  refine ⟨⟨i + 1, by go_num, by omega, Lib.hid ⟨q + q2, Hq5.out⟩⟩, ?_⟩
                  show n - ((i : Int) + 1).toNat < n - ((i : Int)).toNat
                  omega
                · have hwk := wrap_small (z := (k : Int) + 1) (by omega) (by omega)
                  rcases Nat.lt_or_ge M k with hMk | hMk
                  · go_wp2_with fail
                    refine ⟨⟨k + 1, by go_num, by omega, Lib.hid (by have := hak.out; omega), Lib.hid trivial⟩, ?_⟩
                    show a1 + 1 - ((k : Int) + 1).toNat < a1 + 1 - ((k : Int)).toNat
                    omega
                  · have hkl : k ∈ l := Hlc.out.closed x Hmem.out k (by have := hak.out; have := Ha.out; omega) (by have := Ha1.out; have := Ha.out; omega) hMk
                    have chas := has_any wr (some ad) n n (l.map Int.ofNat) (k : Int) (by simp; exact Hn.out) (by rw [Hq5.out]; exact Hr2.out.drewN _) (by have := hnb.out; omega)
                    rw [show decide ((k : Int) ∈ l.map Int.ofNat) = true from decide_eq_true (List.mem_map.2 ⟨k, hkl, rfl⟩)] at chas
                    have Chas := Lib.hid chas
                    clear chas hkl
                    go_wp2_with (first
                      | (go_at_call 10; refine Chas.out.mono ?_; rintro e w6 ⟨rfl, rfl⟩)
                      | fail)
                    refine ⟨⟨k + 1, by go_num, by omega, Lib.hid (by have := hak.out; omega), Lib.hid trivial⟩, ?_⟩
                    show a1 + 1 - ((k : Int) + 1).toNat < a1 + 1 - ((k : Int)).toNat
                    omega
      · have chas := has_any wr A n n (l.map Int.ofNat) (R : Int) (by simp; exact Hn.out) (by rw [Hq.out]; exact Hr2.out.drewN _) (by have := hnb.out; omega)
        rw [show decide ((R : Int) ∈ l.map Int.ofNat) = true from decide_eq_true (List.mem_map.2 ⟨R, Hlc.out.root, rfl⟩)] at chas
        have Chas := Lib.hid chas
        have Hbr := Lib.hid (show Below w.heap.size w wr by rw [Hq.out]; exact below_drewN hbw.out q)
        clear chas
        go_wp2_with (first
          | (go_at_call 10; refine Chas.out.mono ?_; rintro e w6 ⟨rfl, rfl⟩)
          | (go_at_call 9; refine (awake_any _).mono ?_; rintro e w8 ⟨rfl, hb8⟩; have Hb8 := Lib.hid (Hbr.out.trans (hb8.mono Hbr.out.size)); clear hb8)
          | fail)
        go_ret
        exact ⟨by simp, Hb8.out⟩
end Go.Proofs.Ytogdmmjonojdfaa
