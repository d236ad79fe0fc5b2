/- The walk of WordsCut. -/
import Derived.Test.YtkkdcojgnpmpgaaWordsL
namespace Go.Proofs.Ytkkdcojgnpmpgaa
open Go.RowKit
set_option linter.unusedVariables false
def sm (L : Nat → Nat) : Nat → Nat
  | 0 => 0
  | k + 1 => sm L k + min (L k) 5000
theorem sm_le (L : Nat → Nat) (n r : Nat) (h : r < n) : min (L r) 5000 ≤ sm L n := by
  induction n with
  | zero => omega
  | succ m ih =>
    show _ ≤ sm L m + min (L m) 5000
    rcases Nat.lt_or_ge r m with h1 | h1
    · have := ih h1; omega
    · have : r = m := by omega
      subst this; omega
theorem uvl_len : ∀ (f y : Nat), (uvl f y).length ≤ f + 1
  | 0, y => by simp [uvl]
  | f + 1, y => by
    unfold uvl
    split
    · simp
    · have := uvl_len f (y / 128); simp; omega
theorem jn_bound (L : Nat → Nat) (ps : Nat → List Nat) (n : Nat) (h : ∀ r, r < n → (ps r).length = L r) (hs : sm L n ≤ 3000) : (jn ps n).length ≤ sm L n + 10 * n := by
  induction n with
  | zero => simp [jn]
  | succ m ih =>
    have h0 : sm L (m + 1) = sm L m + min (L m) 5000 := rfl
    have h1 := ih (fun r hr => h r (by omega)) (by omega)
    have h2 := h m (by omega)
    have h3 := uvl_len 9 (ps m).length
    show (jn ps m ++ (uv (ps m).length ++ ps m)).length ≤ _
    rw [List.length_append, List.length_append]
    unfold uv
    omega
theorem jn_zero (ps : Nat → List Nat) (n : Nat) (h : (jn ps n).length = 0) : n = 0 := by
  cases n with
  | zero => rfl
  | succ m =>
    have := uv_pos (ps m).length
    have e : (jn ps (m + 1)).length = (jn ps m).length + ((uv (ps m).length).length + (ps m).length) := by
      show (jn ps m ++ (uv (ps m).length ++ ps m)).length = _
      rw [List.length_append, List.length_append]
    omega
theorem app_lt {l m : List Nat} (hl : ∀ i, l.getD i 0 < 256) (hm : ∀ i, m.getD i 0 < 256) : ∀ i, (l ++ m).getD i 0 < 256 := by
  intro i
  rcases Nat.lt_or_ge i l.length with h | h
  · have := hl i
    simp only [List.getD] at *
    rw [List.getElem?_append_left h]
    exact this
  · have := hm (i - l.length)
    simp only [List.getD] at *
    rw [List.getElem?_append_right h]
    exact this
theorem uvl_lt : ∀ (f y : Nat), ∀ i, (uvl f y).getD i 0 < 256
  | 0, y => by
    intro i
    match i with
    | 0 => show y % 128 < 256; omega
    | i + 1 => simp [uvl]
  | f + 1, y => by
    intro i
    unfold uvl
    split
    · match i with
      | 0 => show y < 256; omega
      | i + 1 => simp
    · match i with
      | 0 => show y % 128 + 128 < 256; omega
      | i + 1 => exact uvl_lt f (y / 128) i
theorem jn_lt (ps : Nat → List Nat) (n : Nat) (h : ∀ r, r < n → ∀ i, (ps r).getD i 0 < 256) (hl : ∀ r, r < n → (ps r).length < 18446744073709551616) : ∀ i, (jn ps n).getD i 0 < 256 := by
  induction n with
  | zero => intro i; simp [jn]
  | succ m ih => exact app_lt (ih (fun r hr => h r (by omega)) (fun r hr => hl r (by omega))) (app_lt (uvl_lt 9 _) (h m (by omega)))
theorem place2 (n : Nat) (a : Int) (hn : 0 < n) (hm : n ≤ 1000000) : ∃ K : Nat, K < n ∧ -(n : Int) < a.tmod (n : Int) ∧ a.tmod (n : Int) < (n : Int) ∧ (a.tmod (n : Int) + (n : Int)).tmod (n : Int) = (K : Int) := by
  have h1 := Int.tmod_lt_of_pos a (show (0 : Int) < (n : Int) by omega)
  have h2 := Int.lt_tmod_of_pos a (show (0 : Int) < (n : Int) by omega)
  refine ⟨((a.tmod (n : Int) + (n : Int)) % (n : Int)).toNat, ?_, h2, h1, ?_⟩
  · have := Int.emod_lt_of_pos (a.tmod (n : Int) + (n : Int)) (show (0 : Int) < (n : Int) by omega)
    have := Int.emod_nonneg (a.tmod (n : Int) + (n : Int)) (show (n : Int) ≠ 0 by omega)
    omega
  · rw [Int.tmod_eq_emod_of_nonneg (by omega)]
    have := Int.emod_nonneg (a.tmod (n : Int) + (n : Int)) (show (n : Int) ≠ 0 by omega)
    omega
theorem cut_torn (l : List Nat) (h0 : 0 < l.length) (hn : l.length ≤ 65536) : unpErr ((packed l).take ((l.length + 7) / 8)) = 4 := by
  have hg : ((packed l).take ((l.length + 7) / 8)).getD 0 0 = l.length := by
    have hz := packed_zero l
    simp only [List.getD, List.getElem?_take] at *
    rw [if_pos (by omega)]
    exact hz
  unfold unpErr
  rw [hg, List.length_take, packed_length, if_neg (by omega), if_pos (by omega)]
theorem size26 (W : World) : (sizeOf (Try.prog.elem 23)).run Try.prog W = .ok 1 W := by
  obtain ⟨i0, hi, hz0, hz1, hz2⟩ := info_parts info26
  have e : Try.prog.elem 23 = 26 := by kernel_rfl
  have e2 : Try.prog.cellsOf 26 = 1 := by kernel_rfl
  rw [e, run_sizeOf W hi, e2]
theorem slice_h64 (A : Option Addr) (n c a : Nat) (W : World) (h1 : a ≤ c) : (Instr.slice 23 (.slice A n c) none (some (.int .i64 (a : Int))) none).run Try.prog W = .ok (.slice A a c) W := by
  have e := run_slice_h (P := Try.prog) W 23 A n c Try.underlying23 .i64 (a : Int) (by omega) (by omega)
  rw [e]
  rw [size26]
  have e2 : A.map (fun x : Addr => x.add 0) = A := by
    cases A with
    | none => rfl
    | some a => simp [Addr.add]
  simp [sliced, Result.andThen, e2]
set_option maxRecDepth 100000 in
set_option maxHeartbeats 4000000 in
theorem cut_any (A0 : Option Addr) (len cap : Nat) (at_ : Int) (A : Nat → Option Addr) (L C : Nat → Nat) (ps : Nat → List Nat) (w : World) (hlen : len ≤ 9223372036854775807)
    (hr : Reads w w.heap.size 1 A0 len ((List.range len).map fun r => Value.slice (A r) (L r) (C r)))
    (hrow : ∀ r, r < len → Reads w w.heap.size 1 (A r) (L r) (Ints .u8 (ps r)) ∧ (ps r).length = L r ∧ (∀ i, (ps r).getD i 0 < 256) ∧ L r ≤ 9223372036854775807) :
    Calls Try.prog 6 #[.slice A0 len cap, .int .i64 at_] w fun e w' => e = .returned (.bool true) ∧ Below w.heap.size w w' := by
  have Hr := Lib.hid hr
  have Hrow := Lib.hid hrow
  clear hr hrow
  go_enter Try.func6, Try.ntmps6
  go_wp2_with fail
  go_loop [5, 6] (fun sv i => ∃ k s : Nat, i = .int .i64 k ∧ sv = .int .i64 s ∧ k ≤ len ∧ k ≤ 20 ∧ s ≤ 5000 * k ∧ Hid (s = sm L k)) (fun _ i => len - (intOf i).toNat)
  case atStart => exact ⟨0, 0, rfl, rfl, by omega, by omega, by omega, Lib.hid rfl⟩
  case round =>
    obtain ⟨k, s, rfl, rfl, hk, hk20, hs5, hs⟩ := hrel
    by_cases hgo : k < len ∧ k < 20
    · obtain ⟨hk1, hk2⟩ := hgo
      obtain ⟨ad, u, hA, hadb, hu, hcell⟩ := Hr.out.at_ hk1
      rw [List.getElem?_map, List.getElem?_range hk1, Option.map_some, Option.some.injEq] at hu
      subst hu
      subst hA
      have hL63 := (Hrow.out k hk1).2.2.2
      obtain ⟨mn, hmn⟩ : ∃ mn, mn = min (L k) 5000 := ⟨_, rfl⟩
      have hmin : min ((L k : Nat) : Int) 5000 = (mn : Int) := by omega
      have hmn5 : mn ≤ 5000 := by omega
      have Hmn := Lib.hid hmn
      clear hmn
      generalize hLk : L k = Lk at *
      generalize hAk : A k = Ak at *
      generalize hCk : C k = Ck at *
      have HLk := Lib.hid hLk
      clear hLk hAk hCk
      go_wp2_with fail
      go_round
      case rel => exact ⟨k + 1, s + mn, by go_num, by go_num, by omega, by omega, by omega, Lib.hid (by show _ = sm L k + min (L k) 5000; rw [HLk.out, ← Hmn.out, hs.out])⟩
      case measure => simp [intOf]; omega
    · by_cases hbig : 3000 < s ∨ 20 < len
      · by_cases h3 : 3000 < s
        all_goals (
          by_cases hk1 : k < len
          all_goals first | (exfalso; omega; done) | (
            first | (have hk2 : ¬ k < 20 := fun h => hgo ⟨hk1, h⟩) | skip
            first | (have h20 : 20 < len := by omega) | skip
            go_wp2_with fail
            refine (awake_any _).mono ?_
            rintro e w2 ⟨rfl, hb2⟩
            have Hb2 := Lib.hid hb2
            clear hb2
            go_wp2_with fail
            go_ret
            exact ⟨rfl, Hb2.out⟩))
      · have h3 : ¬ 3000 < s := fun h => hbig (.inl h)
        have h20 : ¬ 20 < len := fun h => hbig (.inr h)
        have hkl : k = len := by
          rcases Nat.lt_or_ge k len with h | h
          · exact absurd ⟨h, by omega⟩ hgo
          · omega
        have hsl : sm L len ≤ 3000 := by rw [← hkl, ← hs.out]; omega
        have hjb := jn_bound L ps len (fun r hr => (Hrow.out r hr).2.1) hsl
        have hjl := jn_lt ps len (fun r hr => (Hrow.out r hr).2.2.1) (fun r hr => by rw [(Hrow.out r hr).2.1]; have := (Hrow.out r hr).2.2.2; omega)
        have hjz := jn_zero ps len
        have hlz : len = 0 → (jn ps len).length = 0 := fun h => by rw [h]; rfl
        have Hlz := Lib.hid hlz
        clear hlz
        have hcl := fun K h => cut_lt ((List.range len).map ps) K 0 (fun p hp => by
          obtain ⟨r, hr, rfl⟩ := List.mem_map.1 hp
          have hr2 := List.mem_range.1 hr
          rw [(Hrow.out r hr2).2.1]; have := (Hrow.out r hr2).2.2.2; omega) h
        rw [jn_joinL] at hcl
        have Hcl := Lib.hid hcl
        have Hjl := Lib.hid hjl
        have Hjz := Lib.hid hjz
        have hjo := join_any A0 len cap A L C ps w hlen Hr.out Hrow.out (by omega)
        have Hjo := Lib.hid hjo
        have hj4 : (jn ps len).length ≤ 4000 := by omega
        obtain ⟨jl, hjle⟩ : ∃ jl, jl = jn ps len := ⟨_, rfl⟩
        rw [← hjle] at Hcl Hjl Hjz Hjo Hlz hj4
        clear hcl hjl hjz hjo hjb hsl hbig hjle hgo
        obtain ⟨J, hJ⟩ : ∃ J, J = jl.length := ⟨_, rfl⟩
        have HJ := Lib.hid hJ
        rw [← hJ] at hj4
        have hkl1 : ¬ k < len := by omega
        have Hkl := Lib.hid hkl
        clear hkl hJ
        go_wp2_with fail
        refine Hjo.out.mono ?_
        rintro e w2 ⟨A2, rfl, hr2, hb2⟩
        rw [← HJ.out] at hr2
        rw [← HJ.out]
        have Hr2 := Lib.hid hr2
        have Hb2 := Lib.hid hb2
        have hsz2 := hb2.size
        clear hr2 hb2
        by_cases hJ0 : J = 0
        · have hl0 : len = 0 := Hjz.out (by rw [← HJ.out]; exact hJ0)
          subst hJ0
          have hle : ((len : Int) == 0) = true := by rw [beq_iff_eq]; omega
          clear hl0
          go_wp2_with fail
          refine (awake_any _).mono ?_
          rintro e w3 ⟨rfl, hb3⟩
          have Hb3 := Lib.hid (Hb2.out.trans (hb3.mono hsz2))
          clear hb3
          go_wp2_with fail
          go_ret
          exact ⟨rfl, Hb3.out⟩
        · have hJp : 0 < J := by omega
          have hJe : ((J : Int) == 0) = false := by rw [beq_eq_false_iff_ne]; omega
          obtain ⟨K, hK, hp1, hp2, hp3⟩ := place2 J at_ hJp (by omega)
          obtain ⟨R, hR⟩ : ∃ R, at_.tmod (J : Int) = R := ⟨_, rfl⟩
          rw [hR] at hp1 hp2 hp3
          have hsl := fun W => slice_h .i64 A2 J J K W (by omega)
          have HK := Lib.hid (Hcl.out K (by rw [← HJ.out]; exact hK))
          have hrk := Hr2.out.take_ (k := K) (by omega)
          rw [takeI] at hrk
          have Hrk := Lib.hid hrk
          have hlk : (jl.take K).length = K := by rw [List.length_take, ← HJ.out]; omega
          have Hlk := Lib.hid hlk
          have hjk : Hid (∀ i, (jl.take K).getD i 0 < 256) := Lib.hid (by
            intro i
            have := Hjl.out i
            simp only [List.getD, List.getElem?_take] at *
            split
            · exact this
            · simp)
          clear hrk hlk hJ0
          go_wp2_with fail
          refine (split_any A2 K J (jl.take K) Hlk.out (by omega) (by omega) (by omega) hjk.out w2 Hrk.out).mono ?_
          rintro e w3 ⟨X, cx, rfl, hb3⟩
          have Hb3 := Lib.hid (Hb2.out.trans (hb3.mono hsz2))
          have Hrk3 := Lib.hid ((Hrk.out.below hb3).more hb3.size)
          have Hr3 := Lib.hid ((Hr2.out.below hb3).more hb3.size)
          have hcv := conv_reads (P := Try.prog) 22 5 9 Try.underlying22 Try.underlying5 Try.underlying9 (jl.take K) J Hrk3.out hjk.out
          have hrs := rsplit_any (jl.take K) K Hlk.out (by omega) hjk.out w3
          obtain ⟨ee, hee⟩ : ∃ ee, ee = (spl 0 (jl.take K)).1 := ⟨_, rfl⟩
          obtain ⟨cc, hcc⟩ : ∃ cc, cc = (spl 0 (jl.take K)).2 := ⟨_, rfl⟩
          have Hee := Lib.hid hee
          have Hcc := Lib.hid hcc
          rw [← hee, ← hcc]
          have Hrs := Lib.hid hrs
          obtain ⟨TT, hTT⟩ : ∃ TT, TT = strB (jl.take K) := ⟨_, rfl⟩
          rw [← hTT] at hcv Hrs
          clear hb3 hrs hee hcc hTT
          go_wp2_with fail
          refine Hrs.out.mono ?_
          rintro e w4 ⟨Y, cy, rfl, hb4⟩
          rw [← Hee.out, ← Hcc.out]
          have Hb4 := Lib.hid (Hb3.out.trans (hb4.mono Hb3.out.size))
          have Hr4 := Lib.hid ((Hr3.out.below hb4).more hb4.size)
          clear hb4 hcv Hrs
          go_wp2_with fail
          refine (pack_any A2 J J jl HJ.out.symm (by omega) Hjl.out w4 Hr4.out).mono ?_
          rintro e w5 ⟨rfl, hblk5, hb5⟩
          have Hb5 := Lib.hid (Hb4.out.trans (hb5.mono Hb4.out.size))
          have hpl : (packed jl).length = 1 + (J + 7) / 8 := by rw [packed_length, ← HJ.out]
          have hrp := blk_reads hblk5 rfl
          rw [hpl] at hrp
          obtain ⟨q, hq⟩ : ∃ q, q = (J + 7) / 8 := ⟨_, rfl⟩
          rw [← hq] at hrp
          rw [← hq]
          have hrp2 := hrp.take_ (k := q) (by omega)
          have e64 : (Ints .u64 (packed jl)).take q = Ints .u64 ((packed jl).take q) := by simp [Ints, List.map_take]
          rw [e64] at hrp2
          have Hrp2 := Lib.hid hrp2
          have hq4 : q ≤ 600 := by omega
          have hq1 : 1 ≤ q := by omega
          have hsq := fun W => slice_h64 (some ⟨w4.heap.size, 0, none⟩) (1 + q) (1 + q) q W (by omega)
          have hlq : Hid (((packed jl).take q).length = q) := Lib.hid (by rw [List.length_take, hpl, ← hq]; omega)
          have hu6 : Hid (unpErr ((packed jl).take q) = 4) := Lib.hid (by rw [hq, HJ.out]; exact cut_torn jl (by rw [← HJ.out]; exact hJp) (by rw [← HJ.out]; omega))
          have hpb : Hid (∀ i, ((packed jl).take q).getD i 0 < 18446744073709551616) := Lib.hid (by
            intro i
            have := packed_u64 jl Hjl.out (by rw [← HJ.out]; omega) i
            simp only [List.getD, List.getElem?_take] at *
            split
            · exact this
            · simp)
          have hqm : (1 : Int) + (q : Int) - 1 = (q : Int) := by omega
          clear hrp hrp2 e64 hblk5 hb5 hpl hq
          go_wp2_with fail
          refine (unpack_any (some ⟨w4.heap.size, 0, none⟩) q (1 + q) ((packed jl).take q) w5 hlq.out (by omega) hpb.out Hrp2.out).mono ?_
          rintro e w6 ⟨Z, cz, rfl, _, hb6⟩
          rw [hu6.out]
          have Hb6 := Lib.hid (Hb5.out.trans (hb6.mono Hb5.out.size))
          have hcl2 : cc < len := by
            have h1 := HK.out
            rw [← Hcc.out, List.length_map, List.length_range] at h1
            have h2 : len ≠ 0 := fun h => by have := Hlz.out h; have := HJ.out; omega
            omega
          clear hb6
          go_wp2_with fail
          refine (awake_any _).mono ?_
          rintro e w7 ⟨rfl, hb7⟩
          have Hb7 := Lib.hid (Hb6.out.trans (hb7.mono Hb6.out.size))
          clear hb7
          go_wp2_with fail
          go_ret
          exact ⟨rfl, Hb7.out⟩
end Go.Proofs.Ytkkdcojgnpmpgaa
