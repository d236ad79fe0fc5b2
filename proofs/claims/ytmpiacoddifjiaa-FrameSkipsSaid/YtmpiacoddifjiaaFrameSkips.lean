/- FrameSkips: for every three numbers the law returns true. -/
import Derived.Test.YtmpiacoddifjiaaRows
import Derived.WalkKit
import Derived.ProofKit
import Derived.OpenShut
import Derived.ShutString
import Derived.ChangeOld
import Derived.Below
import Derived.Test.YtmpiacoddifjiaaFrameG
namespace Go.Proofs.Ytmpiacoddifjiaa.frameSkips
open Go.ChangeShapes Go.WideShapes Go.ChangeAt Go.RowKit
open Go.ChangeMaps (open_string shut_string)
set_option linter.unusedVariables false      -- a walk need not use every 'w<i>' (that an integer argument fits its kind)

theorem own : ownKnob Try.prog.godebug = none := by kernel_rfl

def pat (k : Nat) : Nat := ((⟨#[10, 97, 98]⟩ : ByteArray)[k % 3]'(Nat.mod_lt k (by decide))).toNat
theorem fillA_cell (f : Nat → Nat) (n k i : Nat) (hi : i < n) : (fillA f n k)[i]? = some (.int .u8 ((if i < k then f i else 0 : Nat) : Int)) := by
  unfold fillA
  rw [List.getElem?_toArray, Ints_get _ _ _ (by simp [hi])]
  simp [List.getD, hi]
theorem pat_lt (k : Nat) : pat k < 256 := by unfold pat; exact UInt8.toNat_lt _
def nx : List Nat := [110, 101, 120, 116, 10]
def skL (K : Nat) : List Nat := rowF pat K ++ nx
theorem skL_length (K : Nat) : (skL K).length = K + 5 := by simp [skL, rowF_length, nx]
theorem nx_lt : ∀ i, nx.getD i 0 < 256 := by
  intro i
  match i with
  | 0 => decide
  | 1 => decide
  | 2 => decide
  | 3 => decide
  | 4 => decide
  | i + 5 => simp [nx]
theorem skL_lt (K : Nat) : ∀ i, (skL K).getD i 0 < 256 := getD_append_lt (rowF_lt pat_lt K) nx_lt
theorem skL_drop (K : Nat) : (skL K).drop K = nx := by
  unfold skL
  exact List.drop_left' (rowF_length pat K)
theorem next_own {w : World} {B K : Nat} {v : Value} {l : List Nat} (h : w.ownsRow B 5 1 v (K + (⟨#[110, 101, 120, 116, 10]⟩ : ByteArray).size) (Ints .u8 l ++ Lib.strCells ⟨#[110, 101, 120, 116, 10]⟩)) : w.ownsRow B 5 1 v (K + 5) (Ints .u8 (l ++ nx)) := by
  have e : Lib.strCells ⟨#[110, 101, 120, 116, 10]⟩ = Ints .u8 nx := rfl
  rw [e] at h
  exact Ints_app h
theorem skp_skp (l : List Nat) (a b : Nat) : skp (skp l a) (skn l a + b) = skp l (a + b) := by
  unfold skp skn
  rw [List.drop_drop, List.length_drop]
  congr 1
  omega
theorem skn_skn (l : List Nat) (a b : Nat) : skn (skp l a) (skn l a + b) = skn l (a + b) := by
  unfold skp skn
  rw [List.length_drop]
  omega
/-- What is left out of what is there, and of what comes: as if all had been there. -/
theorem skp_feed (L : List Nat) (t K : Nat) (ht : t ≤ L.length) (hK : K ≤ L.length) : skp (skp (L.take t) K ++ L.drop t) (skn (L.take t) K) = L.drop K ∧ skn (skp (L.take t) K ++ L.drop t) (skn (L.take t) K) = 0 := by
  have hl : (L.take t).length = t := by rw [List.length_take]; omega
  have hd : (L.drop t).length = L.length - t := List.length_drop
  unfold skp skn
  rw [hl, List.length_append, List.length_drop, hl, hd]
  rcases Nat.lt_or_ge t K with h | h
  · have e1 : (L.take t).drop (min K t) = [] := by apply List.drop_eq_nil_of_le; rw [hl]; omega
    rw [e1, List.nil_append, List.drop_drop]
    refine ⟨congrArg (fun n => L.drop n) ?_, ?_⟩ <;> omega
  · have e2 : min K t = K := by omega
    rw [e2, Nat.sub_self]
    refine ⟨?_, by omega⟩
    rw [Nat.zero_min, List.drop_zero]
    have e := congrArg (List.drop K) (List.take_append_drop t L)
    rw [List.drop_append_of_le_length (by rw [hl]; omega)] at e
    exact e
theorem ln_nx : lineS nx = [110, 101, 120, 116] ∧ lineO nx = true ∧ lineE nx = 0 ∧ lfi nx = 4 := by decide +kernel
theorem ln_nil : lineS [] = [] ∧ lineO [] = false ∧ lineE [] = 0 ∧ lfi [] = 0 := by decide +kernel
theorem str_nx : strB [110, 101, 120, 116] = ⟨#[110, 101, 120, 116]⟩ := by decide
theorem lineNx (B G : Nat) (w : World) (hB : B ≤ w.heap.size) (hf : Frm w B G nx 0 false) :
    Calls Try.prog 12 #[.pointer (some ⟨G, 0, none⟩)] w fun e w' => e = .returned (.tuple #[.string ⟨#[110, 101, 120, 116]⟩, .bool true, .int .i64 0]) ∧ Frm w' B G [] 0 false ∧ Below B w w' := by
  refine (line0 B G _ w nx_lt (by decide) hB hf).mono ?_
  rintro e w' ⟨⟨h1, _, _, h4⟩, h5⟩
  obtain ⟨a1, a2, a3, a4⟩ := ln_nx
  rw [a1, a2, a3, str_nx] at h1
  rw [a4] at h4
  exact ⟨h1, h4 (by decide), h5⟩
theorem lineNil (B G : Nat) (w : World) (hB : B ≤ w.heap.size) (hf : Frm w B G [] 0 false) :
    Calls Try.prog 12 #[.pointer (some ⟨G, 0, none⟩)] w fun e w' => e = .returned (.tuple #[.string ⟨#[]⟩, .bool false, .int .i64 0]) ∧ Frm w' B G [] 0 false ∧ Below B w w' := by
  refine (line0 B G _ w (by simp) (by decide) hB hf).mono ?_
  rintro e w' ⟨⟨h1, h2, _, _⟩, h5⟩
  obtain ⟨a1, a2, a3, a4⟩ := ln_nil
  rw [a1, a2, a3] at h1
  rw [a4] at h2
  exact ⟨h1, h2 rfl (by decide), h5⟩
theorem skp_lt {l : List Nat} (hb : ∀ i, l.getD i 0 < 256) (s : Nat) : ∀ i, (skp l s).getD i 0 < 256 := drop_lt hb _
theorem skp_len (l : List Nat) (s : Nat) : (skp l s).length ≤ l.length := by unfold skp; rw [List.length_drop]; omega
theorem skips (G N M : Nat) (l : List Nat) (w : World) (hb : ∀ i, l.getD i 0 < 256) (hN : N ≤ 1000) (hM : M ≤ 1000) (hl : l.length ≤ 10000) (hG : G ≤ w.heap.size) (hf : Frm w G G (skp l N) (skn l N) false) :
    Calls Try.prog 15 #[.pointer (some ⟨G, 0, none⟩), .int .i64 (M : Int)] w (fun e w' => e = .returned (.tuple #[]) ∧ Frm w' G G (skp l (N + M)) (skn l (N + M)) false ∧ Below G w w') := by
  have h1 := skp_len l N
  have h2 : skn l N ≤ N := by unfold skn; omega
  refine (skip_any G G M (skp l N) (skn l N) w (skp_lt hb N) (by omega) (by omega) (by omega) hG hf).mono ?_
  rintro e w' ⟨h3, h4, h5⟩
  rw [skp_skp, skn_skn] at h4
  exact ⟨h3, h4, h5⟩
theorem feed_tail (G K j n c : Nat) (A : Option Addr) (w : World) (hK : K ≤ 1000) (hj : j ≤ K + 5) (hn : n = K + 5 - j) (hG : G ≤ w.heap.size) (hr : Reads w w.heap.size 1 A n (Ints .u8 ((skL K).drop j))) (hf : Frm w G G (skp ((skL K).take j) K) (skn ((skL K).take j) K) false) :
    Calls Try.prog 11 #[.pointer (some ⟨G, 0, none⟩), .slice A n c] w (fun e w' => e = .returned (.tuple #[]) ∧ Frm w' G G nx 0 false ∧ Below G w w') := by
  have h1 := skp_len ((skL K).take j) K
  have h0 : ((skL K).take j).length ≤ K + 5 := by rw [List.length_take, skL_length]; omega
  have h2 : skn ((skL K).take j) K ≤ K := by unfold skn; omega
  refine (feed_any G G (skp ((skL K).take j) K) ((skL K).drop j) (skn ((skL K).take j) K) false A n c w (skp_lt (take_lt (skL_lt K) j) K) (drop_lt (skL_lt K) j) (by omega) (by omega) hG hf hr).mono ?_
  rintro e w' ⟨h3, h4, h5⟩
  obtain ⟨e1, e2⟩ := skp_feed (skL K) j K (by rw [skL_length]; exact hj) (by rw [skL_length]; omega)
  have e3 : stl (skp ((skL K).take j) K ++ (skL K).drop j) (skn ((skL K).take j) K) false = nx := by
    rw [← skL_drop K, ← e1]; rfl
  have e4 : stn (skp ((skL K).take j) K ++ (skL K).drop j) (skn ((skL K).take j) K) false = 0 := by
    rw [← e2]; rfl
  rw [e3, e4] at h4
  exact ⟨h3, h4, h5⟩
theorem wait0 (G K j : Nat) (w : World) (hj : j < K) (hf : Frm w G G (skp ((skL K).take j) K) (skn ((skL K).take j) K) false) :
    Calls Try.prog 13 #[.pointer (some ⟨G, 0, none⟩)] w fun e w' => e = .returned (.int .i64 0) ∧ w = w' := by
  have h0 : (skp ((skL K).take j) K).length = 0 := by
    unfold skp
    rw [List.length_drop, List.length_take, skL_length]
    omega
  refine (waiting_any G G _ _ false w hf).mono ?_
  rintro e w' ⟨h1, h2⟩
  rw [h0] at h1
  exact ⟨h1, h2⟩
set_option maxRecDepth 100000 in
set_option maxHeartbeats 4000000 in
theorem great (n m t : Int) (w : World) : Calls Try.prog 6 #[.int .i64 n, .int .i64 m, .int .i64 t] w fun e w' => e = .returned (.bool true) ∧ Below w.heap.size w w' := by
  obtain ⟨i0, hi, hz0, hz1, hz2⟩ := info_parts info5
  obtain ⟨N, hN, h1⟩ := mask n 255 (by decide)
  obtain ⟨M, hM, h2⟩ := mask m 255 (by decide)
  obtain ⟨T, hT, h3⟩ := mask t 511 (by decide)
  have m1 : bits .and .i64 n 255 = (N : Int) := h1
  have m2 : bits .and .i64 m 255 = (M : Int) := h2
  have m3 : bits .and .i64 t 511 = (T : Int) := h3
  clear h1 h2 h3
  obtain ⟨K, hK⟩ : ∃ K, K = N + M := ⟨_, rfl⟩
  have hmk : ∀ W : World, (Instr.makeSlice 26 (.int .i64 ((N : Int) + (M : Int))) (.int .i64 ((N : Int) + (M : Int)))).run Try.prog W = .ok (.slice (some ⟨W.heap.size, 0, none⟩) K K) (W.alloc (.cells (fillA pat K 0) 5)) := by
    intro W
    have h := run_make_rowN 26 5 i0 (.int .u8 0) Try.underlying26 hi hz0 .i64 .i64 K K (Nat.le_refl _) (by rw [hz2]; omega) (by omega) W
    have e : ((K : Nat) : Int) = (N : Int) + (M : Int) := by omega
    rw [e, hz1, Nat.mul_one] at h
    rw [← fillA_start]
    exact h
  obtain ⟨j, hj⟩ : ∃ j, j = min T (K + 5) := ⟨_, rfl⟩
  have hmin : (min (T : Int) ((K : Int) + 5)) = (j : Int) := by omega
  have hjT : j ≤ K + 5 := by omega
  have Hj := Lib.hid hj
  have HK := Lib.hid hK
  have hK5 : K ≤ 510 := by omega
  clear hj hK
  go_enter Try.func6, Try.ntmps6
  go_wp2_with fail
  go_loopw [28] (fun i wr => ∃ k : Nat, k ≤ K ∧ i = .int .i64 k ∧ Blk wr w.heap.size 5 (fillA pat K k) ∧ Below w.heap.size w wr) (fun i _ => K - (intOf i).toNat)
  case atStart => exact ⟨0, by omega, rfl, Blk.new w 5 _, (Below.refl _ _).alloc (Nat.le_refl _) _⟩
  case round =>
    obtain ⟨k, hk, rfl, hblk, hbel⟩ := hrel
    clear hmk
    by_cases hlt : k < K
    · have htm : Int.tmod (k : Int) 3 = ((k % 3 : Nat) : Int) := rfl
      have hm3 : k % 3 < 3 := by omega
      have hbc : wr.cell? ⟨w.heap.size, k, none⟩ = some (.int .u8 ((if k < k then pat k else 0 : Nat) : Int)) := by rw [hblk.cell]; exact fillA_cell pat K k k hlt
      have hfz := hblk.frozen k
      have Hb2 := Lib.hid (hblk.set_ k (.int .u8 ((pat k : Nat) : Int)))
      rw [fillA_set pat K k hlt] at Hb2
      have Hbel2 := Lib.hid (hbel.setCell (p := ⟨w.heap.size, k, none⟩) (Nat.le_refl _) (.int .u8 ((pat k : Nat) : Int)))
      clear hblk hbel
      go_wp2_with fail
      go_roundw
      case rel => exact ⟨k + 1, by omega, by go_num, Hb2.out, Hbel2.out⟩
      case measure => simp [intOf]; omega
    · have hkK : k = K := by omega
      rw [hkK] at hblk
      have hown := fill_own (Nat.le_refl w.heap.size) (by omega) hblk
      have Hbel := Lib.hid hbel
      have hszr := hbel.size
      clear hblk hbel
      go_wp2_with (at_builtin; go_loud (refine Lib.wpList_append_own_string _ rfl (.tmp 38) (.const (.string ⟨#[110, 101, 120, 116, 10]⟩)) 26 9 rfl w.heap.size 5 i0 Try.underlying26 Try.underlying9 hi hz0 hz1 hz2 _ K (Ints .u8 (rowF pat K)) rfl hown ⟨#[110, 101, 120, 116, 10]⟩ rfl (by unfold maxLen; show K + 5 ≤ _; omega) (by show K + 5 ≤ _; omega) hszr ?_; intro v' w1 hown1 hgrow1 hat; have hown2 := next_own hown1; obtain ⟨A1, c1, rfl⟩ := own_shape hown2; have HB1 := Lib.hid (Hbel.out.grown hgrow1 hszr (fun g hg => by cases hg; exact Nat.le_refl _)); have Hr1 := Lib.hid (Reads.of_own hown2); have hcap := cons_row hown2; clear hown1 hown2 hgrow1 hat hown))
      obtain ⟨hc5, hcm⟩ := hcap
      have hjc : j ≤ c1 := by omega
      refine (new_any w1.heap.size w1 (Nat.le_refl _)).mono ?_
      rintro e w2 ⟨rfl, hf2, hb2⟩
      have Hf2 := Lib.hid hf2
      have Hb2 := Lib.hid hb2
      have Hr2 := Lib.hid (Hr1.out.below hb2)
      have HG := Lib.hid HB1.out.size
      clear hf2 hb2
      go_wp2_with fail
      refine (feed0 w1.heap.size w1.heap.size [] ((skL K).take j) A1 j c1 w2 (by simp) (take_lt (skL_lt K) j) (by simp; omega) Hb2.out.size Hf2.out ?r3).mono ?_
      case r3 =>
        have := (Hr2.out.more Hb2.out.size).take_ hjT
        rw [Ints_take] at this
        exact this
      rintro e w3 ⟨rfl, hf3, hb3⟩
      rw [List.nil_append] at hf3
      have Hf3 := Lib.hid hf3
      have Hb3 := Lib.hid (Hb2.out.trans hb3)
      clear hf3 hb3
      have hlj : ((skL K).take j).length ≤ K + 5 := by rw [List.length_take, skL_length]; omega
      go_wp2_with fail
      refine (skip_any w1.heap.size w1.heap.size N ((skL K).take j) 0 w3 (take_lt (skL_lt K) j) (by omega) (by omega) (by omega) Hb3.out.size Hf3.out).mono ?_
      rintro e w4 ⟨rfl, hf4, hb4⟩
      rw [Nat.zero_add] at hf4
      have Hf4 := Lib.hid hf4
      have Hb4 := Lib.hid (Hb3.out.trans hb4)
      clear hf4 hb4
      go_wp2_with fail
      refine (skips w1.heap.size N M ((skL K).take j) w4 (take_lt (skL_lt K) j) (by omega) (by omega) (by omega) Hb4.out.size Hf4.out).mono ?_
      rintro e w5 ⟨rfl, hf5, hb5⟩
      rw [← HK.out] at hf5
      have Hf5 := Lib.hid hf5
      have Hb5 := Lib.hid (Hb4.out.trans hb5)
      have hr5 := ((Hr1.out.below Hb5.out).more Hb5.out.size).cut (cap := c1) hjT hc5
      have er : (Ints .u8 (rowF pat K ++ nx)).drop (j * 1) = Ints .u8 ((skL K).drop j) := by simp [Ints, skL]
      rw [er] at hr5
      have Hr5 := Lib.hid hr5
      clear hf5 hb5 hr5 er
      by_cases hjK : j < K
      · have hcj : ¬ c1 = j := by omega
        have hlt2 : (j : Int) < (N : Int) + (M : Int) := by have := HK.out; omega
        go_wp2_with fail
        refine (wait0 w1.heap.size K j w5 hjK Hf5.out).mono ?_
        rintro e w6 ⟨rfl, rfl⟩
        go_wp2_with fail
        refine (feed_tail w1.heap.size K j (K + 5 - j) _ _ w5 (by omega) hjT rfl Hb5.out.size ?rr Hf5.out).mono ?_
        case rr => exact (by have := Hr5.out; rw [if_neg hcj] at this; simpa using this)
        rintro e w6 ⟨rfl, hf6, hb6⟩
        have Hf6 := Lib.hid hf6
        have Hb6 := Lib.hid (Hb5.out.trans hb6)
        clear hf6 hb6
        go_wp2_with fail
        refine (lineNx w1.heap.size w1.heap.size w6 Hb6.out.size Hf6.out).mono ?_
        rintro e w7 ⟨rfl, hf7, hb7⟩
        have Hf7 := Lib.hid hf7
        have Hb7 := Lib.hid (Hb6.out.trans hb7)
        clear hf7 hb7
        go_wp2_with fail
        refine (lineNil w1.heap.size w1.heap.size w7 Hb7.out.size Hf7.out).mono ?_
        rintro e w8 ⟨rfl, hf8, hb8⟩
        have Hb8 := Lib.hid (Hb7.out.trans hb8)
        clear hf8 hb8
        go_wp2_with fail
        refine (awake_any _).mono ?_
        rintro e w9 ⟨rfl, hb9⟩
        have Hb9 := Lib.hid (HB1.out.trans ((Hb8.out.trans (hb9.mono Hb8.out.size)).mono HG.out))
        clear hb9
        go_wp2_with fail
        go_ret
        exact ⟨rfl, Hb9.out⟩
      · have hlt2 : ¬ (j : Int) < (N : Int) + (M : Int) := by have := HK.out; omega
        by_cases hcj : c1 = j
        · go_wp2_with fail
          refine (feed_tail w1.heap.size K j (K + 5 - j) _ _ w5 (by omega) hjT rfl Hb5.out.size ?rr Hf5.out).mono ?_
          case rr => exact (by have := Hr5.out; rw [if_pos hcj] at this; simpa using this)
          rintro e w6 ⟨rfl, hf6, hb6⟩
          have Hf6 := Lib.hid hf6
          have Hb6 := Lib.hid (Hb5.out.trans hb6)
          clear hf6 hb6
          go_wp2_with fail
          refine (lineNx w1.heap.size w1.heap.size w6 Hb6.out.size Hf6.out).mono ?_
          rintro e w7 ⟨rfl, hf7, hb7⟩
          have Hf7 := Lib.hid hf7
          have Hb7 := Lib.hid (Hb6.out.trans hb7)
          clear hf7 hb7
          go_wp2_with fail
          refine (lineNil w1.heap.size w1.heap.size w7 Hb7.out.size Hf7.out).mono ?_
          rintro e w8 ⟨rfl, hf8, hb8⟩
          have Hb8 := Lib.hid (Hb7.out.trans hb8)
          clear hf8 hb8
          go_wp2_with fail
          refine (awake_any _).mono ?_
          rintro e w9 ⟨rfl, hb9⟩
          have Hb9 := Lib.hid (HB1.out.trans ((Hb8.out.trans (hb9.mono Hb8.out.size)).mono HG.out))
          clear hb9
          go_wp2_with fail
          go_ret
          exact ⟨rfl, Hb9.out⟩
        · go_wp2_with fail
          refine (feed_tail w1.heap.size K j (K + 5 - j) _ _ w5 (by omega) hjT rfl Hb5.out.size ?rr Hf5.out).mono ?_
          case rr => exact (by have := Hr5.out; rw [if_neg hcj] at this; simpa using this)
          rintro e w6 ⟨rfl, hf6, hb6⟩
          have Hf6 := Lib.hid hf6
          have Hb6 := Lib.hid (Hb5.out.trans hb6)
          clear hf6 hb6
          go_wp2_with fail
          refine (lineNx w1.heap.size w1.heap.size w6 Hb6.out.size Hf6.out).mono ?_
          rintro e w7 ⟨rfl, hf7, hb7⟩
          have Hf7 := Lib.hid hf7
          have Hb7 := Lib.hid (Hb6.out.trans hb7)
          clear hf7 hb7
          go_wp2_with fail
          refine (lineNil w1.heap.size w1.heap.size w7 Hb7.out.size Hf7.out).mono ?_
          rintro e w8 ⟨rfl, hf8, hb8⟩
          have Hb8 := Lib.hid (Hb7.out.trans hb8)
          clear hf8 hb8
          go_wp2_with fail
          refine (awake_any _).mono ?_
          rintro e w9 ⟨rfl, hb9⟩
          have Hb9 := Lib.hid (HB1.out.trans ((Hb8.out.trans (hb9.mono Hb8.out.size)).mono HG.out))
          clear hb9
          go_wp2_with fail
          go_ret
          exact ⟨rfl, Hb9.out⟩
set_option maxRecDepth 100000 in
set_option maxHeartbeats 2000000 in
theorem walk (a0 : Int) (a1 : Int) (a2 : Int) (w0 : (Lit.int .i64 a0).wf = true) (w1 : (Lit.int .i64 a1).wf = true) (w2 : (Lit.int .i64 a2).wf = true) (w : World) :
    Calls Try.prog 6 #[.int .i64 a0, .int .i64 a1, .int .i64 a2] w fun e w' => e = .returned (.bool true) ∧ Below w.heap.size w w' := by

  exact great a0 a1 a2 w

set_option maxRecDepth 100000 in
theorem lifted (os : Os) (started : os.Started) (H : Type) (enc : TypeId × Value → H) :
    ReturnsInHanded {} Try.checked os 6 .any (Rows.frameSkipsSpec.pre6 enc Try.prog Try.f6 Rows.frameSkipsRow.domain false) (Rows.frameSkipsSpec.post enc Try.prog Try.f6 false true false false) := by
  refine returnsInHanded_of_change (C := Try.checked) own started (by kernel_rfl) Try.func6
    (ChangeSpec.witness6 (enc := enc) (C := Try.checked) false ⟨#[], #[.int .i64 0, .int .i64 0, .int .i64 0], []⟩ 8 (by kernel_rfl) (by kernel_rfl) (by kernel_rfl) (by kernel_rfl)) ?_
  intro W base args ds gs before hval0 hW hcnd _
  have hval : ∀ (j : Nat) t v, Try.f6.params[j]? = some t → args[j]? = some v → Value.okWide Try.prog W .any base t v := hval0
  have hW' := hW
  obtain ⟨p, q, hA0, hV, rfl, hfz, hnd⟩ := hW
  have hA : DataW.TrodAll enc Try.prog W 0 (fun _ => true) true Try.f6.params.toList args.toList ds p := hA0
  rw [Try.params6] at hA hval
  obtain ⟨v0, vs0, d0, ds0, p0, q0, hargs, rfl, rfl, h0, r0⟩ := trodAll_cons hA
  obtain ⟨v1, vs1, d1, ds1, p1, q1, rfl, rfl, rfl, h1, r1⟩ := trodAll_cons r0
  obtain ⟨v2, vs2, d2, ds2, p2, q2, rfl, rfl, rfl, h2, r2⟩ := trodAll_cons r1
  obtain ⟨rfl, rfl, rfl⟩ := trodAll_nil r2
  obtain rfl : args = #[v0, v1, v2] := by cases args; simp_all
  obtain ⟨rfl, rfl⟩ := trodVars_none hV
  obtain ⟨a0, rfl, rfl, rfl, w0⟩ := open_int Try.underlying3 (hval 0 3 v0 rfl rfl) h0
  obtain ⟨a1, rfl, rfl, rfl, w1⟩ := open_int Try.underlying3 (hval 1 3 v1 rfl rfl) h1
  obtain ⟨a2, rfl, rfl, rfl, w2⟩ := open_int Try.underlying3 (hval 2 3 v2 rfl rfl) h2
  clear hA0 hval0
  simp only [List.append_nil] at hW'
  refine (walk a0 a1 a2 w0 w1 w2 W).mono fun e W' ⟨he, bel⟩ => ?_
  subst he
  exact ⟨_, rfl, _, _, _, [], [], [], hW', (trodAll_cons_mk (shut_bool Try.underlying4 _) trodAll_mk0), (trodAll_cons_mk (shut_int Try.underlying3 w0) (trodAll_cons_mk (shut_int Try.underlying3 w1) (trodAll_cons_mk (shut_int Try.underlying3 w2) trodAll_mk0))), rfl, bel.frame _, fun h => by cases h⟩

theorem over : Rows.frameSkipsRow.holds Try.pinned (OpenSpec.ofChange Rows.frameSkipsSpec) :=
  OpenClaim.holds_of_wide 6 Try.f6 rfl rfl rfl rfl rfl rfl rfl ⟨rfl, rfl, rfl, rfl, rfl⟩ rfl rfl rfl rfl rfl (by kernel_rfl) Try.func6 (by kernel_rfl)
    (of_decide_eq_true (by kernel_rfl)) (by unfold Func.isWrapper; first | (rw [if_pos (by decide +kernel)]; kernel_rfl) | (rw [if_neg (by decide +kernel)]; exact ⟨rfl, rfl⟩))
    (fun os started H enc _ => lifted os started H enc)

theorem proved : Rows.FrameSkipsSaid :=
  over
#print axioms proved
end Go.Proofs.Ytmpiacoddifjiaa.frameSkips
