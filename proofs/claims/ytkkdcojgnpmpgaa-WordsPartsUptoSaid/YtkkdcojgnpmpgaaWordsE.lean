/- Plain unpacking of words: the bytes that they are, or what is wrong; and the walk of words.Unpack. -/
import Derived.Test.YtkkdcojgnpmpgaaWordsD
namespace Go.Proofs.Ytkkdcojgnpmpgaa
open Go.RowKit
set_option linter.unusedVariables false

/-- The i-th byte behind the first word. -/
def wbyte (ws : List Nat) (i : Nat) : Nat := ws.getD (1 + i / 8) 0 / 2 ^ (8 * (i % 8)) % 256
def padded (ws : List Nat) : Bool := (List.range (8 * (ws.length - 1))).all fun i => decide (i < ws.getD 0 0) || wbyte ws i == 0
def goodLen (ws : List Nat) : Bool := decide (0 < ws.length) && decide (ws.getD 0 0 ≤ 65536) && ws.length == 1 + (ws.getD 0 0 + 7) / 8
def unpErr (ws : List Nat) : Nat :=
  if 0 < ws.length ∧ 65536 < ws.getD 0 0 then 3
  else if ws.length < 1 + (ws.getD 0 0 + 7) / 8 then 4
  else if ws.length = 1 + (ws.getD 0 0 + 7) / 8 ∧ padded ws = true then 0 else 3
def unpBytes (ws : List Nat) : List Nat := if unpErr ws = 0 then (List.range (ws.getD 0 0)).map (wbyte ws) else []
theorem wbyte_lt (ws : List Nat) (i : Nat) : wbyte ws i < 256 := Nat.mod_lt _ (by decide)
theorem unpBytes_lt (ws : List Nat) : ∀ i, (unpBytes ws).getD i 0 < 256 := by
  intro i
  unfold unpBytes
  split
  · rcases Nat.lt_or_ge i (ws.getD 0 0) with h | h
    · have := wbyte_lt ws i
      simp at h
      simp [List.getD, h, this]
    · simp at h
      simp [List.getD, h]
  · simp
theorem padded_iff (ws : List Nat) : padded ws = true ↔ ∀ i, ws.getD 0 0 ≤ i → i < 8 * (ws.length - 1) → wbyte ws i = 0 := by
  unfold padded
  rw [List.all_eq_true]
  constructor
  · intro h i h1 h2
    have := h i (List.mem_range.2 h2)
    simp only [Bool.or_eq_true, decide_eq_true_eq, beq_iff_eq] at this
    omega
  · intro h i hi
    have hi' := List.mem_range.1 hi
    simp only [Bool.or_eq_true, decide_eq_true_eq, beq_iff_eq]
    rcases Nat.lt_or_ge i (ws.getD 0 0) with h1 | h1
    · exact .inl h1
    · exact .inr (h i h1 hi')
theorem unp_bad (ws : List Nat) (h : unpErr ws ≠ 0) : unpBytes ws = [] := by unfold unpBytes; rw [if_neg h]

theorem wbyte_word (ws : List Nat) (k : Nat) : (((ws.getD (1 + k / 8) 0 : Nat)) : Int) / 2 ^ (8 * (k % 8)) % 256 = ((wbyte ws k : Nat) : Int) := by
  unfold wbyte
  have e2 : ((ws.getD (1 + k / 8) 0 : Nat) : Int) / 2 ^ (8 * (k % 8)) = ((ws.getD (1 + k / 8) 0 / 2 ^ (8 * (k % 8)) : Nat) : Int) := by
    rw [Int.natCast_ediv, Int.natCast_pow]; rfl
  rw [e2]
  omega
theorem range_snoc (f : Nat → Nat) (j : Nat) : (List.range (j + 1)).map f = (List.range j).map f ++ [f j] := by
  rw [List.range_succ, List.map_append]; rfl
def UnPost (ws : List Nat) (w : World) (e : Ending) (w' : World) : Prop :=
  ∃ A c, e = .returned (.tuple #[.slice A (unpBytes ws).length c, .int .i64 (unpErr ws : Nat)]) ∧ Reads w' w'.heap.size 1 A (unpBytes ws).length (Ints .u8 (unpBytes ws)) ∧ Below w.heap.size w w'
theorem un_bad {ws : List Nat} {w w' : World} {E : Nat} (hE : unpErr ws = E) (h0 : E ≠ 0) {e : Ending} (he : e = .returned (.tuple #[.slice none 0 0, .int .i64 (E : Int)])) (hb : Below w.heap.size w w') : UnPost ws w e w' := by
  have hnil := unp_bad ws (by omega)
  refine ⟨none, 0, ?_, ?_, hb⟩
  · rw [hnil, hE]; exact he
  · rw [hnil]; exact Reads.none_

set_option maxRecDepth 100000 in
set_option maxHeartbeats 2000000 in
theorem unpack_bad (A : Option Addr) (m cap : Nat) (ws : List Nat) (w : World) (hl : ws.length = m) (hm : m ≤ 10000) (hw : ∀ i, ws.getD i 0 < 18446744073709551616) (hr : Reads w w.heap.size 1 A m (Ints .u64 ws)) (hbad : goodLen ws = false) :
    Calls Try.prog 9 #[.slice A m cap] w (UnPost ws w) := by
  have Hw := Lib.hid (hw 0)
  have Hbad := Lib.hid hbad
  clear hbad hw
  by_cases h0 : m = 0
  · subst h0
    have hE : unpErr ws = 4 := by unfold unpErr; rw [if_neg (by omega), if_pos (by omega)]
    go_enter Try.func9, Try.ntmps9
    go_wp2_with fail
    go_ret2
    exact un_bad hE (by decide) rfl (Below.refl _ _)
  · obtain ⟨x, rfl, hx, hcx⟩ := Reads.ints_at (by rw [hl]; exact hr) 0 (by omega : 0 < ws.length)
    have e0 : x.add 0 = x := by unfold Addr.add; simp
    rw [e0] at hcx
    generalize hv : ws.getD 0 0 = v at *
    have Hv := Lib.hid hv
    clear hv e0 hr hx
    have m0 : (0 : Int) < (m : Int) := by omega
    have m1 : ((m : Int) == 0) = false := by rw [beq_eq_false_iff_ne]; omega
    have m2 : IntKind.u64.wrap (8 * ((m : Int) - 1)) = 8 * ((m : Int) - 1) := IntWalk.u64_in _ (by omega)
    by_cases h1 : 65536 < v
    · have hE : unpErr ws = 3 := by unfold unpErr; rw [if_pos (by rw [Hv.out]; omega)]
      have v1 : (65536 : Int) < (v : Int) := by omega
      go_enter Try.func9, Try.ntmps9
      go_wp2_with fail
      go_ret2
      exact un_bad hE (by decide) rfl (Below.refl _ _)
    · have v1 : (v : Int) ≤ 65536 := by omega
      by_cases h2 : 8 * (m - 1) < v
      · have hE : unpErr ws = 4 := by unfold unpErr; rw [Hv.out, if_neg (by omega), if_pos (by omega)]
        have v2 : 8 * ((m : Int) - 1) < (v : Int) := by omega
        go_enter Try.func9, Try.ntmps9
        go_wp2_with fail
        go_ret2
        exact un_bad hE (by decide) rfl (Below.refl _ _)
      · have v2 : (v : Int) ≤ 8 * ((m : Int) - 1) := by omega
        have hE : unpErr ws = 3 := by
          have hb := Hbad.out
          unfold goodLen at hb
          rw [Hv.out, hl] at hb
          unfold unpErr
          rw [Hv.out, hl, if_neg (by omega), if_neg (by omega), if_neg]
          rintro ⟨h, _⟩
          rw [decide_eq_true (by omega), decide_eq_true (by omega), beq_iff_eq.2 h] at hb
          simp at hb
        have hb := Hbad.out
        have hneq : m ≠ 1 + (v + 7) / 8 := by
          intro h
          unfold goodLen at hb
          rw [Hv.out, hl, decide_eq_true (by omega), decide_eq_true (by omega), beq_iff_eq.2 h] at hb
          simp at hb
        clear hb
        have v3 : ((m : Int) != 1 + ((v : Int) + 7) / 8) = true := by rw [bne_iff_ne]; omega
        go_enter Try.func9, Try.ntmps9
        go_wp2_with fail
        refine (need_any v (by omega) (by omega) _).mono ?_
        rintro e w1 ⟨rfl, rfl⟩
        go_wp2_with fail
        go_ret2
        exact un_bad hE (by decide) rfl (Below.refl _ _)

set_option maxRecDepth 100000 in
set_option maxHeartbeats 2000000 in
theorem unpack_good (A : Option Addr) (m cap : Nat) (ws : List Nat) (w : World) (hl : ws.length = m) (hm : m ≤ 10000) (hw : ∀ i, ws.getD i 0 < 18446744073709551616) (hr : Reads w w.heap.size 1 A m (Ints .u64 ws)) (hgood : goodLen ws = true) :
    Calls Try.prog 9 #[.slice A m cap] w (UnPost ws w) := by
  obtain ⟨i0, hi, hz0, hz1, hz2⟩ := info_parts info5
  have hg3 : 0 < m ∧ ws.getD 0 0 ≤ 65536 ∧ m = 1 + (ws.getD 0 0 + 7) / 8 := by
    unfold goodLen at hgood
    rw [hl] at hgood
    simp only [Bool.and_eq_true, decide_eq_true_eq, beq_iff_eq] at hgood
    exact ⟨hgood.1.1, hgood.1.2, hgood.2⟩
  obtain ⟨h0, h1, h2⟩ := hg3
  obtain ⟨x, rfl, hx, hcx⟩ := Reads.ints_at (by rw [hl]; exact hr) 0 (by omega : 0 < ws.length)
  have Hr := Lib.hid hr
  have e0 : x.add 0 = x := by unfold Addr.add; simp
  rw [e0] at hcx
  have Hw := Lib.hid hw
  generalize hv : ws.getD 0 0 = v at *
  have Hv := Lib.hid hv
  clear hv e0 hr hw hgood
  have m0 : (0 : Int) < (m : Int) := by omega
  have m1 : ((m : Int) == 0) = false := by rw [beq_eq_false_iff_ne]; omega
  have m2 : IntKind.u64.wrap (8 * ((m : Int) - 1)) = 8 * ((m : Int) - 1) := IntWalk.u64_in _ (by omega)
  have v1 : (v : Int) ≤ 65536 := by omega
  have v2 : (v : Int) ≤ 8 * ((m : Int) - 1) := by omega
  have v3 : ((m : Int) != 1 + ((v : Int) + 7) / 8) = false := by rw [bne_eq_false_iff_eq]; omega
  have H2 := Lib.hid h2
  clear h2
  go_enter Try.func9, Try.ntmps9
  go_wp2_with fail
  refine (need_any v (by omega) (by omega) _).mono ?_
  rintro e w1 ⟨rfl, rfl⟩
  go_wp2_with fail
  go_loopw [5, 50] (fun b i wr => ∃ (k j cap : Nat) (A : Option Addr), k ≤ 8 * (m - 1) ∧ i = .int .i64 k ∧ b = .slice A j cap ∧ Hid (j = min k v) ∧ wr.ownsRow w.heap.size 5 1 (.slice A j cap) j (Ints .u8 ((List.range j).map (wbyte ws))) ∧ Below w.heap.size w wr ∧ Hid (∀ q, v ≤ q → q < k → wbyte ws q = 0)) (fun _ i _ => 8 * (m - 1) - (intOf i).toNat)
  case atStart => exact ⟨0, 0, 0, none, by omega, rfl, rfl, Lib.hid (by omega), ⟨rfl, .inl ⟨rfl, rfl⟩⟩, Below.refl _ _, Lib.hid (fun q _ h => by omega)⟩
  case round =>
    obtain ⟨k, j, cap', A, hk, rfl, rfl, hj, hown, hbel, hz⟩ := hrel
    clear hcx
    by_cases hlt : k < 8 * (m - 1)
    · obtain ⟨x', hx', hxb, hck0⟩ := Reads.ints_at (by rw [hl]; exact Hr.out) (1 + k / 8) (by omega : 1 + k / 8 < ws.length)
      injection hx' with hx'
      subst hx'
      have hck : wr.cell? (x.add (1 + k / 8)) = some (.int .u64 ((ws.getD (1 + k / 8) 0 : Nat) : Int)) := by rw [hbel.cell (by rw [block_of_add]; exact hxb)]; exact hck0
      have hby := wbyte_word ws k
      generalize ws.getD (1 + k / 8) 0 = u at *
      obtain ⟨c, hc⟩ : ∃ c, wbyte ws k = c := ⟨_, rfl⟩
      rw [hc] at hby
      have Hc := Lib.hid hc
      have hc256 : c < 256 := by rw [← hc]; exact wbyte_lt _ _
      clear hck0 hc
      have a1 : (0 : Int) ≤ 1 + (k : Int) / 8 := by omega
      have a2 : 1 + (k : Int) / 8 < (m : Int) := by omega
      have a3 : (k : Int) < 8 * ((m : Int) - 1) := by omega
      by_cases hkv : k < v
      · have hkj : j = k := by have := hj.out; omega
        have b1 : (k : Int) < (v : Int) := by omega
        subst hkj
        have hE := Lib.hid (show ((c : Int)) = ((c : Nat) : Int) from rfl)
        go_wp2_with (at_builtin; refine wpList_push wr rfl (.tmp 67) (.tmp 69) 22 rfl w.heap.size 5 i0 .u8 1 Try.underlying22 hi hz0 hz1 hz2 A j cap' _ rfl hown _ c 1 rfl rfl (by unfold maxLen; omega) (by omega) hbel.size ?_; intro g cap2 w1 hown1 hgrow1 hsz1 hg1 hgB; have Hown1 := Lib.hid hown1; have Hgrow := Lib.hid hgrow1; clear hown1 hgrow1)
        go_roundw
        case rel =>
          refine ⟨j + 1, j + 1, cap2, _, by omega, by go_num, rfl, Lib.hid (by omega), ?_, hbel.grown Hgrow.out hbel.size (fun q hq => (hown.lt q hq).1), Lib.hid (fun q h1 h2 => by omega)⟩
          have := Hown1.out
          rw [← Hc.out, ← range_snoc] at this
          exact this
        case measure => simp [intOf]; omega
      · have b1 : ¬ (k : Int) < (v : Int) := by omega
        by_cases hc0 : c = 0
        · have b2 : ((c : Int) != 0) = false := by rw [bne_eq_false_iff_eq]; omega
          have Hc0 := Lib.hid hc0
          clear hc0
          go_wp2_with fail
          go_roundw
          case rel =>
            refine ⟨k + 1, j, cap', _, by omega, by go_num, rfl, Lib.hid (by have := hj.out; omega), hown, hbel, Lib.hid (fun q h1 h2 => ?_)⟩
            rcases Nat.lt_or_ge q k with h3 | h3
            · exact hz.out q h1 h3
            · have : q = k := by omega
              rw [this, Hc.out]; exact Hc0.out
          case measure => simp [intOf]; omega
        · have b2 : ((c : Int) != 0) = true := by rw [bne_iff_ne]; omega
          have hE : unpErr ws = 3 := by
            unfold unpErr
            rw [Hv.out, if_neg (by omega), if_neg (by have := H2.out; omega), if_neg]
            rintro ⟨_, hp⟩
            have := (padded_iff ws).1 hp k (by rw [Hv.out]; omega) (by omega)
            rw [Hc.out] at this
            exact hc0 this
          go_wp2_with fail
          go_ret2
          exact un_bad hE (by decide) rfl hbel
    · have hE : unpErr ws = 0 := by
        unfold unpErr
        rw [Hv.out, if_neg (by omega), if_neg (by have := H2.out; omega), if_pos]
        refine ⟨by have := H2.out; omega, (padded_iff ws).2 fun i h1 h2 => hz.out i (by rw [Hv.out] at h1; exact h1) (by omega)⟩
      have hjv : j = v := by have := hj.out; have := H2.out; omega
      have HE := Lib.hid hE
      have Hjv := Lib.hid hjv
      clear hE hjv
      go_wp2_with (go_at_call 20; refine (clip_any _ _ _ (cons_row hown).1 (cons_row hown).2 _).mono ?_; rintro e w' ⟨rfl, rfl⟩)
      go_ret2
      have hby : unpBytes ws = (List.range j).map (wbyte ws) := by unfold unpBytes; rw [if_pos HE.out, Hv.out, Hjv.out]
      have hlen : (unpBytes ws).length = j := by rw [hby]; simp
      refine ⟨A, j, ?_, ?_, hbel⟩
      · rw [hlen, HE.out]; rfl
      · rw [hlen, hby]; exact Reads.of_own hown
end Go.Proofs.Ytkkdcojgnpmpgaa
