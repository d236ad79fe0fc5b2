/- The walk of the document's Unpack: the same bytes and the same error as words.Unpack. -/
import Derived.Test.YtkkdcojgnpmpgaaWordsE
namespace Go.Proofs.Ytkkdcojgnpmpgaa
open Go.RowKit
set_option linter.unusedVariables false

def zarr (ws : List Nat) (n k : Nat) : Array Value := (Ints .u8 ((List.range n).map fun i => if i < k then wbyte ws i else 0)).toArray
theorem zarr_start (ws : List Nat) (n : Nat) : madeCells #[.int .u8 0] n = zarr ws n 0 := by
  apply Array.ext'
  rw [toList_madeCells_one]
  unfold zarr
  apply List.ext_getElem
  · simp [Ints]
  · intro i h1 h2
    simp [Ints]
theorem zarr_set (ws : List Nat) (n k : Nat) (hk : k < n) : (zarr ws n k).setIfInBounds k (.int .u8 ((wbyte ws k : Nat) : Int)) = zarr ws n (k + 1) := by
  unfold zarr
  rw [Ints_set]
  congr 2
  apply List.ext_getElem
  · simp
  · intro i h1 h2
    simp only [List.getElem_set, List.getElem_map, List.getElem_range]
    by_cases h : k = i
    · subst h; simp
    · rw [if_neg h]
      by_cases h3 : i < k
      · rw [if_pos h3, if_pos (by omega)]
      · rw [if_neg h3, if_neg (by omega)]
theorem zarr_cell (ws : List Nat) (n k i : Nat) (hi : i < n) : (zarr ws n k)[i]? = some (.int .u8 ((if i < k then wbyte ws i else 0 : Nat) : Int)) := by
  unfold zarr
  rw [List.getElem?_toArray, Ints_get _ _ _ (by simp [hi])]
  simp [List.getD, hi]
def RUnPost (ws : List Nat) (w : World) (e : Ending) (w' : World) : Prop :=
  e = .returned (.tuple #[.string (strB (unpBytes ws)), .int .i64 (unpErr ws : Nat)]) ∧ Below w.heap.size w w'
theorem run_bad {ws : List Nat} {w w' : World} {E : Nat} (hE : unpErr ws = E) (h0 : E ≠ 0) {e : Ending} (he : e = .returned (.tuple #[.string ⟨#[]⟩, .int .i64 (E : Int)])) (hb : Below w.heap.size w w') : RUnPost ws w e w' := by
  have hnil := unp_bad ws (by omega)
  refine ⟨?_, hb⟩
  rw [hnil, hE]; exact he

set_option maxRecDepth 100000 in
set_option maxHeartbeats 2000000 in
theorem runpack_any (A : Option Addr) (m cap : Nat) (ws : List Nat) (w : World) (hl : ws.length = m) (hm : m ≤ 10000) (hw : ∀ i, ws.getD i 0 < 18446744073709551616) (hr : Reads w w.heap.size 1 A m (Ints .u64 ws)) :
    Calls Try.prog 10 #[.slice A m cap] w (RUnPost ws w) := by
  obtain ⟨i0, hi, hz0, hz1, hz2⟩ := info_parts info5
  have Hw := Lib.hid (hw 0)
  clear hw
  by_cases h0 : m = 0
  · subst h0
    have hE : unpErr ws = 4 := by unfold unpErr; rw [if_neg (by omega), if_pos (by omega)]
    go_enter Try.func10, Try.ntmps10
    go_wp2_with fail
    go_ret2
    exact run_bad hE (by decide) rfl (Below.refl _ _)
  · obtain ⟨x, rfl, hx, hcx⟩ := Reads.ints_at (by rw [hl]; exact hr) 0 (by omega : 0 < ws.length)
    have e0 : x.add 0 = x := by unfold Addr.add; simp
    rw [e0] at hcx
    have Hr := Lib.hid hr
    generalize hv : ws.getD 0 0 = v at *
    have Hv := Lib.hid hv
    clear hv e0 hr
    have m0 : (0 : Int) < (m : Int) := by omega
    have m1 : ((m : Int) == 0) = false := by rw [beq_eq_false_iff_ne]; omega
    by_cases h1 : 65536 < v
    · have hE : unpErr ws = 3 := by unfold unpErr; rw [if_pos (by rw [Hv.out]; omega)]
      have v1 : (65536 : Int) < (v : Int) := by omega
      go_enter Try.func10, Try.ntmps10
      go_wp2_with fail
      go_ret2
      exact run_bad hE (by decide) rfl (Below.refl _ _)
    · have v1 : (v : Int) ≤ 65536 := by omega
      by_cases h2 : m < 1 + (v + 7) / 8
      · have hE : unpErr ws = 4 := by unfold unpErr; rw [Hv.out, if_neg (by omega), if_pos (by omega)]
        have v2 : (m : Int) < 1 + ((v : Int) + 7) / 8 := by omega
        go_enter Try.func10, Try.ntmps10
        go_wp2_with fail
        go_ret2
        exact run_bad hE (by decide) rfl (Below.refl _ _)
      · have v2 : 1 + ((v : Int) + 7) / 8 ≤ (m : Int) := by omega
        obtain ⟨t, ht⟩ : ∃ t, t = 8 * ((v + 7) / 8) := ⟨_, rfl⟩
        have hmk : ∀ W : World, (Instr.makeSlice 22 (.int .i64 (8 * (1 + ((v : Int) + 7) / 8 - 1))) (.int .i64 (8 * (1 + ((v : Int) + 7) / 8 - 1)))).run Try.prog W = .ok (.slice (some ⟨W.heap.size, 0, none⟩) t t) (W.alloc (.cells (zarr ws t 0) 5)) := by
          intro W
          have h := run_make_rowN 22 5 i0 (.int .u8 0) Try.underlying22 hi hz0 .i64 .i64 t t (Nat.le_refl _) (by rw [hz2]; omega) (by omega) W
          have e : ((t : Nat) : Int) = 8 * (1 + ((v : Int) + 7) / 8 - 1) := by omega
          rw [e, hz1, Nat.mul_one] at h
          rw [← zarr_start]
          exact h
        have Ht := Lib.hid ht
        have ht2 : t ≤ 70000 := by omega
        clear ht
        go_enter Try.func10, Try.ntmps10
        go_wp2_with fail
        go_loopw [7] (fun i wr => ∃ k : Nat, k ≤ t ∧ i = .int .i64 k ∧ Blk wr w.heap.size 5 (zarr ws t k) ∧ Below w.heap.size w wr ∧ Hid (∀ q, v ≤ q → q < k → wbyte ws q = 0)) (fun i _ => t - (intOf i).toNat)
        case atStart => exact ⟨0, by omega, rfl, Blk.new w 5 _, (Below.refl _ _).alloc (Nat.le_refl _) _, Lib.hid (fun q _ h => by omega)⟩
        case round =>
          obtain ⟨k, hk, rfl, hblk, hbel, hz⟩ := hrel
          clear hcx hmk
          by_cases hlt : k < t
          · have hkm : 1 + k / 8 < ws.length := by have := Ht.out; omega
            obtain ⟨x', hx', hxb, hck0⟩ := Reads.ints_at (by rw [hl]; exact Hr.out) (1 + k / 8) hkm
            injection hx' with hx'
            subst hx'
            have hck : wr.cell? (x.add (1 + k / 8)) = some (.int .u64 ((ws.getD (1 + k / 8) 0 : Nat) : Int)) := by rw [hbel.cell (by rw [block_of_add]; exact hxb)]; exact hck0
            have hby := wbyte_word ws k
            generalize ws.getD (1 + k / 8) 0 = u at *
            obtain ⟨c, hc⟩ : ∃ c, wbyte ws k = c := ⟨_, rfl⟩
            rw [hc] at hby
            have Hc := Lib.hid hc
            have hc256 : c < 256 := by rw [← hc]; exact wbyte_lt _ _
            have hbc : wr.cell? ⟨w.heap.size, k, none⟩ = some (.int .u8 ((if k < k then wbyte ws k else 0 : Nat) : Int)) := by rw [hblk.cell]; exact zarr_cell ws t k k hlt
            rw [if_neg (by omega)] at hbc
            have hbf := hblk.frozen k
            have hblk2 := hblk.set_ k (.int .u8 (c : Int))
            rw [← hc, zarr_set ws t k hlt, hc] at hblk2
            have Hblk2 := Lib.hid hblk2
            have Hblk := Lib.hid hblk
            clear hck0 hc hblk2 hblk
            have a1 : (0 : Int) ≤ 1 + (k : Int) / 8 := by omega
            have a2 : 1 + (k : Int) / 8 < (m : Int) := by omega
            have a3 : (k : Int) < (t : Int) := by omega
            by_cases hkv : k < v
            · have b1 : ¬ (v : Int) ≤ (k : Int) := by omega
              go_wp2_with fail
              go_roundw
              case rel => exact ⟨k + 1, by omega, by go_num, Hblk2.out, hbel.setCell (Nat.le_refl _) _, Lib.hid (fun q h1 h2 => by omega)⟩
              case measure => simp [intOf]; omega
            · have b1 : (v : Int) ≤ (k : Int) := by omega
              by_cases hc0 : c = 0
              · have b2 : ((c : Int) != 0) = false := by rw [bne_eq_false_iff_eq]; omega
                have Hc0 := Lib.hid hc0
                clear hc0
                go_wp2_with fail
                go_roundw
                case rel =>
                  refine ⟨k + 1, by omega, by go_num, Hblk2.out, hbel.setCell (Nat.le_refl _) _, Lib.hid (fun q h1 h2 => ?_)⟩
                  rcases Nat.lt_or_ge q k with h3 | h3
                  · exact hz.out q h1 h3
                  · have : q = k := by omega
                    rw [this, Hc.out]; exact Hc0.out
                case measure => simp [intOf]; omega
              · have b2 : ((c : Int) != 0) = true := by rw [bne_iff_ne]; omega
                have hE : unpErr ws = 3 := by
                  unfold unpErr
                  rw [Hv.out, if_neg (by omega), if_neg (by omega), if_neg]
                  rintro ⟨hm1, hp⟩
                  have := (padded_iff ws).1 hp k (by rw [Hv.out]; omega) (by have := Ht.out; omega)
                  rw [Hc.out] at this
                  exact hc0 this
                go_wp2_with fail
                go_ret2
                exact run_bad hE (by decide) rfl (hbel.setCell (Nat.le_refl _) _)
          · have hkt : k = t := by omega
            have Hkt := Lib.hid hkt
            clear hkt
            by_cases hm2 : m = 1 + (v + 7) / 8
            · have hE : unpErr ws = 0 := by
                unfold unpErr
                rw [Hv.out, if_neg (by omega), if_neg (by omega), if_pos]
                refine ⟨by omega, (padded_iff ws).2 fun i h1 h2 => hz.out i (by rw [Hv.out] at h1; exact h1) (by have := Ht.out; have := Hkt.out; omega)⟩
              have HE := Lib.hid hE
              have v3 : ¬ (1 + ((v : Int) + 7) / 8) < (m : Int) := by omega
              have Hm2 := Lib.hid hm2
              clear hE hm2
              have hby : unpBytes ws = (List.range v).map (wbyte ws) := by unfold unpBytes; rw [if_pos HE.out, Hv.out]
              have hrd : Reads wr wr.heap.size 1 (some ⟨w.heap.size, 0, none⟩) v (Ints .u8 (unpBytes ws)) := by
                rw [hby]
                refine ⟨by simp [Ints], fun _ => ⟨_, rfl, hblk.lt, fun j u hu => ?_⟩⟩
                have hj : j < v := by have := (List.getElem?_eq_some_iff.1 hu).1; simpa [Ints] using this
                have e0 : (⟨w.heap.size, 0, none⟩ : Addr).add j = ⟨w.heap.size, j, none⟩ := by unfold Addr.add; split <;> simp_all
                rw [e0, hblk.cell, zarr_cell ws t k j (by have := Ht.out; omega), if_pos (by have := Ht.out; have := Hkt.out; omega)]
                rw [Ints_get _ _ _ (by simpa using hj)] at hu
                rw [← hu]
                simp [List.getD, hj]
              have hcv := conv_reads (P := Try.prog) 22 5 9 Try.underlying22 Try.underlying5 Try.underlying9 (unpBytes ws) t hrd (unpBytes_lt ws)
              have v4 : v ≤ t := by have := Ht.out; omega
              clear hrd hblk hby
              go_wp2_with fail
              go_ret2
              exact ⟨by rw [HE.out]; rfl, hbel⟩
            · have hE : unpErr ws = 3 := by
                unfold unpErr
                rw [Hv.out, if_neg (by omega), if_neg (by omega), if_neg]
                rintro ⟨hm1, _⟩
                omega
              have v3 : 1 + ((v : Int) + 7) / 8 < (m : Int) := by omega
              go_wp2_with fail
              go_ret2
              exact run_bad hE (by decide) rfl hbel
theorem unpack_any (A : Option Addr) (m cap : Nat) (ws : List Nat) (w : World) (hl : ws.length = m) (hm : m ≤ 10000) (hw : ∀ i, ws.getD i 0 < 18446744073709551616) (hr : Reads w w.heap.size 1 A m (Ints .u64 ws)) :
    Calls Try.prog 9 #[.slice A m cap] w (UnPost ws w) := by
  cases h : goodLen ws
  · exact unpack_bad A m cap ws w hl hm hw hr h
  · exact unpack_good A m cap ws w hl hm hw hr h
theorem packed_length (l : List Nat) : (packed l).length = 1 + (l.length + 7) / 8 := by unfold packed; rw [pkList_length]; omega
theorem packed_zero (l : List Nat) : (packed l).getD 0 0 = l.length := pkList_zero _ _ _
theorem packed_byte (l : List Nat) (hb : ∀ i, l.getD i 0 < 256) (i : Nat) (hi : i < 8 * ((l.length + 7) / 8)) : wbyte (packed l) i = l.getD i 0 := by
  unfold wbyte packed
  rw [pkList_succ _ _ _ _ (by omega)]
  have e : 8 * (i / 8) + i % 8 = i := by omega
  rcases Nat.lt_or_ge i l.length with h | h
  · have := pkw_byte l hb l.length (i / 8) (i % 8) (Nat.mod_lt _ (by decide)) (by omega)
    rw [e] at this
    exact this
  · have := pkw_byte_end l hb l.length (i / 8) (i % 8) (Nat.mod_lt _ (by decide)) (by omega)
    rw [this]
    simp [List.getD, h]
theorem packed_err (l : List Nat) (hb : ∀ i, l.getD i 0 < 256) (hn : l.length ≤ 65536) : unpErr (packed l) = 0 := by
  unfold unpErr
  rw [packed_zero, packed_length, if_neg (by omega), if_neg (by omega), if_pos]
  refine ⟨rfl, (padded_iff _).2 fun i h1 h2 => ?_⟩
  rw [packed_zero] at h1
  rw [packed_length] at h2
  rw [packed_byte l hb i (by omega)]
  simp [List.getD, h1]
theorem packed_bytes (l : List Nat) (hb : ∀ i, l.getD i 0 < 256) (hn : l.length ≤ 65536) : unpBytes (packed l) = l := by
  unfold unpBytes
  rw [if_pos (packed_err l hb hn), packed_zero]
  apply List.ext_getElem
  · simp
  · intro i h1 h2
    simp only [List.getElem_map, List.getElem_range]
    rw [packed_byte l hb i (by omega)]
    simp [List.getD, h2]
theorem packed_u64 (l : List Nat) (hb : ∀ i, l.getD i 0 < 256) (hn : l.length ≤ 65536) : ∀ i, (packed l).getD i 0 < 18446744073709551616 := by
  intro i
  rcases Nat.eq_zero_or_pos i with rfl | h0
  · rw [packed_zero]; omega
  · obtain ⟨j, rfl⟩ : ∃ j, i = 1 + j := ⟨i - 1, by omega⟩
    rcases Nat.lt_or_ge j ((l.length + 7) / 8) with h | h
    · unfold packed
      rw [pkList_succ _ _ _ _ h]
      exact pkw_u64 l hb _ _
    · have : (packed l).length ≤ 1 + j := by rw [packed_length]; omega
      simp [List.getD, this]
end Go.Proofs.Ytkkdcojgnpmpgaa
