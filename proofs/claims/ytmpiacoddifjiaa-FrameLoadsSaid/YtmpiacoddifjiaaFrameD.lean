/- The walk of Line. -/
import Derived.Test.YtmpiacoddifjiaaFrameC
import Derived.Deep.LoopGhost
import Derived.WalkMore
namespace Go.Proofs.Ytmpiacoddifjiaa
open Go.RowKit
set_option linter.unusedVariables false
/-- What Line answers where what is to be left out is gone: the text, whether there is one, the error; and what is left. -/
def lineS (l : List Nat) : List Nat := if lfi l = l.length then [] else if 256 < (trim (l.take (lfi l))).length then [] else trim (l.take (lfi l))
def lineO (l : List Nat) : Bool := if lfi l = l.length then false else decide ((trim (l.take (lfi l))).length ≤ 256)
def lineE (l : List Nat) : Nat := if lfi l = l.length then (if l.length < 258 then 0 else 2) else if 256 < (trim (l.take (lfi l))).length then 2 else 0
def Ln2 (B G : Nat) (L : List Nat) (e : Ending) (w' : World) : Prop :=
  e = .returned (.tuple #[.string (strB (lineS L)), .bool (lineO L), .int .i64 (lineE L : Nat)]) ∧
    (lfi L = L.length → L.length < 258 → Frm w' B G L 0 false) ∧
    (lfi L = L.length → 258 ≤ L.length → Frm w' B G [] 0 true) ∧
    (lfi L < L.length → Frm w' B G (L.drop (lfi L + 1)) 0 false)
def LnPost (B G : Nat) (l : List Nat) (s : Nat) (b : Bool) (w : World) (e : Ending) (w' : World) : Prop :=
  (str l s b = false → e = .returned (.tuple #[.string ⟨#[]⟩, .bool false, .int .i64 0]) ∧ Frm w' B G (stl l s b) (stn l s b) (stb l b)) ∧
  (str l s b = true → Ln2 B G (stl l s b) e w') ∧ Below B w w'
theorem str_true {l : List Nat} {s : Nat} {b : Bool} (h : str l s b = true) : stn l s b = 0 ∧ stb l b = false := by
  unfold str at h
  simp only [Bool.and_eq_true, Bool.not_eq_true', beq_iff_eq] at h
  exact ⟨h.2, h.1⟩
theorem drop_lt {l : List Nat} (hb : ∀ i, l.getD i 0 < 256) (k : Nat) : ∀ i, (l.drop k).getD i 0 < 256 := by
  intro i
  have := hb (k + i)
  simpa [List.getD] using this
theorem stl_lt {l : List Nat} (hb : ∀ i, l.getD i 0 < 256) (s : Nat) (b : Bool) : ∀ i, (stl l s b).getD i 0 < 256 := by
  unfold stl skp
  split
  · split
    · intro i; simp
    · exact drop_lt (drop_lt hb _) _
  · exact drop_lt hb _
theorem stl_len (l : List Nat) (s : Nat) (b : Bool) : (stl l s b).length ≤ l.length := by
  unfold stl skp
  split
  · split
    · simp
    · simp only [List.length_drop]; omega
  · simp only [List.length_drop]; omega
theorem lfi_at {L : List Nat} (h : lfi L < L.length) : L.getD (lfi L) 0 = 10 := by
  have := List.findIdx_getElem (xs := L) (p := fun x => x == 10) (w := h)
  simp only [beq_iff_eq] at this
  simp only [List.getD, List.getElem?_eq_getElem h, Option.getD_some]
  exact this
theorem lfi_before {L : List Nat} {k : Nat} (h : k < lfi L) : L.getD k 0 ≠ 10 := by
  have hl := lfi_le L
  have hk : k < L.length := by omega
  have := List.not_of_lt_findIdx (xs := L) (p := fun x => x == 10) h
  simp only [List.getD, List.getElem?_eq_getElem hk, Option.getD_some]
  simpa using this
theorem take_lt {l : List Nat} (hb : ∀ i, l.getD i 0 < 256) (k : Nat) : ∀ i, (l.take k).getD i 0 < 256 := by
  intro i
  have := hb i
  simp only [List.getD, List.getElem?_take] at *
  split
  · exact this
  · simp
theorem Ints_take (k : IntKind) (l : List Nat) (j : Nat) : (Ints k l).take j = Ints k (l.take j) := by simp [Ints, List.map_take]
theorem Reads.take_ {w : World} {B n k : Nat} {A : Option Addr} {xs : List Value} (h : Reads w B 1 A n xs) (hk : k ≤ n) : Reads w B 1 A k (xs.take k) := by
  refine ⟨by rw [List.length_take, h.1]; omega, fun hp => ?_⟩
  obtain ⟨ad, e, hb, hc⟩ := h.2 (by omega)
  refine ⟨ad, e, hb, fun j u hu => hc j u ?_⟩
  rw [List.getElem?_take] at hu
  split at hu
  · exact hu
  · cases hu
theorem trim_take (l : List Nat) : trim l = l.take (trim l).length := by
  rw [trim_len]
  unfold trim
  split
  · rw [List.dropLast_eq_take]
  · rw [List.take_length]
theorem trim_le (l : List Nat) : (trim l).length ≤ l.length := by rw [trim_len]; split <;> omega
theorem trim_lt {l : List Nat} (hb : ∀ i, l.getD i 0 < 256) : ∀ i, (trim l).getD i 0 < 256 := by rw [trim_take]; exact take_lt hb _
theorem trim_reads {w : World} {B n : Nat} {A : Option Addr} {l : List Nat} (h : Reads w B 1 A n (Ints .u8 l)) : Reads w B 1 A (trim l).length (Ints .u8 (trim l)) := by
  have hn : l.length = n := by have := h.1; rw [Ints_length] at this; omega
  have := h.take_ (k := (trim l).length) (by rw [← hn]; exact trim_le l)
  rw [Ints_take, ← trim_take] at this
  exact this
theorem strB_size (l : List Nat) : (strB l).size = l.length := by simp [strB, ByteArray.size]
theorem Frm.alloc {w : World} {B G : Nat} {l : List Nat} {s : Nat} {b : Bool} (h : Frm w B G l s b) (o : Obj) : Frm (w.alloc o) B G l s b := by
  obtain ⟨hBG, A, n, c, hn, hblk, hown⟩ := h
  exact ⟨hBG, A, n, c, hn, hblk.alloc o, hown.alloc o⟩
set_option maxRecDepth 100000 in
set_option maxHeartbeats 2000000 in
theorem line_any (B G : Nat) (l : List Nat) (s : Nat) (b : Bool) (w : World) (hb : ∀ i, l.getD i 0 < 256) (hl : l.length ≤ 10000000) (hs : s ≤ 9223372036854775807) (hB : B ≤ w.heap.size) (hf : Frm w B G l s b) :
    Calls Try.prog 12 #[.pointer (some ⟨G, 0, none⟩)] w (LnPost B G l s b w) := by
  cases hst : str l s b
  · have Hst := Lib.hid hst
    have Hf := Lib.hid hf
    clear hf
    go_enter Try.func12, Try.ntmps12
    go_wp2_with fail
    go_step3
    go_wp2_with fail
    refine (settle_any B G l s b w hb hl hs hB Hf.out).mono ?_
    rintro e w1 ⟨rfl, hf1, hb1⟩
    rw [Hst.out]
    have Hf1 := Lib.hid hf1
    have Hb1 := Lib.hid hb1
    clear hf1 hb1
    go_wp2_with fail
    rw [Exit.noGoto_ret]
    go_ret3
    exact ⟨fun _ => ⟨rfl, Hf1.out⟩, fun h => by rw [Hst.out] at h; exact absurd h (by decide), Hb1.out⟩
  · have Hst := Lib.hid hst
    have Hf := Lib.hid hf
    clear hf
    go_enter Try.func12, Try.ntmps12
    go_wp2_with fail
    go_step3
    go_wp2_with fail
    refine (settle_any B G l s b w hb hl hs hB Hf.out).mono ?_
    rintro e w1 ⟨rfl, hf1, hb1⟩
    rw [Hst.out]
    obtain ⟨s0, b0⟩ := str_true Hst.out
    rw [s0, b0] at hf1
    have hLb := stl_lt hb s b
    have hLl : (stl l s b).length ≤ 10000000 := Nat.le_trans (stl_len l s b) hl
    have Hb1 := Lib.hid hb1
    have fin : ∀ (e : Ending) (w' : World), (Ln2 B G (stl l s b) e w' ∧ Below B w w') → LnPost B G l s b w e w' := fun e w' h =>
      ⟨fun h' => by rw [Hst.out] at h'; exact absurd h' (by decide), fun _ => h.1, h.2⟩
    have Fin := Lib.hid fin
    clear fin hb1 s0 b0
    generalize stl l s b = L at *
    have Hf1 := Lib.hid hf1
    obtain ⟨hBG, A, n, c, hn, hblk, hown⟩ := hf1
    subst hn
    have h0 := hblk.cell 0
    simp only [List.getElem?_toArray, List.getElem?_cons_zero] at h0
    have hcap := cons_row hown
    have Hr := Lib.hid (Reads.of_own hown)
    have hfz2 := hblk.frozen 2
    have h2 := hblk.cell 2
    simp only [List.getElem?_toArray, List.getElem?_cons_zero, List.getElem?_cons_succ] at h2
    have hsz := Hb1.out.size
    have hc2 : c ≤ 9223372036854775807 := by have := hcap.2; unfold maxLen at this; omega
    have hlf := lfi_le L
    clear hblk hown
    go_wp2_with fail
    go_step3
    go_wp2_with fail
    go_loop [5] (fun i => ∃ k : Nat, k ≤ lfi L ∧ i = .int .i64 k) (fun i => L.length + 1 - (intOf i).toNat)
    case atStart => exact ⟨0, by omega, rfl⟩
    case round =>
      obtain ⟨k, hk, rfl⟩ := hrel
      by_cases hlt : k < L.length
      · obtain ⟨ad, hA, hx, hcx⟩ := Reads.ints_at Hr.out k hlt
        subst hA
        by_cases hkk : k = lfi L
        · have h10 : L.getD k 0 = 10 := by rw [hkk]; exact lfi_at (by omega)
          rw [h10] at hcx
          have Hkk := Lib.hid hkk
          have Hlt := Lib.hid hlt
          clear hkk h10
          go_wp2_with fail
          have hB1 : B ≤ w1.heap.size := by omega
          have hrt : Reads (w1.alloc (.cells #[.int .u8 13] 5)) (w1.alloc (.cells #[.int .u8 13] 5)).heap.size 1 (some ad) k (Ints .u8 (L.take k)) := by
            have := ((Hr.out.take_ (show k ≤ L.length by omega)).alloc (Nat.le_refl _) (.cells #[.int .u8 13] 5)).more (B' := (w1.alloc (.cells #[.int .u8 13] 5)).heap.size) (by simp)
            rw [Ints_take] at this
            exact this
          have hrs : Reads (w1.alloc (.cells #[.int .u8 13] 5)) (w1.alloc (.cells #[.int .u8 13] 5)).heap.size 1 (some ⟨w1.heap.size, 0, none⟩) 1 (Ints .u8 [13]) := blk_reads (Blk.new w1 5 _) rfl
          have htl : (L.take k).length = k := by rw [List.length_take]; omega
          have htb := take_lt hLb k
          have hcx2 : k ≤ c := by omega
          have Hcap := Lib.hid hcap
          refine (trim_any (some ad) _ k c 1 (L.take k) _ htl (by omega) hcx2 hcap.2 htb hrt hrs).mono ?_
          rintro e w2 ⟨rfl, rfl⟩
          have htrl := trim_le (L.take k)
          have hcv := conv_reads (P := Try.prog) 26 5 9 Try.underlying26 Try.underlying5 Try.underlying9 (trim (L.take k)) c (trim_reads hrt) (trim_lt htb)
          have hfA := Hf1.out.alloc (.cells #[.int .u8 13] 5)
          have hbA : Below B w (w1.alloc (.cells #[.int .u8 13] 5)) := Hb1.out.alloc hB1 _
          have Hta := Lib.hid (show lineS L = (if 256 < (trim (L.take k)).length then [] else trim (L.take k)) by rw [Hkk.out]; unfold lineS; rw [if_neg (by have := Hlt.out; have := Hkk.out; omega)])
          have Hto := Lib.hid (show lineO L = decide ((trim (L.take k)).length ≤ 256) by rw [Hkk.out]; unfold lineO; rw [if_neg (by have := Hlt.out; have := Hkk.out; omega)])
          have Hte := Lib.hid (show lineE L = (if 256 < (trim (L.take k)).length then 2 else 0) by rw [Hkk.out]; unfold lineE; rw [if_neg (by have := Hlt.out; have := Hkk.out; omega)])
          have hsz3 := strB_size (trim (L.take k))
          generalize trim (L.take k) = T at *
          clear hrt hrs htl htb
          go_wp2_with fail
          clear hcv
          refine (drop_any B G (k + 1) L 0 false _ (by have := Hlt.out; omega) hLl (by simp; omega) hfA).mono ?_
          rintro e w3 ⟨rfl, hf3, hb3⟩
          have Hf3 := Lib.hid hf3
          have Hb3 := Lib.hid (hbA.trans hb3)
          have Hsz3 := Lib.hid hsz3
          clear hf3 hb3 hfA hbA hsz3 hcx h0 h2 hfz2
          generalize hS : strB T = S at *
          have HS := Lib.hid hS
          clear hS
          by_cases h256 : 256 < S.size
          · go_wp2_with fail
            try rw [Exit.noGoto_ret]
            go_ret3
            refine Fin.out _ _ ⟨⟨?_, fun h => by have := Hlt.out; have := Hkk.out; omega, fun h => by have := Hlt.out; have := Hkk.out; omega, fun _ => by rw [← Hkk.out]; exact Hf3.out⟩, Hb3.out⟩
            rw [Hta.out, Hto.out, Hte.out, if_pos (by have := Hsz3.out; omega), if_pos (by have := Hsz3.out; omega), decide_eq_false (p := T.length ≤ 256) (by have := Hsz3.out; omega)]
            rfl
          · go_wp2_with fail
            try rw [Exit.noGoto_ret]
            go_ret3
            refine Fin.out _ _ ⟨⟨?_, fun h => by have := Hlt.out; have := Hkk.out; omega, fun h => by have := Hlt.out; have := Hkk.out; omega, fun _ => by rw [← Hkk.out]; exact Hf3.out⟩, Hb3.out⟩
            rw [Hta.out, Hto.out, Hte.out, if_neg (by have := Hsz3.out; omega), if_neg (by have := Hsz3.out; omega), decide_eq_true (p := T.length ≤ 256) (by have := Hsz3.out; omega), HS.out]
            rfl
        · have h10 : ((L.getD k 0 : Nat) : Int) ≠ 10 := by
            have := lfi_before (show k < lfi L by omega)
            omega
          generalize L.getD k 0 = v at *
          have h11 : ((v : Int) == 10) = false := by rw [beq_eq_false_iff_ne]; exact h10
          clear h10
          go_wp2_with fail
          go_round
          case rel => exact ⟨k + 1, by omega, by go_num⟩
          case measure => simp [intOf]; omega
      · have hkk : k = L.length := by omega
        have hkl : lfi L = L.length := by omega
        have Hkl := Lib.hid hkl
        clear hkl
        subst hkk
        by_cases h258 : L.length < 258
        · go_wp2_with fail
          try rw [Exit.noGoto_ret]
          go_ret3
          refine Fin.out _ _ ⟨⟨?_, fun _ _ => Hf1.out, fun _ h => by omega, fun h => by have := Hkl.out; omega⟩, Hb1.out⟩
          simp only [lineS, lineO, lineE, if_pos Hkl.out, if_pos h258]
          rfl
        · go_wp2_with fail
          have hf2 := Hf1.out.long true
          have hb2 : Below B w (w1.setCell ⟨G, 2, none⟩ (.bool true)) := Hb1.out.setCell hBG _
          generalize hW : w1.setCell ⟨G, 2, none⟩ (.bool true) = w2 at *
          clear hW
          refine (settle_any B G L 0 true w2 hLb hLl (by decide) (by have := hb2.size; omega) hf2).mono ?_
          rintro e w3 ⟨rfl, hf3, hb3⟩
          have Hf3 := Lib.hid hf3
          have Hb3 := Lib.hid (hb2.trans hb3)
          clear hf3 hb3 hf2 hb2
          go_wp2_with fail
          try rw [Exit.noGoto_ret]
          go_ret3
          refine Fin.out _ _ ⟨⟨?_, fun _ h => by omega, fun _ _ => ?_, fun h => by have := Hkl.out; omega⟩, Hb3.out⟩
          · simp only [lineS, lineO, lineE, if_pos Hkl.out, if_neg h258]
            rfl
          · have := Hf3.out
            simp only [stl, stn, stb, if_true, Hkl.out, beq_self_eq_true, Bool.and_self] at this
            exact this
end Go.Proofs.Ytmpiacoddifjiaa
