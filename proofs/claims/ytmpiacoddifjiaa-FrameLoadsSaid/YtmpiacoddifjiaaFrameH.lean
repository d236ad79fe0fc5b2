/- The walk of Payload where nothing is to be left out. -/
import Derived.Test.YtmpiacoddifjiaaFrameG
namespace Go.Proofs.Ytmpiacoddifjiaa
open Go.RowKit
set_option linter.unusedVariables false
theorem Frm.below {w w' : World} {B G : Nat} {l : List Nat} {s : Nat} {b : Bool} (h : Frm w B G l s b) (hb : Below w.heap.size w w') : Frm w' B G l s b := by
  obtain ⟨hBG, A, n, c, hn, hblk, hown⟩ := h
  refine ⟨hBG, A, n, c, hn, hblk.below hb hblk.lt, hown.kept (row := none) ⟨hb.os, hb.tape, hb.output, hb.size, fun q hq _ => hb.block q hq⟩ ?_⟩
  cases A with
  | none => exact .inl rfl
  | some a => exact .inr (by intro h; cases h)
set_option maxRecDepth 100000 in
set_option maxHeartbeats 1000000 in
theorem drop2_any (B G k : Nat) (l : List Nat) (s : Nat) (b : Bool) (w : World) (hk : k ≤ l.length) (hl : l.length ≤ 10000000) (hB : B ≤ w.heap.size) (hf : Frm w B G l s b) :
    Calls Try.prog 19 #[.pointer (some ⟨G, 0, none⟩), .int .i64 (k : Int)] w (fun e w' => DropPost B G (l.drop k) s b w e w' ∧ ∀ q, q < w.heap.size → q ≠ G → w'.heap[q]? = w.heap[q]?) := by
  obtain ⟨hBG, A, n, c, hn, hblk, hown⟩ := hf
  subst hn
  have hcap := cons_row hown
  have h1 := hblk.cell 0
  have hfz := hblk.frozen 0
  simp at h1
  have hr := (Reads.of_own hown).cut (cap := c) hk hcap.1
  have e1 : (Ints .u8 l).drop (k * 1) = Ints .u8 (l.drop k) := by simp [Ints]
  rw [e1] at hr
  have hG : G < w.heap.size := hblk.lt
  by_cases hck : c = k
  · rw [if_pos hck] at hr
    have hr2 := Lib.hid hr
    have Hown := Lib.hid hown
    have Hblk := Lib.hid hblk
    subst hck
    clear hown hblk hr
    go_enter Try.func19, Try.ntmps19
    go_wp2_with fail
    refine (clone_any A 0 0 (l.drop c) B w (by omega) hB (by have := hr2.out; rw [show l.length - c = 0 from by omega] at this; exact this)).mono ?_
    rintro e w1 ⟨A1, c1, rfl, hown1, hbel1⟩
    obtain ⟨h2, h3, fin⟩ := drop_fin hB hBG hG Hblk.out hown1 hbel1
    have Hfin := Lib.hid fin
    have Hbel := Lib.hid hbel1
    clear fin hown1 hbel1
    go_wp2_with fail
    go_end0
    exact ⟨⟨rfl, Hfin.out⟩, fun q hq hne => (Below.heap_setCell _ _ _ _ (fun e => hne (by rw [e]))).trans (Hbel.out.block q hq)⟩
  · rw [if_neg hck] at hr
    have hr2 := Lib.hid hr
    have Hblk := Lib.hid hblk
    clear hown hblk hr
    go_enter Try.func19, Try.ntmps19
    go_wp2_with fail
    refine (clone_any _ (l.length - k) (c - k) (l.drop k) B w (by omega) hB (by have := hr2.out; simpa using this)).mono ?_
    rintro e w1 ⟨A1, c1, rfl, hown1, hbel1⟩
    obtain ⟨h2, h3, fin⟩ := drop_fin hB hBG hG Hblk.out hown1 hbel1
    have Hfin := Lib.hid fin
    have Hbel := Lib.hid hbel1
    clear fin hown1 hbel1
    go_wp2_with fail
    go_end0
    exact ⟨⟨rfl, Hfin.out⟩, fun q hq hne => (Below.heap_setCell _ _ _ _ (fun e => hne (by rw [e]))).trans (Hbel.out.block q hq)⟩
theorem pl_reads {w w' : World} {B G n c t : Nat} {A : Option Addr} {xs : List Value} {cs : Array Value} (h : w.ownsRow B 5 1 (.slice A n c) n xs) (hb : Blk w G t cs) (hne : 5 ≠ t) (hs : w.heap.size ≤ w'.heap.size) (hk : ∀ q, q < w.heap.size → q ≠ G → w'.heap[q]? = w.heap[q]?) : Reads w' w'.heap.size 1 A n xs := by
  have hn := own_blk_ne h hb hne
  have hr := Reads.of_own h
  refine ⟨hr.1, fun h0 => ?_⟩
  obtain ⟨ad, e, hlt, hc⟩ := hr.2 h0
  refine ⟨ad, e, by omega, fun j u hu => ?_⟩
  rw [← hc j u hu]
  refine World.cell?_of_block ?_
  rw [block_of_add]
  refine hk _ hlt (fun hg => hn ?_)
  subst e
  rw [← hg]; rfl
set_option maxHeartbeats 400000 in
theorem clip_any (A : Option Addr) (n cap : Nat) (hc : n ≤ cap) (hm : cap ≤ maxLen) (w : World) :
    Calls Try.prog 20 #[.slice A n cap] w fun e w' => e = .returned (.slice A n n) ∧ w = w' := by
  unfold maxLen at hm
  go_enter Try.func20, Try.ntmps20
  go_wp2_with fail
  go_ret
  exact ⟨rfl, rfl⟩
theorem settle0 (B G : Nat) (l : List Nat) (w : World) (hb : ∀ i, l.getD i 0 < 256) (hl : l.length ≤ 10000000) (hB : B ≤ w.heap.size) (hf : Frm w B G l 0 false) :
    Calls Try.prog 17 #[.pointer (some ⟨G, 0, none⟩)] w fun e w' => e = .returned (.bool true) ∧ Frm w' B G l 0 false ∧ Below B w w' := by
  refine (settle_any B G l 0 false w hb hl (by decide) hB hf).mono ?_
  rintro e w' ⟨h1, h2, h3⟩
  have e1 : stl l 0 false = l := by simp [stl, skp]
  have e2 : stn l 0 false = 0 := by simp [stn, skn]
  have e3 : str l 0 false = true := by simp [str, stb, stn, skn]
  rw [e1, e2] at h2
  rw [e3] at h1
  exact ⟨h1, h2, h3⟩
/-- What Payload answers: too little waits; or the payload, and what is left behind it. -/
def PlNo (B G : Nat) (l : List Nat) (w : World) (e : Ending) (w' : World) : Prop :=
  e = .returned (.tuple #[.slice none 0 0, .bool false]) ∧ Frm w' B G l 0 false ∧ Below B w w'
def plRest (k : Nat) (l : List Nat) : List Nat := if l.getD k 0 = 10 then l.drop (k + 1) else l.drop k
def PlYes (B G k : Nat) (l : List Nat) (w : World) (e : Ending) (w' : World) : Prop :=
  ∃ A, e = .returned (.tuple #[.slice A k k, .bool true]) ∧ Reads w' w'.heap.size 1 A k (Ints .u8 (l.take k)) ∧ Frm w' B G (plRest k l) 0 false ∧ Below B w w'
set_option maxRecDepth 100000 in
set_option maxHeartbeats 2000000 in
theorem payload_no (B G k : Nat) (l : List Nat) (w : World) (hb : ∀ i, l.getD i 0 < 256) (hk : k ≤ 1000000) (hl : l.length ≤ 10000000) (hB : B ≤ w.heap.size) (hf : Frm w B G l 0 false) (hle : l.length ≤ k) :
    Calls Try.prog 16 #[.pointer (some ⟨G, 0, none⟩), .int .i64 (k : Int)] w (PlNo B G l w) := by
  have e0 : (max (k : Int) 0) = (k : Int) := by omega
  have h1 : ((l.length : Int) - 1) < (k : Int) := by omega
  go_enter Try.func16, Try.ntmps16
  go_wp2_with fail
  refine (settle0 B G l w hb hl hB hf).mono ?_
  rintro e w1 ⟨rfl, hf1, hb1⟩
  have Hf1 := Lib.hid hf1
  have Hb1 := Lib.hid hb1
  obtain ⟨hBG, A, n, c, hn, hblk, hown⟩ := hf1
  subst hn
  have h0 := hblk.cell 0
  simp only [List.getElem?_toArray, List.getElem?_cons_zero] at h0
  clear hblk hown hb1
  go_wp2_with fail
  go_ret2
  exact ⟨rfl, Hf1.out, Hb1.out⟩
set_option maxRecDepth 100000 in
set_option maxHeartbeats 2000000 in
theorem payload_yes (B G k : Nat) (l : List Nat) (w : World) (hb : ∀ i, l.getD i 0 < 256) (hk : k ≤ 1000000) (hl : l.length ≤ 10000000) (hB : B ≤ w.heap.size) (hf : Frm w B G l 0 false) (hle : k < l.length) :
    Calls Try.prog 16 #[.pointer (some ⟨G, 0, none⟩), .int .i64 (k : Int)] w (PlYes B G k l w) := by
  have e0 : (max (k : Int) 0) = (k : Int) := by omega
  have h1 : ¬ ((l.length : Int) - 1) < (k : Int) := by omega
  go_enter Try.func16, Try.ntmps16
  go_wp2_with fail
  refine (settle0 B G l w hb hl hB hf).mono ?_
  rintro e w1 ⟨rfl, hf1, hb1⟩
  have Hf1 := Lib.hid hf1
  have Hb1 := Lib.hid hb1
  have hsz1 := hb1.size
  obtain ⟨hBG, A, n, c, hn, hblk, hown⟩ := hf1
  subst hn
  have h0 := hblk.cell 0
  simp only [List.getElem?_toArray, List.getElem?_cons_zero] at h0
  have hcap := cons_row hown
  have hkc : k ≤ c := by omega
  have hr0 := Reads.of_own hown
  have hr := hr0.take_ (k := k) (by omega)
  rw [Ints_take] at hr
  obtain ⟨ad, had, hab, hca⟩ := hr0.ints_at k hle
  generalize hx : l.getD k 0 = x at *
  have Hx := Lib.hid hx
  clear hx
  have Hr := Lib.hid hr
  have Hca := Lib.hid hca
  have Hblk := Lib.hid hblk
  subst had
  clear hblk hown hb1 hr hr0 hca
  go_wp2_with fail
  refine (clone_any _ k c (l.take k) B w1 (by omega) (by omega) Hr.out).mono ?_
  rintro e w2 ⟨A2, c2, rfl, hown2, hb2⟩
  have hcap2 := cons_row hown2
  have Hf2 := Lib.hid (Hf1.out.below hb2)
  have hlt := Hblk.out.lt
  have h02 : w2.cell? ⟨G, 0, none⟩ = some (.slice (some ad) l.length c) := by rw [hb2.cell hlt]; exact h0
  have hca2 : w2.cell? (ad.add k) = some (.int .u8 ((x : Nat) : Int)) := by rw [hb2.cell (by rw [block_of_add]; exact hab)]; exact Hca.out
  have Hown2 := Lib.hid hown2
  have Hblk2 := Lib.hid (Hblk.out.below hb2 hlt)
  have Hb2 := Lib.hid (Hb1.out.trans (hb2.mono (Nat.le_trans hB hsz1)))
  have Hb21 := Lib.hid hb2
  clear hown2 hb2 h0
  go_wp2_with fail
  refine (clip_any A2 k c2 hcap2.1 hcap2.2 w2).mono ?_
  rintro e w3 ⟨rfl, rfl⟩
  have hB2 : B ≤ w2.heap.size := by have := Hb2.out.size; omega
  by_cases h10 : x = 10
  · have h11 : (((x : Nat) : Int) == 10) = true := by rw [beq_iff_eq]; omega
    have H10 := Lib.hid h10
    clear h10
    go_wp2_with fail
    refine (drop2_any B G (k + 1) l 0 false w2 (by omega) hl hB2 Hf2.out).mono ?_
    rintro e w4 ⟨⟨rfl, hf4, hb4⟩, hk4⟩
    have Hk4 := Lib.hid hk4
    have Hf4 := Lib.hid hf4
    have Hb4 := Lib.hid hb4
    clear hf4 hb4 hk4
    go_wp2_with fail
    go_ret2
    refine ⟨A2, rfl, ?_, ?_, Hb2.out.trans Hb4.out⟩
    · exact pl_reads Hown2.out Hblk2.out (by decide) Hb4.out.size Hk4.out
    · unfold plRest
      rw [Hx.out, if_pos H10.out]
      exact Hf4.out
  · have h11 : (((x : Nat) : Int) == 10) = false := by rw [beq_eq_false_iff_ne]; omega
    have H10 := Lib.hid h10
    clear h10
    go_wp2_with fail
    refine (drop2_any B G k l 0 false w2 (by omega) hl hB2 Hf2.out).mono ?_
    rintro e w4 ⟨⟨rfl, hf4, hb4⟩, hk4⟩
    have Hk4 := Lib.hid hk4
    have Hf4 := Lib.hid hf4
    have Hb4 := Lib.hid hb4
    clear hf4 hb4 hk4
    go_wp2_with fail
    go_ret2
    refine ⟨A2, rfl, ?_, ?_, Hb2.out.trans Hb4.out⟩
    · exact pl_reads Hown2.out Hblk2.out (by decide) Hb4.out.size Hk4.out
    · unfold plRest
      rw [Hx.out, if_neg H10.out]
      exact Hf4.out
end Go.Proofs.Ytmpiacoddifjiaa
