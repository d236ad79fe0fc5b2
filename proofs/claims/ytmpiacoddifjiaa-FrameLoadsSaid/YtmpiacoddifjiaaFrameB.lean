/- Plain facts on what waits; the walks of bytes.IndexByte, New, Waiting, settle, Feed. -/
import Derived.Test.YtmpiacoddifjiaaFrameA
import Derived.Shelf.Bytes.SlIndexAt
import Derived.Laws.Externs
import Derived.Deep.QuietTactic
import Derived.BigQuiet
namespace Go.Proofs.Ytmpiacoddifjiaa
open Go.RowKit
set_option linter.unusedVariables false

/-- Where the first line feed is (the length, if there is none). -/
def lfi (l : List Nat) : Nat := l.findIdx (· == 10)
theorem lfi_le (l : List Nat) : lfi l ≤ l.length := List.findIdx_le_length
def idxI (l : List Nat) : Int := if lfi l < l.length then (lfi l : Int) else -1
theorem indexByte_lfi (l : List Nat) (hb : ∀ i, l.getD i 0 < 256) : Lib.indexByte (l.map UInt8.ofNat) 10 = idxI l := by
  induction l with
  | nil => rfl
  | cons c l ih =>
    have hc : c < 256 := hb 0
    have ih' := ih (fun i => hb (i + 1))
    have hge := lfi_le l
    unfold idxI lfi at *
    rw [List.map_cons, List.findIdx_cons]
    unfold Lib.indexByte
    by_cases h : c = 10
    · subst h; simp
    · have h1 : (UInt8.ofNat c == 10) = false := by
        rw [beq_eq_false_iff_ne]
        intro e
        have := congrArg UInt8.toNat e
        rw [UInt8.toNat_ofNat'] at this
        apply h
        have h10 : (10 : UInt8).toNat = 10 := rfl
        omega
      have h2 : (c == 10) = false := by rw [beq_eq_false_iff_ne]; exact h
      rw [h1, h2, ih']
      simp only [List.length_cons, cond_false, Bool.false_eq_true, if_false]
      generalize List.findIdx (fun x => x == 10) l = f at *
      by_cases h3 : f < l.length
      · have h4 : f + 1 < l.length + 1 := by omega
        have h5 : (((f : Nat) : Int) == -1) = false := by rw [beq_eq_false_iff_ne]; omega
        simp only [if_pos h3, if_pos h4, h5]
        simp
      · have h4 : ¬ f + 1 < l.length + 1 := by omega
        simp only [if_neg h3, if_neg h4]
        rfl
set_option maxRecDepth 1000000 in
set_option maxHeartbeats 2000000 in
theorem index_any (A : Option Addr) (n cap : Nat) (l : List Nat) (hb : ∀ i, l.getD i 0 < 256) (w : World) (hr : Reads w w.heap.size 1 A n (Ints .u8 l)) :
    Calls Try.prog 22 #[.slice A n cap, .int .u8 10] w fun e w' => e = .returned (.int .i64 (idxI l)) ∧ w = w' := by
  have hl : l.length = n := by have := hr.1; rw [Ints_length] at this; omega
  have hix := indexByte_lfi l hb
  rcases A with _ | a
  · have h0 : n = 0 := by
      rcases Nat.eq_zero_or_pos n with h0 | h0
      · exact h0
      · obtain ⟨ad, e, _⟩ := hr.2 h0; cases e
    subst h0
    have hl0 := List.eq_nil_of_length_eq_zero hl
    subst hl0
    clear hr hix
    go_enter Try.func22, Try.ntmps22
    go_wp2
    rw [run_callFunc_extern Try.func24 (by kernel_rfl) (by kernel_rfl) (by kernel_rfl) (e := Extern.BytealgIndexByte.indexByte) (by kernel_rfl), Lib.run_indexByteNil w 0 cap 10]
    simp only [Result.andThen]
    rw [Oper.upon_value]
    go_wp2
    go_ret
    exact ⟨rfl, rfl⟩
  · have hc : ∀ i, i < n → w.cell? (a.add i) = some (.int .u8 ((l.map fun x : Nat => (x : Int)).getD i 0)) := by
      intro i hi
      obtain ⟨a', e, _, h⟩ := Reads.ints_at (by rw [hl]; exact hr) i (by omega : i < l.length)
      injection e with e
      subst e
      rw [h]
      simp [List.getD, show i < l.length by omega]
    have e1 : Lib.bytesOf (l.map fun x : Nat => (x : Int)) = l.map UInt8.ofNat := by simp [Lib.bytesOf]
    have hrun := Lib.run_indexByteAt (P := Try.prog) w a n cap (l.map fun x : Nat => (x : Int)) (by simp [hl]) hc 10
    rw [e1] at hrun
    have e2 : (10 : Int).toNat.toUInt8 = 10 := rfl
    rw [e2, hix] at hrun
    clear hc hr hix
    have Hrun := Lib.hid hrun
    clear hrun
    go_enter Try.func22, Try.ntmps22
    go_wp2
    rw [run_callFunc_extern Try.func24 (by kernel_rfl) (by kernel_rfl) (by kernel_rfl) (e := Extern.BytealgIndexByte.indexByte) (by kernel_rfl), Hrun.out]
    simp only [Result.andThen]
    rw [Oper.upon_value]
    go_wp2
    go_ret
    exact ⟨rfl, rfl⟩
theorem new_any (B : Nat) (w : World) (hB : B ≤ w.heap.size) : Calls Try.prog 10 #[] w fun e w' => e = .returned (.pointer (some ⟨w.heap.size, 0, none⟩)) ∧ Frm w' B w.heap.size [] 0 false ∧ Below w.heap.size w w' := by
  go_enter Try.func10, Try.ntmps10
  go_wp2_with fail
  go_ret
  refine ⟨rfl, ⟨hB, none, 0, 0, rfl, Blk.new w 46 _, ⟨rfl, .inl ⟨rfl, rfl⟩⟩⟩, (Below.refl _ _).alloc (Nat.le_refl _) _⟩
theorem waiting_any (B G : Nat) (l : List Nat) (s : Nat) (b : Bool) (w : World) (hf : Frm w B G l s b) : Calls Try.prog 13 #[.pointer (some ⟨G, 0, none⟩)] w fun e w' => e = .returned (.int .i64 (l.length : Int)) ∧ w = w' := by
  obtain ⟨hBG, A, n, c, hn, hblk, hown⟩ := hf
  subst hn
  have h1 := hblk.cell 0
  simp at h1
  go_enter Try.func13, Try.ntmps13
  go_wp2_with fail
  go_ret
  exact ⟨rfl, rfl⟩

theorem Frm.drewN {w : World} {B G : Nat} {l : List Nat} {s : Nat} {b : Bool} (h : Frm w B G l s b) (n : Nat) : Frm (w.drewN n) B G l s b := h
theorem Frm.drew {w : World} {B G : Nat} {l : List Nat} {s : Nat} {b : Bool} (h : Frm w B G l s b) : Frm w.drew B G l s b := h
theorem own_far {w : World} {B e t n G : Nat} {v : Value} {xs : List Value} {cs : Array Value} (h : w.ownsRow B e 1 v n xs) (hb : Blk w G t cs) (hne : e ≠ t) (j : Nat) (u : Value) : (w.setCell ⟨G, j, none⟩ u).ownsRow B e 1 v n xs := by
  refine h.kept (row := some G) ?_ ?_
  · exact ⟨rfl, rfl, rfl, by simp [World.setCell], fun q hq hne => Below.heap_setCell _ _ _ _ (fun e => hne (by rw [e]))⟩
  · exact .inr (own_blk_ne h hb hne)
theorem Frm.skip {w : World} {B G : Nat} {l : List Nat} {s : Nat} {b : Bool} (h : Frm w B G l s b) (s' : Nat) : Frm (w.setCell ⟨G, 1, none⟩ (.int .i64 (s' : Int))) B G l s' b := by
  obtain ⟨hBG, A, n, c, hn, hblk, hown⟩ := h
  exact ⟨hBG, A, n, c, hn, hblk.set_ 1 _, own_far hown hblk (by decide) _ _⟩
theorem Frm.long {w : World} {B G : Nat} {l : List Nat} {s : Nat} {b : Bool} (h : Frm w B G l s b) (b' : Bool) : Frm (w.setCell ⟨G, 2, none⟩ (.bool b')) B G l s b' := by
  obtain ⟨hBG, A, n, c, hn, hblk, hown⟩ := h
  exact ⟨hBG, A, n, c, hn, hblk.set_ 2 _, own_far hown hblk (by decide) _ _⟩
theorem Frm.none_ {w : World} {B G : Nat} {l : List Nat} {s : Nat} {b : Bool} (h : Frm w B G l s b) : Frm (w.setCell ⟨G, 0, none⟩ (.slice none 0 0)) B G [] s b := by
  obtain ⟨hBG, A, n, c, hn, hblk, hown⟩ := h
  exact ⟨hBG, none, 0, 0, rfl, hblk.set_ 0 _, ⟨rfl, .inl ⟨rfl, rfl⟩⟩⟩
/-- What is left behind what is to be left out. -/
def skp (l : List Nat) (s : Nat) : List Nat := l.drop (min s l.length)
def skn (l : List Nat) (s : Nat) : Nat := s - min s l.length
def stl (l : List Nat) (s : Nat) (b : Bool) : List Nat := if b then (if lfi l = l.length then [] else skp (l.drop (lfi l + 1)) s) else skp l s
def stn (l : List Nat) (s : Nat) (b : Bool) : Nat := if b then (if lfi l = l.length then s else skn (l.drop (lfi l + 1)) s) else skn l s
def stb (l : List Nat) (b : Bool) : Bool := b && (lfi l == l.length)
def str (l : List Nat) (s : Nat) (b : Bool) : Bool := !stb l b && stn l s b == 0
def StPost (B G : Nat) (l : List Nat) (s : Nat) (b : Bool) (w : World) (e : Ending) (w' : World) : Prop :=
  e = .returned (.bool (str l s b)) ∧ Frm w' B G (stl l s b) (stn l s b) (stb l b) ∧ Below B w w'
theorem nat_zero' (x : Nat) : (((x : Nat) : Int) == 0) = (x == 0) := by rw [Bool.eq_iff_iff]; simp
theorem nat_zero {l : List Nat} {s : Nat} (x : Nat := s - min s l.length) (h : x = s - min s l.length := by rfl) : (((x : Nat) : Int) == 0) = str l s false := by
  rw [nat_zero']
  simp [str, stb, stn, skn, h]
set_option maxRecDepth 100000 in
set_option maxHeartbeats 2000000 in
theorem settle_no (B G : Nat) (l : List Nat) (s : Nat) (w : World) (hl : l.length ≤ 10000000) (hs : s ≤ 9223372036854775807) (hB : B ≤ w.heap.size) (hf : Frm w B G l s false) :
    Calls Try.prog 17 #[.pointer (some ⟨G, 0, none⟩)] w (StPost B G l s false w) := by
  have Hf := Lib.hid hf
  obtain ⟨hBG, A, n, c, hn, hblk, hown⟩ := hf
  subst hn
  have h0 := hblk.cell 0
  have h1 := hblk.cell 1
  have h2 := hblk.cell 2
  simp at h0 h1 h2
  have hfz := hblk.frozen 1
  clear hblk hown
  go_enter Try.func17, Try.ntmps17
  go_wp2_with fail
  go_quiet (fail)
  go_wp2_with fail
  have e1 : (min (s : Int) (l.length : Int)) = ((min s l.length : Nat) : Int) := by omega
  have e2 : (s : Int) - ((min s l.length : Nat) : Int) = ((s - min s l.length : Nat) : Int) := by omega
  rw [e1, e2]
  have hf1 := (Hf.out.drewN nq).skip (s - min s l.length)
  have hb1 : Below B w ((w.drewN nq).setCell ⟨G, 1, none⟩ (.int .i64 ((s - min s l.length : Nat) : Int))) := (below_drewN (Below.refl _ _) nq).setCell hBG _
  clear h0 h1 h2 hfz e1 e2
  generalize hW : (w.drewN nq).setCell ⟨G, 1, none⟩ (.int .i64 ((s - min s l.length : Nat) : Int)) = w1 at *
  clear hW
  refine (drop_any B G (min s l.length) l (s - min s l.length) false w1 (by omega) hl (by have := hb1.size; omega) hf1).mono ?_
  rintro e w2 ⟨rfl, hf2, hb2⟩
  have Hf2 := Lib.hid hf2
  have Hb2 := Lib.hid (hb1.trans hb2)
  obtain ⟨_, A2, n2, c2, _, hblk2, _⟩ := hf2
  have g1 := hblk2.cell 1
  simp at g1
  clear hblk2 hf1 hb1 hb2
  go_wp2_with fail
  go_ret
  exact ⟨congrArg (fun b => Ending.returned (.bool b)) (nat_zero _), Hf2.out, Hb2.out⟩
set_option maxRecDepth 100000 in
set_option maxHeartbeats 2000000 in
theorem settle_lost (B G : Nat) (l : List Nat) (s : Nat) (w : World) (hb : ∀ i, l.getD i 0 < 256) (hB : B ≤ w.heap.size) (hf : Frm w B G l s true) (hx : lfi l = l.length) :
    Calls Try.prog 17 #[.pointer (some ⟨G, 0, none⟩)] w (StPost B G l s true w) := by
  have Hf := Lib.hid hf
  obtain ⟨hBG, A, n, c, hn, hblk, hown⟩ := hf
  subst hn
  have h0 := hblk.cell 0
  have h2 := hblk.cell 2
  simp at h0 h2
  have hfz := hblk.frozen 0
  have hi : idxI l = -1 := by unfold idxI; rw [if_neg (by omega)]
  have Hr := Lib.hid (Reads.of_own hown)
  have Hx := Lib.hid hx
  clear hblk hown hx
  go_enter Try.func17, Try.ntmps17
  go_wp2_with fail
  refine (index_any A l.length c l hb w Hr.out).mono ?_
  rw [hi]
  rintro e w1 ⟨rfl, rfl⟩
  go_wp2_with fail
  go_ret
  refine ⟨?_, ?_, (Below.refl _ _).setCell hBG _⟩
  · simp [str, stb, Hx.out]
  · simp only [stl, stn, stb, Hx.out, if_true, beq_self_eq_true, Bool.and_self]
    exact Hf.out.none_
set_option maxRecDepth 100000 in
set_option maxHeartbeats 2000000 in
theorem settle_found (B G : Nat) (l : List Nat) (s : Nat) (w : World) (hb : ∀ i, l.getD i 0 < 256) (hl : l.length ≤ 10000000) (hs : s ≤ 9223372036854775807) (hB : B ≤ w.heap.size) (hf : Frm w B G l s true) (hx : lfi l ≠ l.length) :
    Calls Try.prog 17 #[.pointer (some ⟨G, 0, none⟩)] w (StPost B G l s true w) := by
  have Hf := Lib.hid hf
  obtain ⟨hBG, A, n, c, hn, hblk, hown⟩ := hf
  subst hn
  have h0 := hblk.cell 0
  have h2 := hblk.cell 2
  simp at h0 h2
  have hlf := lfi_le l
  have hi : idxI l = ((lfi l : Nat) : Int) := by unfold idxI; rw [if_pos (by omega)]
  have Hr := Lib.hid (Reads.of_own hown)
  have Hx := Lib.hid hx
  have hlt : lfi l < l.length := by omega
  have h00 : ¬ ((lfi l : Nat) : Int) < 0 := by omega
  clear hblk hown hx
  go_enter Try.func17, Try.ntmps17
  go_wp2_with fail
  refine (index_any A l.length c l hb w Hr.out).mono ?_
  rw [hi]
  clear hi
  rintro e w1 ⟨rfl, rfl⟩
  go_wp2_with fail
  refine (drop_any B G (lfi l + 1) l s true w (by omega) hl hB Hf.out).mono ?_
  rintro e w2 ⟨rfl, hf2, hb2⟩
  have Hb2 := Lib.hid hb2
  have Hf2 := Lib.hid hf2
  have hsz2 := hb2.size
  obtain ⟨_, A2, n2, c2, _, hblk2, _⟩ := hf2
  have i2 := hblk2.cell 2
  simp at i2
  have i2f := hblk2.frozen 2
  clear hblk2 hb2 h0 h2
  go_wp2_with fail
  have hf3 := Hf2.out.long false
  have hb3 : Below B w (w2.setCell ⟨G, 2, none⟩ (.bool false)) := Hb2.out.setCell hBG _
  generalize hW : w2.setCell ⟨G, 2, none⟩ (.bool false) = w3 at *
  have Hf3 := Lib.hid hf3
  have Hb3 := Lib.hid hb3
  clear i2 i2f hW hb3
  obtain ⟨_, A3, n3, c3, hn3, hblk3, _⟩ := hf3
  subst hn3
  have j0 := hblk3.cell 0
  have j1 := hblk3.cell 1
  simp only [List.getElem?_toArray, List.getElem?_cons_zero, List.getElem?_cons_succ] at j0 j1
  have jfz := hblk3.frozen 1
  have hdl : (l.drop (lfi l + 1)).length ≤ 10000000 := by rw [List.length_drop]; omega
  clear hblk3
  generalize hm : l.drop (lfi l + 1) = m at *
  go_quiet (fail)
  go_wp2_with fail
  have e1 : (min (s : Int) (m.length : Int)) = ((min s m.length : Nat) : Int) := by omega
  have e2 : (s : Int) - ((min s m.length : Nat) : Int) = ((s - min s m.length : Nat) : Int) := by omega
  rw [e1, e2]
  have hf4 := (Hf3.out.drewN nq).skip (s - min s m.length)
  have hb4 : Below B w ((w3.drewN nq).setCell ⟨G, 1, none⟩ (.int .i64 ((s - min s m.length : Nat) : Int))) := (below_drewN Hb3.out nq).setCell hBG _
  clear j0 j1 jfz e1 e2
  generalize hW : (w3.drewN nq).setCell ⟨G, 1, none⟩ (.int .i64 ((s - min s m.length : Nat) : Int)) = w4 at *
  clear hW
  refine (drop_any B G (min s m.length) m (s - min s m.length) false w4 (by omega) hdl (by have := hb4.size; omega) hf4).mono ?_
  rintro e w5 ⟨rfl, hf5, hb5⟩
  have Hf5 := Lib.hid hf5
  have Hb5 := Lib.hid (hb4.trans hb5)
  obtain ⟨_, A5, n5, c5, _, hblk5, _⟩ := hf5
  have g1 := hblk5.cell 1
  simp at g1
  clear hblk5 hf4 hb4 hb5
  go_wp2_with fail
  go_ret
  have ex : (lfi l == l.length) = false := by rw [beq_eq_false_iff_ne]; exact Hx.out
  refine ⟨congrArg (fun b => Ending.returned (.bool b)) ?_, ?_, Hb5.out⟩
  · rw [nat_zero']
    simp only [str, stb, stn, ex, if_neg Hx.out, hm, if_true, Bool.and_false, Bool.not_false, Bool.true_and]
    rfl
  · simp only [stl, stn, stb, ex, if_neg Hx.out, hm, if_true, Bool.and_false]
    exact Hf5.out
theorem settle_any (B G : Nat) (l : List Nat) (s : Nat) (b : Bool) (w : World) (hb : ∀ i, l.getD i 0 < 256) (hl : l.length ≤ 10000000) (hs : s ≤ 9223372036854775807) (hB : B ≤ w.heap.size) (hf : Frm w B G l s b) :
    Calls Try.prog 17 #[.pointer (some ⟨G, 0, none⟩)] w (StPost B G l s b w) := by
  cases b
  · exact settle_no B G l s w hl hs hB hf
  · by_cases hx : lfi l = l.length
    · exact settle_lost B G l s w hb hB hf hx
    · exact settle_found B G l s w hb hl hs hB hf hx
end Go.Proofs.Ytmpiacoddifjiaa
