/- The framer's walks once more, saying that no block but the framer's own one and rows of bytes from B on is written; rows of texts stay. -/
import Derived.Test.YtmpiacoddifjiaaFrameO
namespace Go.Proofs.Ytmpiacoddifjiaa.tk
open Go.RowKit
set_option linter.unusedVariables false
/-- What stays: each block but G that lies below B or is no row of bytes. -/
def Stays (B G : Nat) (w : World) (k : Nat) : Prop := k < w.heap.size ∧ k ≠ G ∧ (k < B ∨ ∃ t cs, Blk w k t cs ∧ t ≠ 5)
structure Keep (B G : Nat) (w w' : World) : Prop where
  os : w'.os = w.os
  tape : w'.tape = w.tape
  output : w'.output = w.output
  size : w.heap.size ≤ w'.heap.size
  block : ∀ k, Stays B G w k → w'.heap[k]? = w.heap[k]?
theorem Keep.refl (B G : Nat) (w : World) : Keep B G w w := ⟨rfl, rfl, rfl, Nat.le_refl _, fun _ _ => rfl⟩
theorem Keep.stays {B G k : Nat} {a b : World} (h : Keep B G a b) (hk : Stays B G a k) : Stays B G b k := by
  have hb := h.block k hk
  obtain ⟨h1, h2, h3⟩ := hk
  refine ⟨Nat.lt_of_lt_of_le h1 h.size, h2, ?_⟩
  rcases h3 with h3 | ⟨t, cs, h3, h4⟩
  · exact .inl h3
  · exact .inr ⟨t, cs, hb.trans h3, h4⟩
theorem Keep.trans {B G : Nat} {a b c : World} (h : Keep B G a b) (k : Keep B G b c) : Keep B G a c :=
  ⟨k.os.trans h.os, k.tape.trans h.tape, k.output.trans h.output, Nat.le_trans h.size k.size, fun i hi => (k.block i (h.stays hi)).trans (h.block i hi)⟩
theorem Keep.of_below {B G : Nat} {a b : World} (h : Below a.heap.size a b) : Keep B G a b := ⟨h.os, h.tape, h.output, h.size, fun i hi => h.block i hi.1⟩
theorem Keep.drew {B G : Nat} {a w : World} (h : Keep B G a w) : Keep B G a w.drew := ⟨h.os, h.tape, h.output, h.size, h.block⟩
theorem keep_drewN {B G : Nat} {a w : World} (h : Keep B G a w) (n : Nat) : Keep B G a (w.drewN n) := ⟨h.os, h.tape, h.output, h.size, h.block⟩
theorem Keep.alloc {B G : Nat} {a w : World} (h : Keep B G a w) (hB : B ≤ w.heap.size) (o : Obj) : Keep B G a (w.alloc o) := h.trans (Keep.of_below ((Below.refl _ _).alloc (Nat.le_refl _) o))
theorem Keep.setG {B G : Nat} {a w : World} (h : Keep B G a w) (j : Nat) (u : Value) : Keep B G a (w.setCell ⟨G, j, none⟩ u) :=
  h.trans ⟨rfl, rfl, rfl, by simp [World.setCell], fun k hk => Below.heap_setCell _ _ _ _ hk.2.1⟩
theorem own_row {w : World} {B e n : Nat} {v : Value} {xs : List Value} (h : w.ownsRow B e 1 v n xs) {q : Nat} (hq : v.ownBlock = some q) : B ≤ q ∧ ∃ cs, Blk w q e cs := by
  rcases h.2 with ⟨rfl, _⟩ | ⟨g, cap, cur, rfl, hb, hh, _⟩
  · simp [Value.ownBlock] at hq
  · simp [Value.ownBlock] at hq
    subst hq
    exact ⟨hb, cur, hh⟩
theorem Keep.grown {B G : Nat} {a w w' : World} {row : Option Nat} (h : Keep B G a w) (hg : w.grownBy w' row) (hr : ∀ k, row = some k → B ≤ k ∧ ∃ cs, Blk w k 5 cs) : Keep B G a w' :=
  h.trans ⟨hg.os, hg.tape, hg.output, hg.size, fun k hk => hg.block k hk.1 (fun e => by
    obtain ⟨h1, cs, h2⟩ := hr k e.symm
    rcases hk.2.2 with h3 | ⟨t, cs2, h3, h4⟩
    · omega
    · exact Blk.ne_ h3 h2 h4 rfl)⟩
theorem Keep.to_below {B G : Nat} {a b : World} (hB : B ≤ G) (hs : B ≤ a.heap.size) (h : Keep B G a b) : Below B a b := ⟨h.os, h.tape, h.output, h.size, fun i hi => h.block i ⟨by omega, by omega, .inl hi⟩⟩
def DropPost (B G : Nat) (l : List Nat) (s : Nat) (b : Bool) (w : World) (e : Ending) (w' : World) : Prop :=
  e = .returned (.tuple #[]) ∧ Frm w' B G l s b ∧ Keep B G w w'
theorem drop_fin {B G : Nat} {l2 : List Nat} {s : Nat} {b : Bool} {w w1 : World} {A A1 : Option Addr} {n c n1 c1 : Nat} (hB : B ≤ w.heap.size) (hBG : B ≤ G) (hG : G < w.heap.size)
    (hblk : Blk w G 46 #[.slice A n c, .int .i64 (s : Int), .bool b]) (hown1 : w1.ownsRow B 5 1 (.slice A1 n1 c1) n1 (Ints .u8 l2)) (hbel : Below w.heap.size w w1) :
    w1.cell? ⟨G, 0, none⟩ = some (.slice A n c) ∧ w1.frozen? ⟨G, 0, none⟩ = false ∧ (Frm (w1.setCell ⟨G, 0, none⟩ (.slice A1 n1 c1)) B G l2 s b ∧ Keep B G w (w1.setCell ⟨G, 0, none⟩ (.slice A1 n1 c1))) := by
  have hb1 := hblk.below hbel hG
  refine ⟨by rw [hb1.cell]; rfl, hb1.frozen 0, ⟨hBG, A1, n1, c1, ?_, ?_, ?_⟩, (Keep.of_below hbel).setG _ _⟩
  · have := hown1.1
    rw [Ints_length] at this
    omega
  · have := hb1.set_ 0 (.slice A1 n1 c1)
    exact this
  · refine hown1.kept (row := some G) ?_ ?_
    · exact ⟨rfl, rfl, rfl, by simp [World.setCell], fun q hq hne => Below.heap_setCell _ _ _ _ (fun e => hne (by rw [e]))⟩
    · exact .inr (own_blk_ne hown1 hb1 (by decide))
set_option maxRecDepth 100000 in
set_option maxHeartbeats 1000000 in
theorem drop_any (B G k : Nat) (l : List Nat) (s : Nat) (b : Bool) (w : World) (hk : k ≤ l.length) (hl : l.length ≤ 10000000) (hB : B ≤ w.heap.size) (hf : Frm w B G l s b) :
    Calls Try.prog 19 #[.pointer (some ⟨G, 0, none⟩), .int .i64 (k : Int)] w (DropPost B G (l.drop k) s b w) := by
  obtain ⟨hBG, A, n, c, hn, hblk, hown⟩ := hf
  subst hn
  have hcap := cons_row hown
  have h1 := hblk.cell 0
  have hfz := hblk.frozen 0
  simp at h1
  have hr := (Reads.of_own hown).cut (cap := c) hk hcap.1
  have e1 : (Ints .u8 l).drop (k * 1) = Ints .u8 (l.drop k) := by simp [Ints]
  rw [e1] at hr
  have hG : G < w.heap.size := hblk.lt
  by_cases hck : c = k
  · rw [if_pos hck] at hr
    have hr2 := Lib.hid hr
    have Hown := Lib.hid hown
    have Hblk := Lib.hid hblk
    subst hck
    clear hown hblk hr
    go_enter Try.func19, Try.ntmps19
    go_wp2_with fail
    refine (clone_any A 0 0 (l.drop c) B w (by omega) hB (by have := hr2.out; rw [show l.length - c = 0 from by omega] at this; exact this)).mono ?_
    rintro e w1 ⟨A1, c1, rfl, hown1, hbel1⟩
    obtain ⟨h2, h3, fin⟩ := drop_fin hB hBG hG Hblk.out hown1 hbel1
    have Hfin := Lib.hid fin
    clear fin hown1 hbel1
    go_wp2_with fail
    go_end0
    exact ⟨rfl, Hfin.out⟩
  · rw [if_neg hck] at hr
    have hr2 := Lib.hid hr
    have Hblk := Lib.hid hblk
    clear hown hblk hr
    go_enter Try.func19, Try.ntmps19
    go_wp2_with fail
    refine (clone_any _ (l.length - k) (c - k) (l.drop k) B w (by omega) hB (by have := hr2.out; simpa using this)).mono ?_
    rintro e w1 ⟨A1, c1, rfl, hown1, hbel1⟩
    obtain ⟨h2, h3, fin⟩ := drop_fin hB hBG hG Hblk.out hown1 hbel1
    have Hfin := Lib.hid fin
    clear fin hown1 hbel1
    go_wp2_with fail
    go_end0
    exact ⟨rfl, Hfin.out⟩
def StPost (B G : Nat) (l : List Nat) (s : Nat) (b : Bool) (w : World) (e : Ending) (w' : World) : Prop :=
  e = .returned (.bool (str l s b)) ∧ Frm w' B G (stl l s b) (stn l s b) (stb l b) ∧ Keep B G w w'
set_option maxRecDepth 100000 in
set_option maxHeartbeats 2000000 in
theorem settle_no (B G : Nat) (l : List Nat) (s : Nat) (w : World) (hl : l.length ≤ 10000000) (hs : s ≤ 9223372036854775807) (hB : B ≤ w.heap.size) (hf : Frm w B G l s false) :
    Calls Try.prog 17 #[.pointer (some ⟨G, 0, none⟩)] w (StPost B G l s false w) := by
  have Hf := Lib.hid hf
  obtain ⟨hBG, A, n, c, hn, hblk, hown⟩ := hf
  subst hn
  have h0 := hblk.cell 0
  have h1 := hblk.cell 1
  have h2 := hblk.cell 2
  simp at h0 h1 h2
  have hfz := hblk.frozen 1
  clear hblk hown
  go_enter Try.func17, Try.ntmps17
  go_wp2_with fail
  go_quiet (fail)
  go_wp2_with fail
  have e1 : (min (s : Int) (l.length : Int)) = ((min s l.length : Nat) : Int) := by omega
  have e2 : (s : Int) - ((min s l.length : Nat) : Int) = ((s - min s l.length : Nat) : Int) := by omega
  rw [e1, e2]
  have hf1 := (Hf.out.drewN nq).skip (s - min s l.length)
  have hb1 : Keep B G w ((w.drewN nq).setCell ⟨G, 1, none⟩ (.int .i64 ((s - min s l.length : Nat) : Int))) := (keep_drewN (Keep.refl _ _ _) nq).setG _ _
  clear h0 h1 h2 hfz e1 e2
  generalize hW : (w.drewN nq).setCell ⟨G, 1, none⟩ (.int .i64 ((s - min s l.length : Nat) : Int)) = w1 at *
  clear hW
  refine (drop_any B G (min s l.length) l (s - min s l.length) false w1 (by omega) hl (by have := hb1.size; omega) hf1).mono ?_
  rintro e w2 ⟨rfl, hf2, hb2⟩
  have Hf2 := Lib.hid hf2
  have Hb2 := Lib.hid (hb1.trans hb2)
  obtain ⟨_, A2, n2, c2, _, hblk2, _⟩ := hf2
  have g1 := hblk2.cell 1
  simp at g1
  clear hblk2 hf1 hb1 hb2
  go_wp2_with fail
  go_ret
  exact ⟨congrArg (fun b => Ending.returned (.bool b)) (nat_zero _), Hf2.out, Hb2.out⟩
set_option maxRecDepth 100000 in
set_option maxHeartbeats 2000000 in
theorem settle_lost (B G : Nat) (l : List Nat) (s : Nat) (w : World) (hb : ∀ i, l.getD i 0 < 256) (hB : B ≤ w.heap.size) (hf : Frm w B G l s true) (hx : lfi l = l.length) :
    Calls Try.prog 17 #[.pointer (some ⟨G, 0, none⟩)] w (StPost B G l s true w) := by
  have Hf := Lib.hid hf
  obtain ⟨hBG, A, n, c, hn, hblk, hown⟩ := hf
  subst hn
  have h0 := hblk.cell 0
  have h2 := hblk.cell 2
  simp at h0 h2
  have hfz := hblk.frozen 0
  have hi : idxI l = -1 := by unfold idxI; rw [if_neg (by omega)]
  have Hr := Lib.hid (Reads.of_own hown)
  have Hx := Lib.hid hx
  clear hblk hown hx
  go_enter Try.func17, Try.ntmps17
  go_wp2_with fail
  refine (index_any A l.length c l hb w Hr.out).mono ?_
  rw [hi]
  rintro e w1 ⟨rfl, rfl⟩
  go_wp2_with fail
  go_ret
  refine ⟨?_, ?_, (Keep.refl _ _ _).setG _ _⟩
  · simp [str, stb, Hx.out]
  · simp only [stl, stn, stb, Hx.out, if_true, beq_self_eq_true, Bool.and_self]
    exact Hf.out.none_
set_option maxRecDepth 100000 in
set_option maxHeartbeats 2000000 in
theorem settle_found (B G : Nat) (l : List Nat) (s : Nat) (w : World) (hb : ∀ i, l.getD i 0 < 256) (hl : l.length ≤ 10000000) (hs : s ≤ 9223372036854775807) (hB : B ≤ w.heap.size) (hf : Frm w B G l s true) (hx : lfi l ≠ l.length) :
    Calls Try.prog 17 #[.pointer (some ⟨G, 0, none⟩)] w (StPost B G l s true w) := by
  have Hf := Lib.hid hf
  obtain ⟨hBG, A, n, c, hn, hblk, hown⟩ := hf
  subst hn
  have h0 := hblk.cell 0
  have h2 := hblk.cell 2
  simp at h0 h2
  have hlf := lfi_le l
  have hi : idxI l = ((lfi l : Nat) : Int) := by unfold idxI; rw [if_pos (by omega)]
  have Hr := Lib.hid (Reads.of_own hown)
  have Hx := Lib.hid hx
  have hlt : lfi l < l.length := by omega
  have h00 : ¬ ((lfi l : Nat) : Int) < 0 := by omega
  clear hblk hown hx
  go_enter Try.func17, Try.ntmps17
  go_wp2_with fail
  refine (index_any A l.length c l hb w Hr.out).mono ?_
  rw [hi]
  clear hi
  rintro e w1 ⟨rfl, rfl⟩
  go_wp2_with fail
  refine (drop_any B G (lfi l + 1) l s true w (by omega) hl hB Hf.out).mono ?_
  rintro e w2 ⟨rfl, hf2, hb2⟩
  have Hb2 := Lib.hid hb2
  have Hf2 := Lib.hid hf2
  have hsz2 := hb2.size
  obtain ⟨_, A2, n2, c2, _, hblk2, _⟩ := hf2
  have i2 := hblk2.cell 2
  simp at i2
  have i2f := hblk2.frozen 2
  clear hblk2 hb2 h0 h2
  go_wp2_with fail
  have hf3 := Hf2.out.long false
  have hb3 : Keep B G w (w2.setCell ⟨G, 2, none⟩ (.bool false)) := Hb2.out.setG _ _
  generalize hW : w2.setCell ⟨G, 2, none⟩ (.bool false) = w3 at *
  have Hf3 := Lib.hid hf3
  have Hb3 := Lib.hid hb3
  clear i2 i2f hW hb3
  obtain ⟨_, A3, n3, c3, hn3, hblk3, _⟩ := hf3
  subst hn3
  have j0 := hblk3.cell 0
  have j1 := hblk3.cell 1
  simp only [List.getElem?_toArray, List.getElem?_cons_zero, List.getElem?_cons_succ] at j0 j1
  have jfz := hblk3.frozen 1
  have hdl : (l.drop (lfi l + 1)).length ≤ 10000000 := by rw [List.length_drop]; omega
  clear hblk3
  generalize hm : l.drop (lfi l + 1) = m at *
  go_quiet (fail)
  go_wp2_with fail
  have e1 : (min (s : Int) (m.length : Int)) = ((min s m.length : Nat) : Int) := by omega
  have e2 : (s : Int) - ((min s m.length : Nat) : Int) = ((s - min s m.length : Nat) : Int) := by omega
  rw [e1, e2]
  have hf4 := (Hf3.out.drewN nq).skip (s - min s m.length)
  have hb4 : Keep B G w ((w3.drewN nq).setCell ⟨G, 1, none⟩ (.int .i64 ((s - min s m.length : Nat) : Int))) := (keep_drewN Hb3.out nq).setG _ _
  clear j0 j1 jfz e1 e2
  generalize hW : (w3.drewN nq).setCell ⟨G, 1, none⟩ (.int .i64 ((s - min s m.length : Nat) : Int)) = w4 at *
  clear hW
  refine (drop_any B G (min s m.length) m (s - min s m.length) false w4 (by omega) hdl (by have := hb4.size; omega) hf4).mono ?_
  rintro e w5 ⟨rfl, hf5, hb5⟩
  have Hf5 := Lib.hid hf5
  have Hb5 := Lib.hid (hb4.trans hb5)
  obtain ⟨_, A5, n5, c5, _, hblk5, _⟩ := hf5
  have g1 := hblk5.cell 1
  simp at g1
  clear hblk5 hf4 hb4 hb5
  go_wp2_with fail
  go_ret
  have ex : (lfi l == l.length) = false := by rw [beq_eq_false_iff_ne]; exact Hx.out
  refine ⟨congrArg (fun b => Ending.returned (.bool b)) ?_, ?_, Hb5.out⟩
  · rw [nat_zero']
    simp only [str, stb, stn, ex, if_neg Hx.out, hm, if_true, Bool.and_false, Bool.not_false, Bool.true_and]
    rfl
  · simp only [stl, stn, stb, ex, if_neg Hx.out, hm, if_true, Bool.and_false]
    exact Hf5.out
theorem settle_any (B G : Nat) (l : List Nat) (s : Nat) (b : Bool) (w : World) (hb : ∀ i, l.getD i 0 < 256) (hl : l.length ≤ 10000000) (hs : s ≤ 9223372036854775807) (hB : B ≤ w.heap.size) (hf : Frm w B G l s b) :
    Calls Try.prog 17 #[.pointer (some ⟨G, 0, none⟩)] w (StPost B G l s b w) := by
  cases b
  · exact settle_no B G l s w hl hs hB hf
  · by_cases hx : lfi l = l.length
    · exact settle_lost B G l s w hb hB hf hx
    · exact settle_found B G l s w hb hl hs hB hf hx
def FdPost (B G : Nat) (l : List Nat) (s : Nat) (b : Bool) (w : World) (e : Ending) (w' : World) : Prop :=
  e = .returned (.tuple #[]) ∧ Frm w' B G (stl l s b) (stn l s b) (stb l b) ∧ Keep B G w w'
theorem feed_fin {B G : Nat} {l m : List Nat} {s : Nat} {b : Bool} {w w1 : World} {A A1 : Option Addr} {n c n1 c1 : Nat} (hB : B ≤ w.heap.size) (hBG : B ≤ G)
    (hblk : Blk w G 46 #[.slice A n c, .int .i64 (s : Int), .bool b]) (hown : w.ownsRow B 5 1 (.slice A n c) n (Ints .u8 l))
    (hown1 : w1.ownsRow B 5 1 (.slice A1 n1 c1) n1 (Ints .u8 m)) (hg : w.grownBy w1 (Value.slice A n c).ownBlock) :
    w1.cell? ⟨G, 0, none⟩ = some (.slice A n c) ∧ w1.frozen? ⟨G, 0, none⟩ = false ∧ (Frm (w1.setCell ⟨G, 0, none⟩ (.slice A1 n1 c1)) B G m s b ∧ Keep B G w (w1.setCell ⟨G, 0, none⟩ (.slice A1 n1 c1))) := by
  have hne := own_blk_ne hown hblk (by decide)
  have hb1 := hblk.grown hg (fun e => hne e.symm)
  have hbel : Keep B G w w1 := (Keep.refl B G w).grown hg (fun q hq => own_row hown hq)
  refine ⟨by rw [hb1.cell]; rfl, hb1.frozen 0, ⟨hBG, A1, n1, c1, ?_, ?_, ?_⟩, hbel.setG _ _⟩
  · have := hown1.1
    rw [Ints_length] at this
    omega
  · exact hb1.set_ 0 (.slice A1 n1 c1)
  · exact own_far hown1 hb1 (by decide) _ _
set_option maxRecDepth 100000 in
set_option maxHeartbeats 2000000 in
theorem feed_any (B G : Nat) (l m : List Nat) (s : Nat) (b : Bool) (S : Option Addr) (k sc : Nat) (w : World) (hb : ∀ i, l.getD i 0 < 256) (hbm : ∀ i, m.getD i 0 < 256) (hl : l.length + k ≤ 10000000) (hs : s ≤ 9223372036854775807) (hB : B ≤ w.heap.size)
    (hf : Frm w B G l s b) (hr : Reads w w.heap.size 1 S k (Ints .u8 m)) :
    Calls Try.prog 11 #[.pointer (some ⟨G, 0, none⟩), .slice S k sc] w (FdPost B G (l ++ m) s b w) := by
  obtain ⟨i0, hi, hz0, hz1, hz2⟩ := info_parts info5
  have hmk : m.length = k := by have := hr.1; rw [Ints_length] at this; omega
  obtain ⟨hBG, A, n, c, hn, hblk, hown⟩ := hf
  subst hn
  have h0 := hblk.cell 0
  simp only [List.getElem?_toArray, List.getElem?_cons_zero] at h0
  have Hblk := Lib.hid hblk
  clear hblk
  go_enter Try.func11, Try.ntmps11
  go_wp2_with (at_builtin; refine wpList_append_any _ rfl (.tmp 8) (.tmp 9) 26 rfl B 5 i0 (.int .u8 0) 1 1 Try.underlying26 hi hz0 hz1 hz2 rfl (by decide) _ l.length (Ints .u8 l) rfl hown w.heap.size S k sc (Ints .u8 m) rfl hr (Ints_one _ _) (by unfold maxLen; omega) (by omega) hB ?_; intro v' w1 hown1 hgrow1 hat; obtain ⟨A1, c1, rfl⟩ := own_shape hown1; obtain ⟨g1, g2, fin⟩ := feed_fin hB hBG Hblk.out hown (Ints_app hown1) hgrow1; have Hfin := Lib.hid fin; clear hown1 hgrow1 hat fin)
  have hl2 : (l ++ m).length ≤ 10000000 := by rw [List.length_append]; omega
  generalize hW : w1.setCell ⟨G, 0, none⟩ (.slice A1 (l.length + k) c1) = w2 at *
  clear hW g1 g2
  have hsz := Hfin.out.2.size
  refine (settle_any B G (l ++ m) s b w2 (getD_append_lt hb hbm) hl2 hs (by omega) Hfin.out.1).mono ?_
  rintro e w3 ⟨rfl, hf3, hb3⟩
  have Hf3 := Lib.hid hf3
  have Hb3 := Lib.hid (Hfin.out.2.trans hb3)
  clear hf3 hb3
  go_wp2_with fail
  go_end0
  exact ⟨rfl, Hf3.out, Hb3.out⟩
def LnPost (B G : Nat) (l : List Nat) (s : Nat) (b : Bool) (w : World) (e : Ending) (w' : World) : Prop :=
  (str l s b = false → e = .returned (.tuple #[.string ⟨#[]⟩, .bool false, .int .i64 0]) ∧ Frm w' B G (stl l s b) (stn l s b) (stb l b)) ∧
  (str l s b = true → Ln2 B G (stl l s b) e w') ∧ Keep B G w w'
set_option maxRecDepth 100000 in
set_option maxHeartbeats 2000000 in
theorem line_any (B G : Nat) (l : List Nat) (s : Nat) (b : Bool) (w : World) (hb : ∀ i, l.getD i 0 < 256) (hl : l.length ≤ 10000000) (hs : s ≤ 9223372036854775807) (hB : B ≤ w.heap.size) (hf : Frm w B G l s b) :
    Calls Try.prog 12 #[.pointer (some ⟨G, 0, none⟩)] w (LnPost B G l s b w) := by
  cases hst : str l s b
  · have Hst := Lib.hid hst
    have Hf := Lib.hid hf
    clear hf
    go_enter Try.func12, Try.ntmps12
    go_wp2_with fail
    go_step3
    go_wp2_with fail
    refine (settle_any B G l s b w hb hl hs hB Hf.out).mono ?_
    rintro e w1 ⟨rfl, hf1, hb1⟩
    rw [Hst.out]
    have Hf1 := Lib.hid hf1
    have Hb1 := Lib.hid hb1
    clear hf1 hb1
    go_wp2_with fail
    rw [Exit.noGoto_ret]
    go_ret3
    exact ⟨fun _ => ⟨rfl, Hf1.out⟩, fun h => by rw [Hst.out] at h; exact absurd h (by decide), Hb1.out⟩
  · have Hst := Lib.hid hst
    have Hf := Lib.hid hf
    clear hf
    go_enter Try.func12, Try.ntmps12
    go_wp2_with fail
    go_step3
    go_wp2_with fail
    refine (settle_any B G l s b w hb hl hs hB Hf.out).mono ?_
    rintro e w1 ⟨rfl, hf1, hb1⟩
    rw [Hst.out]
    obtain ⟨s0, b0⟩ := str_true Hst.out
    rw [s0, b0] at hf1
    have hLb := stl_lt hb s b
    have hLl : (stl l s b).length ≤ 10000000 := Nat.le_trans (stl_len l s b) hl
    have Hb1 := Lib.hid hb1
    have fin : ∀ (e : Ending) (w' : World), (Ln2 B G (stl l s b) e w' ∧ Keep B G w w') → LnPost B G l s b w e w' := fun e w' h =>
      ⟨fun h' => by rw [Hst.out] at h'; exact absurd h' (by decide), fun _ => h.1, h.2⟩
    have Fin := Lib.hid fin
    clear fin hb1 s0 b0
    generalize stl l s b = L at *
    have Hf1 := Lib.hid hf1
    obtain ⟨hBG, A, n, c, hn, hblk, hown⟩ := hf1
    subst hn
    have h0 := hblk.cell 0
    simp only [List.getElem?_toArray, List.getElem?_cons_zero] at h0
    have hcap := cons_row hown
    have Hr := Lib.hid (Reads.of_own hown)
    have hfz2 := hblk.frozen 2
    have h2 := hblk.cell 2
    simp only [List.getElem?_toArray, List.getElem?_cons_zero, List.getElem?_cons_succ] at h2
    have hsz := Hb1.out.size
    have hc2 : c ≤ 9223372036854775807 := by have := hcap.2; unfold maxLen at this; omega
    have hlf := lfi_le L
    clear hblk hown
    go_wp2_with fail
    go_step3
    go_wp2_with fail
    go_loop [5] (fun i => ∃ k : Nat, k ≤ lfi L ∧ i = .int .i64 k) (fun i => L.length + 1 - (intOf i).toNat)
    case atStart => exact ⟨0, by omega, rfl⟩
    case round =>
      obtain ⟨k, hk, rfl⟩ := hrel
      by_cases hlt : k < L.length
      · obtain ⟨ad, hA, hx, hcx⟩ := Reads.ints_at Hr.out k hlt
        subst hA
        by_cases hkk : k = lfi L
        · have h10 : L.getD k 0 = 10 := by rw [hkk]; exact lfi_at (by omega)
          rw [h10] at hcx
          have Hkk := Lib.hid hkk
          have Hlt := Lib.hid hlt
          clear hkk h10
          go_wp2_with fail
          have hB1 : B ≤ w1.heap.size := by omega
          have hrt : Reads (w1.alloc (.cells #[.int .u8 13] 5)) (w1.alloc (.cells #[.int .u8 13] 5)).heap.size 1 (some ad) k (Ints .u8 (L.take k)) := by
            have := ((Hr.out.take_ (show k ≤ L.length by omega)).alloc (Nat.le_refl _) (.cells #[.int .u8 13] 5)).more (B' := (w1.alloc (.cells #[.int .u8 13] 5)).heap.size) (by simp)
            rw [Ints_take] at this
            exact this
          have hrs : Reads (w1.alloc (.cells #[.int .u8 13] 5)) (w1.alloc (.cells #[.int .u8 13] 5)).heap.size 1 (some ⟨w1.heap.size, 0, none⟩) 1 (Ints .u8 [13]) := blk_reads (Blk.new w1 5 _) rfl
          have htl : (L.take k).length = k := by rw [List.length_take]; omega
          have htb := take_lt hLb k
          have hcx2 : k ≤ c := by omega
          have Hcap := Lib.hid hcap
          refine (trim_any (some ad) _ k c 1 (L.take k) _ htl (by omega) hcx2 hcap.2 htb hrt hrs).mono ?_
          rintro e w2 ⟨rfl, rfl⟩
          have htrl := trim_le (L.take k)
          have hcv := conv_reads (P := Try.prog) 26 5 9 Try.underlying26 Try.underlying5 Try.underlying9 (trim (L.take k)) c (trim_reads hrt) (trim_lt htb)
          have hfA := Hf1.out.alloc (.cells #[.int .u8 13] 5)
          have hbA : Keep B G w (w1.alloc (.cells #[.int .u8 13] 5)) := Hb1.out.alloc hB1 _
          have Hta := Lib.hid (show lineS L = (if 256 < (trim (L.take k)).length then [] else trim (L.take k)) by rw [Hkk.out]; unfold lineS; rw [if_neg (by have := Hlt.out; have := Hkk.out; omega)])
          have Hto := Lib.hid (show lineO L = decide ((trim (L.take k)).length ≤ 256) by rw [Hkk.out]; unfold lineO; rw [if_neg (by have := Hlt.out; have := Hkk.out; omega)])
          have Hte := Lib.hid (show lineE L = (if 256 < (trim (L.take k)).length then 2 else 0) by rw [Hkk.out]; unfold lineE; rw [if_neg (by have := Hlt.out; have := Hkk.out; omega)])
          have hsz3 := strB_size (trim (L.take k))
          generalize trim (L.take k) = T at *
          clear hrt hrs htl htb
          go_wp2_with fail
          clear hcv
          refine (drop_any B G (k + 1) L 0 false _ (by have := Hlt.out; omega) hLl (by simp; omega) hfA).mono ?_
          rintro e w3 ⟨rfl, hf3, hb3⟩
          have Hf3 := Lib.hid hf3
          have Hb3 := Lib.hid (hbA.trans hb3)
          have Hsz3 := Lib.hid hsz3
          clear hf3 hb3 hfA hbA hsz3 hcx h0 h2 hfz2
          generalize hS : strB T = S at *
          have HS := Lib.hid hS
          clear hS
          by_cases h256 : 256 < S.size
          · go_wp2_with fail
            try rw [Exit.noGoto_ret]
            go_ret3
            refine Fin.out _ _ ⟨⟨?_, fun h => by have := Hlt.out; have := Hkk.out; omega, fun h => by have := Hlt.out; have := Hkk.out; omega, fun _ => by rw [← Hkk.out]; exact Hf3.out⟩, Hb3.out⟩
            rw [Hta.out, Hto.out, Hte.out, if_pos (by have := Hsz3.out; omega), if_pos (by have := Hsz3.out; omega), decide_eq_false (p := T.length ≤ 256) (by have := Hsz3.out; omega)]
            rfl
          · go_wp2_with fail
            try rw [Exit.noGoto_ret]
            go_ret3
            refine Fin.out _ _ ⟨⟨?_, fun h => by have := Hlt.out; have := Hkk.out; omega, fun h => by have := Hlt.out; have := Hkk.out; omega, fun _ => by rw [← Hkk.out]; exact Hf3.out⟩, Hb3.out⟩
            rw [Hta.out, Hto.out, Hte.out, if_neg (by have := Hsz3.out; omega), if_neg (by have := Hsz3.out; omega), decide_eq_true (p := T.length ≤ 256) (by have := Hsz3.out; omega), HS.out]
            rfl
        · have h10 : ((L.getD k 0 : Nat) : Int) ≠ 10 := by
            have := lfi_before (show k < lfi L by omega)
            omega
          generalize L.getD k 0 = v at *
          have h11 : ((v : Int) == 10) = false := by rw [beq_eq_false_iff_ne]; exact h10
          clear h10
          go_wp2_with fail
          go_round
          case rel => exact ⟨k + 1, by omega, by go_num⟩
          case measure => simp [intOf]; omega
      · have hkk : k = L.length := by omega
        have hkl : lfi L = L.length := by omega
        have Hkl := Lib.hid hkl
        clear hkl
        subst hkk
        by_cases h258 : L.length < 258
        · go_wp2_with fail
          try rw [Exit.noGoto_ret]
          go_ret3
          refine Fin.out _ _ ⟨⟨?_, fun _ _ => Hf1.out, fun _ h => by omega, fun h => by have := Hkl.out; omega⟩, Hb1.out⟩
          simp only [lineS, lineO, lineE, if_pos Hkl.out, if_pos h258]
          rfl
        · go_wp2_with fail
          have hf2 := Hf1.out.long true
          have hb2 : Keep B G w (w1.setCell ⟨G, 2, none⟩ (.bool true)) := Hb1.out.setG _ _
          generalize hW : w1.setCell ⟨G, 2, none⟩ (.bool true) = w2 at *
          clear hW
          refine (settle_any B G L 0 true w2 hLb hLl (by decide) (by have := hb2.size; omega) hf2).mono ?_
          rintro e w3 ⟨rfl, hf3, hb3⟩
          have Hf3 := Lib.hid hf3
          have Hb3 := Lib.hid (hb2.trans hb3)
          clear hf3 hb3 hf2 hb2
          go_wp2_with fail
          try rw [Exit.noGoto_ret]
          go_ret3
          refine Fin.out _ _ ⟨⟨?_, fun _ h => by omega, fun _ _ => ?_, fun h => by have := Hkl.out; omega⟩, Hb3.out⟩
          · simp only [lineS, lineO, lineE, if_pos Hkl.out, if_neg h258]
            rfl
          · have := Hf3.out
            simp only [stl, stn, stb, if_true, Hkl.out, beq_self_eq_true, Bool.and_self] at this
            exact this
theorem line_step (B G : Nat) (l : List Nat) (b : Bool) (w : World) (hb : ∀ i, l.getD i 0 < 256) (hl : l.length ≤ 10000000) (hB : B ≤ w.heap.size) (hf : Frm w B G l 0 b) :
    Calls Try.prog 12 #[.pointer (some ⟨G, 0, none⟩)] w fun e w' => LStep B G l b e w' ∧ Keep B G w w' := by
  refine (line_any B G l 0 b w hb hl (by decide) hB hf).mono ?_
  rintro e w' ⟨h1, h2, h3⟩
  refine ⟨?_, h3⟩
  have hn : stn l 0 b = 0 := by unfold stn skn; split <;> (try split) <;> simp
  have hr := run_settle l b
  cases hs : str l 0 b
  · obtain ⟨h4, h5⟩ := h1 hs
    have hsb : stb l b = true := by
      cases hq : stb l b
      · simp [str, hq, hn] at hs
      · rfl
    have hbt : b = true ∧ lfi l = l.length := by simpa [stb] using hsb
    obtain ⟨rfl, hx⟩ := hbt
    have := run_true (lfi_none hx)
    rw [hn, hsb] at h5
    refine .inl ⟨h4, this.1, ?_⟩
    rw [this.2]
    have e : stl l 0 true = [] := by simp [stl, hx]
    rw [e] at h5
    exact h5
  · have hq := ln2_step (stl_lt hb 0 b) (h2 hs)
    have hsb := (str_true hs).2
    rw [hsb] at hr
    unfold LStep at hq ⊢
    rw [hr.1, hr.2] at hq
    rcases hq with h | ⟨l', b', q1, q2, q3, q4, h | ⟨m, g1, g2, g3, g4⟩⟩
    · exact .inl h
    · exact .inr ⟨l', b', Nat.lt_of_lt_of_le q1 (stl_len l 0 b), q2, q3, q4, .inl h⟩
    · exact .inr ⟨l', b', Nat.lt_of_lt_of_le q1 (stl_len l 0 b), q2, q3, q4, .inr ⟨m, g1, Nat.le_trans g2 (stl_len l 0 b), g3, g4⟩⟩
/-- What Feed leaves, told by the law of one byte after the other. -/
def FedPost (B G : Nat) (p m : List Nat) (w : World) (e : Ending) (w' : World) : Prop :=
  e = .returned (.tuple #[]) ∧ ∃ X Y, Frm w' B G X 0 Y ∧ X.length ≤ p.length + m.length ∧ (∀ i, X.getD i 0 < 256) ∧
    runE ([], false) (p ++ m) = runE ([], false) p ++ runE ([], Y) X ∧ runS ([], false) (p ++ m) = runS ([], Y) X ∧ Keep B G w w'
theorem fed_any (B G : Nat) (p m : List Nat) (S : Option Addr) (k sc : Nat) (w : World) (hb : ∀ i, p.getD i 0 < 256) (hbm : ∀ i, m.getD i 0 < 256) (hl : p.length + k ≤ 10000000) (hB : B ≤ w.heap.size)
    (hf : Frm w B G (runS ([], false) p).1 0 (runS ([], false) p).2) (hr : Reads w w.heap.size 1 S k (Ints .u8 m)) :
    Calls Try.prog 11 #[.pointer (some ⟨G, 0, none⟩), .slice S k sc] w (FedPost B G p m w) := by
  have hmk : m.length = k := by have := hr.1; rw [Ints_length] at this; omega
  have hcb : ∀ i, (runS ([], false) p).1.getD i 0 < 256 := runS_lt (by intro i; simp) hb
  have hcl := lenS p ([], false)
  simp only [List.length_nil, Nat.zero_add] at hcl
  refine (feed_any B G _ m 0 _ S k sc w hcb hbm (by omega) (by decide) hB hf hr).mono ?_
  rintro e w' ⟨h1, h2, h3⟩
  rw [stn0] at h2
  obtain ⟨m1, m2⟩ := run_more (ok_start false) p m
  obtain ⟨s1, s2⟩ := run_settle ((runS ([], false) p).1 ++ m) (runS ([], false) p).2
  refine ⟨h1, _, _, h2, ?_, stl_lt (getD_append_lt hcb hbm) _ _, ?_, ?_, h3⟩
  · have := stl_len ((runS ([], false) p).1 ++ m) 0 (runS ([], false) p).2
    rw [List.length_append] at this
    omega
  · rw [m1, s1]
  · rw [m2, s2]
/-- A row of texts stays where the framer works; the framer stays where a row of texts is written. -/
theorem own_keep {w w' : World} {B G n : Nat} {v : Value} {xs : List Value} {cs : Array Value} (h : w.ownsRow B 9 1 v n xs) (hk : Keep B G w w') (hG : Blk w G 46 cs) : w'.ownsRow B 9 1 v n xs := by
  refine ⟨h.1, ?_⟩
  rcases h.2 with hn | ⟨g, cap, cur, rfl, hb, hgg, rest⟩
  · exact .inl hn
  · have hne : g ≠ G := fun e => by subst e; exact Blk.ne_ (t := 9) hgg hG (by decide) rfl
    exact .inr ⟨g, cap, cur, rfl, hb, (hk.block g ⟨Blk.lt (t := 9) hgg, hne, .inr ⟨9, cur, hgg, by decide⟩⟩).trans hgg, rest⟩
theorem frm_blk {w : World} {B G : Nat} {l : List Nat} {s : Nat} {b : Bool} (h : Frm w B G l s b) : ∃ cs, Blk w G 46 cs := by
  obtain ⟨hBG, A, n, c, hn, hblk, hown⟩ := h
  exact ⟨_, hblk⟩
theorem frm_beside {w w' : World} {B G n : Nat} {l : List Nat} {s : Nat} {b : Bool} {v : Value} {xs : List Value} (h : Frm w B G l s b) (ho : w.ownsRow B 9 1 v n xs) (hg : w.grownBy w' v.ownBlock) : Frm w' B G l s b := by
  obtain ⟨hBG, A, n, c, hn, hblk, hown⟩ := h
  have hne := own_blk_ne ho hblk (by decide)
  refine ⟨hBG, A, n, c, hn, hblk.grown hg (fun e => hne e.symm), hown.kept hg ?_⟩
  cases A with
  | none => exact .inl rfl
  | some a =>
    refine .inr ?_
    cases hv : v.ownBlock with
    | none => intro e; cases e
    | some q =>
      obtain ⟨_, cs, hq⟩ := own_row ho hv
      exact own_blk_ne hown hq (by decide)
end Go.Proofs.Ytmpiacoddifjiaa.tk
