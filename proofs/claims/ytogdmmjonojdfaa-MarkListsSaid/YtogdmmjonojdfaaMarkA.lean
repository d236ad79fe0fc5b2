/- Words for mark: which blocks turn, rows of numbers (as NvmA has them), and the queue. -/
import Derived.Test.YtogdmmjonojdfaaRows
import Derived.Test.YtogdmmjonojdfaaMem
import Derived.WalkLawsBesides
import Derived.WalkSpells
import Derived.Handy
import Derived.BigQuiet
import Derived.Maps.RangeWalk
import Derived.Maps.OwnSet
import Derived.Maps.Views
namespace Go.Proofs.Ytogdmmjonojdfaa
open Go.RowKit
set_option linter.unusedVariables false

/-- Only the blocks of S turn; new ones may come. -/
structure Mv (S : Nat → Prop) (w w' : World) : Prop where
  os : w'.os = w.os
  tape : w'.tape = w.tape
  output : w'.output = w.output
  size : w.heap.size ≤ w'.heap.size
  block : ∀ k, k < w.heap.size → ¬ S k → w'.heap[k]? = w.heap[k]?
section
variable {S S' : Nat → Prop} {w w' w'' : World}
theorem Mv.refl (S : Nat → Prop) (w : World) : Mv S w w := ⟨rfl, rfl, rfl, Nat.le_refl _, fun _ _ _ => rfl⟩
theorem Mv.trans' (h : Mv S w w') (k : Mv S' w' w'') (hs : ∀ b, b < w.heap.size → S' b → S b) : Mv S w w'' :=
  ⟨k.os.trans h.os, k.tape.trans h.tape, k.output.trans h.output, Nat.le_trans h.size k.size, fun b hb hn => (k.block b (Nat.lt_of_lt_of_le hb h.size) (fun hx => hn (hs b hb hx))).trans (h.block b hb hn)⟩
theorem Mv.trans (h : Mv S w w') (k : Mv S w' w'') : Mv S w w'' := h.trans' k (fun _ _ h => h)
theorem Mv.mono (h : Mv S w w') (hs : ∀ b, b < w.heap.size → S b → S' b) : Mv S' w w' := ⟨h.os, h.tape, h.output, h.size, fun b hb hn => h.block b hb (fun hx => hn (hs b hb hx))⟩
theorem Mv.drew (h : Mv S w w') : Mv S w w'.drew := ⟨h.os, h.tape, h.output, h.size, h.block⟩
theorem Mv.drewN (h : Mv S w w') (n : Nat) : Mv S w (w'.drewN n) := ⟨h.os, h.tape, h.output, h.size, h.block⟩
theorem Mv.alloc (h : Mv S w w') (o : Obj) : Mv S w (w'.alloc o) :=
  ⟨h.os, h.tape, h.output, Nat.le_trans h.size (by simp), fun b hb hn => (Below.heap_alloc w' o b (Nat.lt_of_lt_of_le hb h.size)).trans (h.block b hb hn)⟩
theorem Mv.setCell (h : Mv S w w') {p : Addr} (hp : p.block < w.heap.size → S p.block) (u : Value) : Mv S w (w'.setCell p u) :=
  ⟨h.os, h.tape, h.output, Nat.le_trans h.size (by simp [World.setCell]), fun b hb hn => (Below.heap_setCell w' p u b (fun e => hn (e ▸ hp (e ▸ hb)))).trans (h.block b hb hn)⟩
theorem Mv.grown (h : Mv S w w') {row : Option Nat} (hg : w'.grownBy w'' row) (hr : ∀ g, row = some g → g < w.heap.size → S g) : Mv S w w'' :=
  ⟨hg.os.trans h.os, hg.tape.trans h.tape, hg.output.trans h.output, Nat.le_trans h.size hg.size, fun b hb hn => (hg.block b (Nat.lt_of_lt_of_le hb h.size) (fun e => hn (hr b e.symm hb))).trans (h.block b hb hn)⟩
theorem Mv.of_below (h : Below w.heap.size w w') (S : Nat → Prop) : Mv S w w' := ⟨h.os, h.tape, h.output, h.size, fun b hb _ => h.block b hb⟩
theorem Mv.below {B : Nat} (h : Mv S w w') (hB : B ≤ w.heap.size) (hs : ∀ b, S b → B ≤ b) : Below B w w' := ⟨h.os, h.tape, h.output, h.size, fun b hb => h.block b (by omega) (fun hx => by have := hs b hx; omega)⟩
theorem Mv.row_ (h : Mv S w w') {r : Nat} (hs : ∀ b, b < w.heap.size → S b → b = r) : w.grownBy w' (some r) := ⟨h.os, h.tape, h.output, h.size, fun b hb hn => h.block b hb (fun hx => hn (by rw [hs b hb hx]))⟩
theorem Blk.mv {g : Nat} {t : TypeId} {cs : Array Value} (h : Blk w g t cs) (hm : Mv S w w') (hg : ¬ S g) : Blk w' g t cs := (hm.block g h.lt hg).trans h
theorem mv_map {H : Type} {P : Program} {k : TypeId} {R : Value → Option (DataW H × List MemPlace)} {b n : Nat} {D : DataW H} (h : w.ownsMap P k R b n D) (hm : Mv S w w') (hg : ¬ S b) : w'.ownsMap P k R b n D := by
  have hlt := h.lt
  obtain ⟨es, clock, hb, r⟩ := h
  exact ⟨es, clock, (hm.block b hlt hg).trans hb, r⟩
theorem mv_cell (h : Mv S w w') {p : Addr} (hp : p.block < w.heap.size) (hn : ¬ S p.block) : w'.cell? p = w.cell? p := World.cell?_of_block (w := w) (h.block p.block hp hn)
end

/-- A row of words. -/
def words (k : IntKind) (n : Nat) (f : Nat → Int) : Array Value := ((List.range n).map fun i => Value.int k (f i)).toArray
def upd {α : Type} (f : Nat → α) (i : Nat) (v : α) : Nat → α := fun j => if j = i then v else f j
theorem words_size (k : IntKind) (n : Nat) (f : Nat → Int) : (words k n f).size = n := by simp [words]
theorem words_get (k : IntKind) (n : Nat) (f : Nat → Int) {i : Nat} (h : i < n) : (words k n f)[i]? = some (.int k (f i)) := by
  simp [words, h]
theorem words_ext {xs : Array Value} {k : IntKind} {n : Nat} {f : Nat → Int} (h : xs.size = n) (hg : ∀ i, i < n → xs[i]? = some (.int k (f i))) : xs = words k n f := by
  apply Array.ext
  · rw [words_size, h]
  · intro i h1 h2
    have := hg i (by omega)
    have h3 := words_get k n f (i := i) (by omega)
    rw [← h3, Array.getElem?_eq_getElem h1, Array.getElem?_eq_getElem h2] at this
    exact Option.some.inj this
theorem words_congr {k : IntKind} {n : Nat} {f g : Nat → Int} (h : ∀ i, i < n → f i = g i) : words k n f = words k n g :=
  words_ext (words_size _ _ _) (fun i hi => by rw [words_get k n f hi, h i hi])
theorem words_set (k : IntKind) (n : Nat) (f : Nat → Int) (i : Nat) (v : Int) : (words k n f).setIfInBounds i (.int k v) = words k n (upd f i v) := by
  refine words_ext (by simp [words_size]) (fun j hj => ?_)
  rw [Array.getElem?_setIfInBounds]
  unfold upd
  by_cases h : i = j
  · subst h
    simp [words_size, hj]
  · rw [if_neg h, if_neg (fun e => h e.symm), words_get k n f hj]
theorem words_cell {w : World} {g : Nat} {t : TypeId} {k : IntKind} {n : Nat} {f : Nat → Int} (h : Blk w g t (words k n f)) {i : Nat} (hi : i < n) : w.cell? ⟨g, i, none⟩ = some (.int k (f i)) := by
  rw [h.cell i, words_get k n f hi]

/-- A row of numbers at the head of a block of c cells. -/
def IRow (w : World) (b c n : Nat) (f : Nat → Int) : Prop := ∃ cs, Blk w b 3 cs ∧ cs.size = c ∧ n ≤ c ∧ c ≤ maxLen ∧ ∀ i, i < n → cs[i]? = some (.int .i64 (f i))
section
variable {S : Nat → Prop} {w w' : World} {b c n : Nat} {f : Nat → Int}
theorem IRow.lt (h : IRow w b c n f) : b < w.heap.size := by obtain ⟨cs, hb, _⟩ := h; exact hb.lt
theorem IRow.cell (h : IRow w b c n f) {i : Nat} (hi : i < n) : w.cell? ⟨b, i, none⟩ = some (.int .i64 (f i)) := by obtain ⟨cs, hb, _, _, _, hc⟩ := h; rw [hb.cell i, hc i hi]
theorem IRow.frozen (h : IRow w b c n f) (i : Nat) : w.frozen? ⟨b, i, none⟩ = false := by obtain ⟨cs, hb, _⟩ := h; exact hb.frozen i
theorem IRow.cap (h : IRow w b c n f) : n ≤ c ∧ c ≤ maxLen := by obtain ⟨cs, _, _, h1, h2, _⟩ := h; exact ⟨h1, h2⟩
theorem IRow.mv (h : IRow w b c n f) (hm : Mv S w w') (hg : ¬ S b) : IRow w' b c n f := by obtain ⟨cs, hb, r⟩ := h; exact ⟨cs, hb.mv hm hg, r⟩
theorem IRow.ne_ {g : Nat} {t : TypeId} {xs : Array Value} (h : IRow w b c n f) (hg : Blk w g t xs) (ht : t ≠ 3) : g ≠ b := by obtain ⟨cs, hb, _⟩ := h; exact hg.ne_ hb ht
theorem IRow.set_ (h : IRow w b c n f) (i : Nat) (v : Int) : IRow (w.setCell ⟨b, i, none⟩ (.int .i64 v)) b c n (upd f i v) := by
  obtain ⟨cs, hb, h1, h2, h3, h4⟩ := h
  refine ⟨_, hb.set_ i _, by simp [h1], h2, h3, fun j hj => ?_⟩
  rw [Array.getElem?_setIfInBounds]
  unfold upd
  by_cases e : i = j
  · subst e
    rw [if_pos rfl, if_pos rfl, if_pos (by omega)]
  · rw [if_neg e, if_neg (fun e' => e e'.symm), h4 j hj]
theorem IRow.reads (h : IRow w b c n f) (k m : Nat) (hk : k + m ≤ n) : Reads w w.heap.size 1 (some ⟨b, k, none⟩) m ((List.range m).map fun j => Value.int .i64 (f (k + j))) := by
  refine ⟨by simp, fun _ => ⟨_, rfl, h.lt, fun j u hj => ?_⟩⟩
  have hjm : j < m := by
    rcases Nat.lt_or_ge j m with h1 | h1
    · exact h1
    · rw [List.getElem?_eq_none (by simp; omega)] at hj; cases hj
  rw [List.getElem?_map, List.getElem?_range hjm] at hj
  cases hj
  rw [show ((⟨b, k, none⟩ : Addr).add j) = ⟨b, k + j, none⟩ by unfold Addr.add; split <;> simp_all]
  exact h.cell (by omega)
theorem IRow.of_own {B : Nat} {A : Option Addr} (h : w.ownsRow B 3 1 (.slice A n c) n ((List.range n).map fun j => Value.int .i64 (f j))) (hn : 0 < n) : ∃ b, A = some ⟨b, 0, none⟩ ∧ B ≤ b ∧ IRow w b c n f := by
  rcases h.2 with ⟨h1, h2⟩ | ⟨g, cap, cur, hv, hg, hh, h3, h4, h5, h6⟩
  · omega
  · injection hv with e1 e2 e3
    subst e1; subst e3
    refine ⟨g, rfl, hg, cur, hh, by simpa using h5, by simpa using h3, h4, fun i hi => ?_⟩
    have : (cur.toList.take n)[i]? = some (Value.int .i64 (f i)) := by
      have h7 : cur.toList.take n = (List.range n).map fun j => Value.int .i64 (f j) := by simpa using h6
      rw [h7]; simp [hi]
    rw [List.getElem?_take_of_lt hi] at this
    simpa using this
end


theorem IRow.own {w : World} {b c n : Nat} {f : Nat → Int} (h : IRow w b c n f) (B : Nat) (hB : B ≤ b) : w.ownsRow B 3 1 (.slice (some ⟨b, 0, none⟩) n c) n ((List.range n).map fun j => Value.int .i64 (f j)) := by
  obtain ⟨cs, hb, h1, h2, h3, h4⟩ := h
  refine ⟨by simp, .inr ⟨b, c, cs, rfl, hB, hb, h2, h3, by omega, ?_⟩⟩
  apply List.ext_getElem?
  intro i
  rw [Nat.mul_one]
  by_cases hi : i < n
  · rw [List.getElem?_take_of_lt hi]
    simp [hi]
    have := h4 i hi
    simpa using this
  · rw [List.getElem?_eq_none (by simp; omega), List.getElem?_eq_none (by simp; omega)]
theorem range_push (n : Nat) (f : Nat → Int) (E : Int) : ((List.range n).map fun j => Value.int .i64 (f j)) ++ [Value.int .i64 E] = (List.range (n + 1)).map fun j => Value.int .i64 (upd f n E j) := by
  rw [List.range_succ, List.map_append]
  congr 1
  · apply List.map_congr_left
    intro j hj
    have : j < n := by simpa using hj
    simp [upd, show j ≠ n by omega]
  · simp [upd]
/-- Append one number to a row. -/
theorem wpList_pushZ {P : Program} {ops : Array Oper} {rest : List Oper} {o : Oper} {a : Act} {Q : Exit → Act → World → Prop} (w : World) (hgd : o.guard = none) (s x : Operand) (t : TypeId)
    (ho : o.op = .call { callee := .builtin .append, args := #[s, x], argTypes := #[t, t] })
    (B : Nat) (e : TypeId) (i : TypeInfo) (k : IntKind) (bytes : Nat) (ht : P.underlying t = some (.slice e)) (hi : P.info? e = some i) (hz : i.zero = some (.int k 0))
    (hsize : i.size = 1) (hby : i.bytes = bytes)
    (A : Option Addr) (j cap : Nat) (xs : List Value) (hs : a.eval s = .slice A j cap) (hown : w.ownsRow B e 1 (.slice A j cap) j xs)
    (E : Int) (m : Nat) (hx : a.eval x = .slice (some ⟨w.heap.size, 0, none⟩) 1 m) (h63 : j + 1 ≤ maxLen) (hbytes : (j + 1) * bytes ≤ 140737488355328) (hbase : B ≤ w.heap.size)
    (h : ∀ g cap' w', w'.ownsRow B e 1 (.slice (some ⟨g, 0, none⟩) (j + 1) cap') (j + 1) (xs ++ [.int k E]) → w.grownBy w' (Value.slice A j cap).ownBlock → w.heap.size < w'.heap.size → ((Value.slice A j cap).ownBlock = some g ∨ w.heap.size ≤ g) → wpList P ops Q rest (a.put o.dst (.slice (some ⟨g, 0, none⟩) (j + 1) cap')) w') :
    wpList P ops Q (o :: rest) a (w.alloc (.cells #[.int k E] e)) := by
  refine wpList_append_lies (w.alloc (.cells #[.int k E] e)) hgd s x t ho B e i (.int k 0) 1 bytes ht hi hz hsize hby rfl (by decide) _ j xs hs (hown.alloc _) ⟨w.heap.size, 0, none⟩ 1 m [.int k E] hx rfl ?_ ?_ (by decide) h63 hbytes ?_ (w.heap.size + 1) (by simp) ?_
  · intro q u hu
    have hq : q = 0 := by
      rcases Nat.eq_zero_or_pos q with h0 | h0
      · exact h0
      · rw [List.getElem?_eq_none (by simp; omega)] at hu
        cases hu
    subst hq
    have := (Blk.new w e #[.int k E]).cell 0
    simp at hu
    subst hu
    have e0 : (⟨w.heap.size, 0, none⟩ : Addr).add 0 = ⟨w.heap.size, 0, none⟩ := by unfold Addr.add; simp
    rw [e0]
    exact this
  · intro u hu
    simp at hu
    subst hu
    rfl
  · simp
    omega
  · intro g cap' w' hown' hgrow hat hlt
    have hsz : w.heap.size + 1 ≤ w'.heap.size := by have := hgrow.size; simpa using this
    refine h g cap' w' hown' ⟨hgrow.os, hgrow.tape, hgrow.output, by omega, fun q hq hne => ?_⟩ (by omega) ?_
    · rw [hgrow.block q (by simp; omega) hne]
      exact Below.heap_alloc w _ q hq
    · rcases hat with hat | rfl
      · exact .inl hat
      · exact .inr (by omega)
end Go.Proofs.Ytogdmmjonojdfaa
