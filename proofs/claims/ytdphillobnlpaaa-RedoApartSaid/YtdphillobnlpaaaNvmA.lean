/- Words for a device: which blocks an operation may turn, rows of words, lines on their way. -/
import Derived.Test.YtdphillobnlpaaaRows
import Derived.Test.YtdphillobnlpaaaMem
import Derived.WalkLawsBesides
import Derived.WalkSpells
import Derived.Handy
import Derived.Maps.RangeWalk
import Derived.Maps.OwnSet
import Derived.Maps.Views
namespace Go.Proofs.Ytdphillobnlpaaa
open Go.RowKit
set_option linter.unusedVariables false

/-- Only the blocks of S turn; new ones may come. -/
structure Mv (S : Nat → Prop) (w w' : World) : Prop where
  os : w'.os = w.os
  tape : w'.tape = w.tape
  output : w'.output = w.output
  size : w.heap.size ≤ w'.heap.size
  block : ∀ k, k < w.heap.size → ¬ S k → w'.heap[k]? = w.heap[k]?
section
variable {S S' : Nat → Prop} {w w' w'' : World}
theorem Mv.refl (S : Nat → Prop) (w : World) : Mv S w w := ⟨rfl, rfl, rfl, Nat.le_refl _, fun _ _ _ => rfl⟩
theorem Mv.trans' (h : Mv S w w') (k : Mv S' w' w'') (hs : ∀ b, b < w.heap.size → S' b → S b) : Mv S w w'' :=
  ⟨k.os.trans h.os, k.tape.trans h.tape, k.output.trans h.output, Nat.le_trans h.size k.size, fun b hb hn => (k.block b (Nat.lt_of_lt_of_le hb h.size) (fun hx => hn (hs b hb hx))).trans (h.block b hb hn)⟩
theorem Mv.trans (h : Mv S w w') (k : Mv S w' w'') : Mv S w w'' := h.trans' k (fun _ _ h => h)
theorem Mv.mono (h : Mv S w w') (hs : ∀ b, b < w.heap.size → S b → S' b) : Mv S' w w' := ⟨h.os, h.tape, h.output, h.size, fun b hb hn => h.block b hb (fun hx => hn (hs b hb hx))⟩
theorem Mv.drew (h : Mv S w w') : Mv S w w'.drew := ⟨h.os, h.tape, h.output, h.size, h.block⟩
theorem Mv.drewN (h : Mv S w w') (n : Nat) : Mv S w (w'.drewN n) := ⟨h.os, h.tape, h.output, h.size, h.block⟩
theorem Mv.alloc (h : Mv S w w') (o : Obj) : Mv S w (w'.alloc o) :=
  ⟨h.os, h.tape, h.output, Nat.le_trans h.size (by simp), fun b hb hn => (Below.heap_alloc w' o b (Nat.lt_of_lt_of_le hb h.size)).trans (h.block b hb hn)⟩
theorem Mv.setCell (h : Mv S w w') {p : Addr} (hp : p.block < w.heap.size → S p.block) (u : Value) : Mv S w (w'.setCell p u) :=
  ⟨h.os, h.tape, h.output, Nat.le_trans h.size (by simp [World.setCell]), fun b hb hn => (Below.heap_setCell w' p u b (fun e => hn (e ▸ hp (e ▸ hb)))).trans (h.block b hb hn)⟩
theorem Mv.grown (h : Mv S w w') {row : Option Nat} (hg : w'.grownBy w'' row) (hr : ∀ g, row = some g → g < w.heap.size → S g) : Mv S w w'' :=
  ⟨hg.os.trans h.os, hg.tape.trans h.tape, hg.output.trans h.output, Nat.le_trans h.size hg.size, fun b hb hn => (hg.block b (Nat.lt_of_lt_of_le hb h.size) (fun e => hn (hr b e.symm hb))).trans (h.block b hb hn)⟩
theorem Mv.of_below (h : Below w.heap.size w w') (S : Nat → Prop) : Mv S w w' := ⟨h.os, h.tape, h.output, h.size, fun b hb _ => h.block b hb⟩
theorem Mv.below {B : Nat} (h : Mv S w w') (hB : B ≤ w.heap.size) (hs : ∀ b, S b → B ≤ b) : Below B w w' := ⟨h.os, h.tape, h.output, h.size, fun b hb => h.block b (by omega) (fun hx => by have := hs b hx; omega)⟩
theorem Mv.row_ (h : Mv S w w') {r : Nat} (hs : ∀ b, b < w.heap.size → S b → b = r) : w.grownBy w' (some r) := ⟨h.os, h.tape, h.output, h.size, fun b hb hn => h.block b hb (fun hx => hn (by rw [hs b hb hx]))⟩
theorem Blk.mv {g : Nat} {t : TypeId} {cs : Array Value} (h : Blk w g t cs) (hm : Mv S w w') (hg : ¬ S g) : Blk w' g t cs := (hm.block g h.lt hg).trans h
theorem mv_map {H : Type} {P : Program} {k : TypeId} {R : Value → Option (DataW H × List MemPlace)} {b n : Nat} {D : DataW H} (h : w.ownsMap P k R b n D) (hm : Mv S w w') (hg : ¬ S b) : w'.ownsMap P k R b n D := by
  have hlt := h.lt
  obtain ⟨es, clock, hb, r⟩ := h
  exact ⟨es, clock, (hm.block b hlt hg).trans hb, r⟩
theorem mv_cell (h : Mv S w w') {p : Addr} (hp : p.block < w.heap.size) (hn : ¬ S p.block) : w'.cell? p = w.cell? p := World.cell?_of_block (w := w) (h.block p.block hp hn)
end

/-- A row of words. -/
def words (k : IntKind) (n : Nat) (f : Nat → Int) : Array Value := ((List.range n).map fun i => Value.int k (f i)).toArray
def upd {α : Type} (f : Nat → α) (i : Nat) (v : α) : Nat → α := fun j => if j = i then v else f j
theorem words_size (k : IntKind) (n : Nat) (f : Nat → Int) : (words k n f).size = n := by simp [words]
theorem words_get (k : IntKind) (n : Nat) (f : Nat → Int) {i : Nat} (h : i < n) : (words k n f)[i]? = some (.int k (f i)) := by
  simp [words, h]
theorem words_ext {xs : Array Value} {k : IntKind} {n : Nat} {f : Nat → Int} (h : xs.size = n) (hg : ∀ i, i < n → xs[i]? = some (.int k (f i))) : xs = words k n f := by
  apply Array.ext
  · rw [words_size, h]
  · intro i h1 h2
    have := hg i (by omega)
    have h3 := words_get k n f (i := i) (by omega)
    rw [← h3, Array.getElem?_eq_getElem h1, Array.getElem?_eq_getElem h2] at this
    exact Option.some.inj this
theorem words_congr {k : IntKind} {n : Nat} {f g : Nat → Int} (h : ∀ i, i < n → f i = g i) : words k n f = words k n g :=
  words_ext (words_size _ _ _) (fun i hi => by rw [words_get k n f hi, h i hi])
theorem words_set (k : IntKind) (n : Nat) (f : Nat → Int) (i : Nat) (v : Int) : (words k n f).setIfInBounds i (.int k v) = words k n (upd f i v) := by
  refine words_ext (by simp [words_size]) (fun j hj => ?_)
  rw [Array.getElem?_setIfInBounds]
  unfold upd
  by_cases h : i = j
  · subst h
    simp [words_size, hj]
  · rw [if_neg h, if_neg (fun e => h e.symm), words_get k n f hj]
theorem words_cell {w : World} {g : Nat} {t : TypeId} {k : IntKind} {n : Nat} {f : Nat → Int} (h : Blk w g t (words k n f)) {i : Nat} (hi : i < n) : w.cell? ⟨g, i, none⟩ = some (.int k (f i)) := by
  rw [h.cell i, words_get k n f hi]

/-- A row of words at the head of a block of c cells. -/
def Row (w : World) (b c n : Nat) (f : Nat → Int) : Prop := ∃ cs, Blk w b 28 cs ∧ cs.size = c ∧ n ≤ c ∧ c ≤ maxLen ∧ ∀ i, i < n → cs[i]? = some (.int .u64 (f i))
section
variable {S : Nat → Prop} {w w' : World} {b c n : Nat} {f : Nat → Int}
theorem Row.lt (h : Row w b c n f) : b < w.heap.size := by obtain ⟨cs, hb, _⟩ := h; exact hb.lt
theorem Row.cell (h : Row w b c n f) {i : Nat} (hi : i < n) : w.cell? ⟨b, i, none⟩ = some (.int .u64 (f i)) := by obtain ⟨cs, hb, _, _, _, hc⟩ := h; rw [hb.cell i, hc i hi]
theorem Row.frozen (h : Row w b c n f) (i : Nat) : w.frozen? ⟨b, i, none⟩ = false := by obtain ⟨cs, hb, _⟩ := h; exact hb.frozen i
theorem Row.cap (h : Row w b c n f) : n ≤ c ∧ c ≤ maxLen := by obtain ⟨cs, _, _, h1, h2, _⟩ := h; exact ⟨h1, h2⟩
theorem Row.mv (h : Row w b c n f) (hm : Mv S w w') (hg : ¬ S b) : Row w' b c n f := by obtain ⟨cs, hb, r⟩ := h; exact ⟨cs, hb.mv hm hg, r⟩
theorem Row.ne_ {g : Nat} {t : TypeId} {xs : Array Value} (h : Row w b c n f) (hg : Blk w g t xs) (ht : t ≠ 28) : g ≠ b := by obtain ⟨cs, hb, _⟩ := h; exact hg.ne_ hb ht
theorem Row.set_ (h : Row w b c n f) (i : Nat) (v : Int) : Row (w.setCell ⟨b, i, none⟩ (.int .u64 v)) b c n (upd f i v) := by
  obtain ⟨cs, hb, h1, h2, h3, h4⟩ := h
  refine ⟨_, hb.set_ i _, by simp [h1], h2, h3, fun j hj => ?_⟩
  rw [Array.getElem?_setIfInBounds]
  unfold upd
  by_cases e : i = j
  · subst e
    rw [if_pos rfl, if_pos rfl, if_pos (by omega)]
  · rw [if_neg e, if_neg (fun e' => e e'.symm), h4 j hj]
theorem Row.reads (h : Row w b c n f) (k m : Nat) (hk : k + m ≤ n) : Reads w w.heap.size 1 (some ⟨b, k, none⟩) m ((List.range m).map fun j => Value.int .u64 (f (k + j))) := by
  refine ⟨by simp, fun _ => ⟨_, rfl, h.lt, fun j u hj => ?_⟩⟩
  have hjm : j < m := by
    rcases Nat.lt_or_ge j m with h1 | h1
    · exact h1
    · rw [List.getElem?_eq_none (by simp; omega)] at hj; cases hj
  rw [List.getElem?_map, List.getElem?_range hjm] at hj
  cases hj
  rw [show ((⟨b, k, none⟩ : Addr).add j) = ⟨b, k + j, none⟩ by unfold Addr.add; split <;> simp_all]
  exact h.cell (by omega)
theorem Row.of_own {B : Nat} {A : Option Addr} (h : w.ownsRow B 28 1 (.slice A n c) n ((List.range n).map fun j => Value.int .u64 (f j))) (hn : 0 < n) : ∃ b, A = some ⟨b, 0, none⟩ ∧ B ≤ b ∧ Row w b c n f := by
  rcases h.2 with ⟨h1, h2⟩ | ⟨g, cap, cur, hv, hg, hh, h3, h4, h5, h6⟩
  · omega
  · injection hv with e1 e2 e3
    subst e1; subst e3
    refine ⟨g, rfl, hg, cur, hh, by simpa using h5, by simpa using h3, h4, fun i hi => ?_⟩
    have : (cur.toList.take n)[i]? = some (Value.int .u64 (f i)) := by
      have h7 : cur.toList.take n = (List.range n).map fun j => Value.int .u64 (f j) := by simpa using h6
      rw [h7]; simp [hi]
    rw [List.getElem?_take_of_lt hi] at this
    simpa using this
end

/-- How a line on its way reads, as an element of the map: by its block's number. -/
def lineR (v : Value) : Option (DataW Unit × List MemPlace) :=
  match v with
  | .slice (some ⟨b, 0, none⟩) 8 c => if 8 ≤ c ∧ c ≤ maxLen then some (.lit (.int .i64 b), []) else none
  | _ => none
theorem lineR_mk {b c : Nat} (h : 8 ≤ c) (h2 : c ≤ maxLen) : lineR (.slice (some ⟨b, 0, none⟩) 8 c) = some (.lit (.int .i64 b), []) := by simp [lineR, h, h2]
theorem lineR_inv {v : Value} {y : DataW Unit × List MemPlace} (h : lineR v = some y) : ∃ b c, v = .slice (some ⟨b, 0, none⟩) 8 c ∧ 8 ≤ c ∧ c ≤ maxLen ∧ y = (.lit (.int .i64 b), []) := by
  unfold lineR at h
  split at h
  · rename_i b c
    split at h
    · rename_i hc
      cases h
      exact ⟨b, c, rfl, hc.1, hc.2, rfl⟩
    · cases h
  · cases h

/-- What a device is. -/
structure DS where
  now : Nat → Int
  last : Nat → Int
  way : Nat → Option Int
  steps : Int
  fuse : Int
  dead : Bool
/-- Where a device lies. -/
structure Dv where
  d : Nat
  n : Nat
  l : Nat
  m : Nat
  cn : Nat
  cl : Nat
/-- The lines on their way lie in blocks that nobody turns. -/
def Lines (w : World) (A : Nat → Prop) (n : Nat) (D : DataW Unit) (way : Nat → Option Int) : Prop :=
  (∀ q : Int, Maps.has D (.int .i64 q) = true → ∃ k b : Nat, q = ((8 * k : Nat) : Int) ∧ 8 * k + 8 ≤ n ∧ b < w.heap.size ∧ ¬ A b ∧ (∀ z, D.atKey (.int .i64 q) z = .lit (.int .i64 b)) ∧
    ∃ c f, Row w b c 8 f ∧ ∀ j, j < 8 → way (8 * k + j) = some (f j)) ∧
  ∀ i, i < n → Maps.has D (.int .i64 ((8 * (i / 8) : Nat) : Int)) = false → way i = none
theorem Lines.mv {w w' : World} {S A A' : Nat → Prop} {n : Nat} {D : DataW Unit} {way : Nat → Option Int} (h : Lines w A n D way) (hm : Mv S w w') (hs : ∀ b, b < w.heap.size → S b → A b) (hA : ∀ b, b < w.heap.size → A' b → A b) : Lines w' A' n D way := by
  refine ⟨fun q hq => ?_, h.2⟩
  obtain ⟨k, b, e, hk, hb, hn, hat, c, f, hf, hv⟩ := h.1 q hq
  exact ⟨k, b, e, hk, Nat.lt_of_lt_of_le hb hm.size, fun hx => hn (hA b hb hx), hat, c, f, hf.mv hm (fun hx => hn (hs b hb hx)), hv⟩

def Dev (w : World) (A : Nat → Prop) (G : Dv) (n : Nat) (s : DS) : Prop :=
  Blk w G.d 59 #[.slice (some ⟨G.n, 0, none⟩) n G.cn, .slice (some ⟨G.l, 0, none⟩) n G.cl, .map (some G.m), .int .i64 s.steps, .int .i64 s.fuse, .bool s.dead] ∧
  Row w G.n G.cn n s.now ∧ Row w G.l G.cl n s.last ∧ G.n ≠ G.l ∧
  (A G.d ∧ A G.n ∧ A G.l ∧ A G.m) ∧ (8 ≤ n ∧ n ≤ 65536 ∧ n % 8 = 0 ∧ 0 ≤ s.steps ∧ -1 ≤ s.fuse ∧ s.fuse < 9223372036854775808) ∧
  ∃ D, w.ownsMap Try.prog 3 lineR G.m s.steps.toNat D ∧ Lines w A n D s.way
/-- The blocks of a device that turn. -/
def Dv.own (G : Dv) (b : Nat) : Prop := b = G.d ∨ b = G.n ∨ b = G.l ∨ b = G.m
section
variable {w w' : World} {S A A' : Nat → Prop} {G : Dv} {n : Nat} {s : DS}
theorem map_blk_ne {H : Type} {P : Program} {k : TypeId} {R : Value → Option (DataW H × List MemPlace)} {b n : Nat} {D : DataW H} {g : Nat} {t : TypeId} {cs : Array Value} (h : w.ownsMap P k R b n D) (hb : Blk w g t cs) : g ≠ b := by
  rintro rfl
  obtain ⟨es, clock, he, _⟩ := h
  unfold Blk at hb
  rw [he] at hb
  cases hb
theorem Dev.apart (h : Dev w A G n s) : G.d ≠ G.n ∧ G.d ≠ G.l ∧ G.n ≠ G.l ∧ G.d ≠ G.m ∧ G.n ≠ G.m ∧ G.l ≠ G.m ∧ G.d < w.heap.size ∧ G.n < w.heap.size ∧ G.l < w.heap.size ∧ G.m < w.heap.size := by
  obtain ⟨h1, h2, h3, h4, _, _, D, hD, _⟩ := h
  obtain ⟨c2, hc2, _⟩ := id h2
  obtain ⟨c3, hc3, _⟩ := id h3
  exact ⟨h2.ne_ h1 (by decide), h3.ne_ h1 (by decide), h4, map_blk_ne hD h1, map_blk_ne hD hc2, map_blk_ne hD hc3, h1.lt, h2.lt, h3.lt, hD.lt⟩
/-- A device that nobody touches stays. -/
theorem Dev.mv (h : Dev w A G n s) (hm : Mv S w w') (hs : ∀ b, b < w.heap.size → S b → A b) (hA : ∀ b, b < w.heap.size → A' b → A b) (hG : A' G.d ∧ A' G.n ∧ A' G.l ∧ A' G.m) (hS : ∀ b, G.own b → ¬ S b) : Dev w' A' G n s := by
  obtain ⟨h1, h2, h3, h4, _, h6, D, hD, hL⟩ := h
  exact ⟨h1.mv hm (hS _ (.inl rfl)), h2.mv hm (hS _ (.inr (.inl rfl))), h3.mv hm (hS _ (.inr (.inr (.inl rfl)))), h4, hG, h6, D, mv_map hD hm (hS _ (.inr (.inr (.inr rfl)))), hL.mv hm hs hA⟩
theorem Dev.keep (h : Dev w A G n s) (hm : Mv S w w') (hs : ∀ b, b < w.heap.size → S b → A b) (hS : ∀ b, G.own b → ¬ S b) : Dev w' A G n s :=
  h.mv hm hs (fun _ _ h => h) h.2.2.2.2.1 hS
end
