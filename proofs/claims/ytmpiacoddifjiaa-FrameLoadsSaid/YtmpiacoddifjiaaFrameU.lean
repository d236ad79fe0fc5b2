/- The walk of FrameLoads. -/
import Derived.Test.YtmpiacoddifjiaaFrameT
import Derived.Deep.RegionHeld3
namespace Go.Proofs.Ytmpiacoddifjiaa
open Go.RowKit
set_option linter.unusedVariables false
theorem Ints_nil (k : IntKind) : Ints k [] = [] := rfl
theorem three_reads (w : World) (e : TypeId) (x : Nat) : Reads (w.alloc (.cells #[.int .u8 120, .int .u8 (x : Int), .int .u8 10] e)) (w.heap.size + 1) 1 (some ⟨w.heap.size, 0, none⟩) 3 (Ints .u8 [120, x, 10]) := by
  have h : Reads (w.alloc (.cells (Ints .u8 [120, x, 10]).toArray e)) (w.alloc (.cells (Ints .u8 [120, x, 10]).toArray e)).heap.size 1 (some ⟨w.heap.size, 0, none⟩) [120, x, 10].length (Ints .u8 [120, x, 10]) := blk_reads (Blk.new w e _) rfl
  exact h.more (by simp)
theorem ten_reads (w : World) (e : TypeId) : Reads (w.alloc (.cells #[.int .u8 10] e)) (w.heap.size + 1) 1 (some ⟨w.heap.size, 0, none⟩) 1 (Ints .u8 [10]) := by
  have h : Reads (w.alloc (.cells (Ints .u8 [10]).toArray e)) (w.alloc (.cells (Ints .u8 [10]).toArray e)).heap.size 1 (some ⟨w.heap.size, 0, none⟩) [10].length (Ints .u8 [10]) := blk_reads (Blk.new w e _) rfl
  exact h.more (by simp)
/-- A row of ten alone at a block that is not v's own. -/
def T10 (w : World) (b : Nat) (v : Value) : Prop := Reads w (b + 1) 1 (some ⟨b, 0, none⟩) 1 (Ints .u8 [10]) ∧ b < w.heap.size ∧ v.ownBlock ≠ some b
theorem T10.step {w w' : World} {b : Nat} {v v' : Value} (h : T10 w b v) (hg : w.grownBy w' v.ownBlock) (hat : v'.ownBlock = v.ownBlock ∨ v'.ownBlock = some w.heap.size) : T10 w' b v' := by
  obtain ⟨⟨h1, h2⟩, h3, h4⟩ := h
  refine ⟨⟨h1, fun hn => ?_⟩, Nat.lt_of_lt_of_le h3 hg.size, ?_⟩
  · obtain ⟨ad, e, hb, hc⟩ := h2 hn
    refine ⟨ad, e, hb, fun j u hu => ?_⟩
    cases e
    rw [← hc j u hu]
    refine World.cell?_of_block (hg.block _ ?_ ?_)
    · rw [block_of_add]; exact h3
    · rw [block_of_add]; exact fun e => h4 e.symm
  · rcases hat with h | h
    · rw [h]; exact h4
    · rw [h]; intro e; injection e with e; omega
theorem T10.alloc {w : World} {b : Nat} {v : Value} (h : T10 w b v) (o : Obj) : T10 (w.alloc o) b v := by
  obtain ⟨h1, h3, h4⟩ := h
  exact ⟨h1.alloc (by omega) o, by simp; omega, h4⟩
/-- All that is gathered: an own row of bytes, and what was there stands. -/
structure Ap (B0 : Nat) (w0 w : World) (v : Value) (n : Nat) (l : List Nat) : Prop where
  own : w.ownsRow B0 5 1 v n (Ints .u8 l)
  bel : Below B0 w0 w
  big : B0 ≤ w.heap.size
theorem Ap.alloc {B0 n : Nat} {w0 w : World} {v : Value} {l : List Nat} (h : Ap B0 w0 w v n l) (o : Obj) : Ap B0 w0 (w.alloc o) v n l := ⟨h.own.alloc o, h.bel.alloc h.big o, by have := h.big; simp; omega⟩
theorem Ap.drew {B0 n : Nat} {w0 w : World} {v : Value} {l : List Nat} (h : Ap B0 w0 w v n l) : Ap B0 w0 w.drew v n l := ⟨h.own, h.bel.drew, h.big⟩
theorem T10.drew {w : World} {b : Nat} {v : Value} (h : T10 w b v) : T10 w.drew b v := h
theorem three_a (w : World) (x : Nat) : Reads (w.alloc (.cells #[.int .u8 120, .int .u8 (x : Int), .int .u8 10] 5)).drew (w.heap.size + 5) 1 (some ⟨w.heap.size, 0, none⟩) 3 (Ints .u8 [120, x, 10]) := (three_reads w _ x).more (by omega)
theorem three_b (w : World) (x : Nat) (o : Obj) : Reads ((w.alloc (.cells #[.int .u8 120, .int .u8 (x : Int), .int .u8 10] 5)).alloc o).drew (w.heap.size + 5) 1 (some ⟨w.heap.size, 0, none⟩) 3 (Ints .u8 [120, x, 10]) := ((three_reads w _ x).alloc (by simp) o).more (by omega)
theorem three_c (w : World) (x : Nat) (o : Obj) : Reads ((w.alloc o).alloc (.cells #[.int .u8 120, .int .u8 (x : Int), .int .u8 10] 5)).drew (w.heap.size + 5) 1 (some ⟨w.heap.size + 1, 0, none⟩) 3 (Ints .u8 [120, x, 10]) := by
  have h := (three_reads (w.alloc o) 5 x).more (B' := w.heap.size + 5) (by simp)
  have e : (w.alloc o).heap.size = w.heap.size + 1 := by simp
  rw [e] at h
  exact h
theorem Ap.rd {w w1 W : World} {n m : Nat} {A : Option Addr} {v : Value} {l : List Nat} {xs : List Value} (h : Ap w1.heap.size w1 W v n l) (hr : Reads w w.heap.size 1 A m xs) (hb : Below w.heap.size w w1) : Reads W w.heap.size 1 A m xs :=
  hr.below (hb.trans (h.bel.mono hb.size))
theorem Ap.cl {w w1 W : World} {n : Nat} {v u : Value} {l : List Nat} {p : Addr} (h : Ap w1.heap.size w1 W v n l) (hb : Below w.heap.size w w1) (hp : p.block < w.heap.size) (hc : w.cell? p = some u) : W.cell? p = some u :=
  ((hb.trans (h.bel.mono hb.size)).cell hp).trans hc
/-- A ten that is made now. -/
theorem Ap.ten {B0 n : Nat} {w0 w : World} {v : Value} {l : List Nat} (h : Ap B0 w0 w v n l) : T10 (w.alloc (.cells #[.int .u8 10] 5)) w.heap.size v :=
  ⟨ten_reads w _, by simp, fun e => by have := (h.own.lt _ e).2; omega⟩
theorem Ap.ten2 {B0 n : Nat} {w0 w : World} {v : Value} {l : List Nat} (h : Ap B0 w0 w v n l) (o : Obj) : T10 ((w.alloc o).alloc (.cells #[.int .u8 10] 5)) (w.heap.size + 1) v := by
  have h1 := (h.alloc o).ten
  have e : (w.alloc o).heap.size = w.heap.size + 1 := by simp
  rw [e] at h1
  exact h1
theorem wp_gather {o : Oper} {a : Act} {w : World} {K : Act → World → Prop} {Q : Exit → Act → World → Prop} (s x : Operand)
    (ho : o.op = .call { callee := .builtin .append, args := #[s, x], argTypes := #[26, 26] }) (B0 : Nat) (w0 : World)
    (v : Value) (n : Nat) (l : List Nat) (hs : a.eval s = v) (hap : Ap B0 w0 w v n l) (hn : n ≤ 100000)
    (B : Nat) (A : Option Addr) (m c : Nat) (news : List Nat) (hx : a.eval x = .slice A m c) (hr : Reads w B 1 A m (Ints .u8 news)) (hm : m ≤ 100000)
    (h : ∀ A' c' w', Ap B0 w0 w' (.slice A' (n + m) c') (n + m) (l ++ news) → (∀ b, T10 w b v → T10 w' b (.slice A' (n + m) c')) → K (a.put o.dst (.slice A' (n + m) c')) w') :
    Oper.wp Try.prog o a w K Q := by
  obtain ⟨i0, hi, hz0, hz1, hz2⟩ := info_parts info5
  refine wp_append_any (P := Try.prog) w s x 26 ho B0 5 i0 (.int .u8 0) 1 1 Try.underlying26 hi hz0 hz1 hz2 rfl (by decide) v n (Ints .u8 l) hs hap.own B A m c (Ints .u8 news) hx hr (Ints_one _ _) (by unfold maxLen; omega) (by omega) hap.big ?_
  intro v' w' hown hg hat
  obtain ⟨A', c', rfl⟩ := own_shape hown
  have hown2 := Ints_app hown
  refine h A' c' w' ⟨hown2, hap.bel.grown hg hap.big (fun q hq => (hap.own.lt q hq).1), Nat.le_trans hap.big hg.size⟩ (fun b hb => hb.step hg hat)
theorem keep_reads {w w' : World} {Z G n : Nat} {A : Option Addr} {xs : List Value} (h : Reads w Z 1 A n xs) (hk : keep.Keep Z G w w') (hne : ∀ ad, A = some ad → ad.block ≠ G) : Reads w' Z 1 A n xs := by
  refine ⟨h.1, fun hn => ?_⟩
  obtain ⟨ad, e, hb, hc⟩ := h.2 hn
  refine ⟨ad, e, hb, fun j u hu => ?_⟩
  rw [← hc j u hu]
  refine World.cell?_of_block ?_
  rw [block_of_add]
  exact hk.block _ hb (hne ad e)
theorem u8_reads (w : World) (e : TypeId) (x : Nat) : Reads (w.alloc (.cells #[.int .u8 (x : Int)] e)) (w.heap.size + 1) 1 (some ⟨w.heap.size, 0, none⟩) 1 (Ints .u8 [x]) := by
  have h : Reads (w.alloc (.cells (Ints .u8 [x]).toArray e)) (w.alloc (.cells (Ints .u8 [x]).toArray e)).heap.size 1 (some ⟨w.heap.size, 0, none⟩) [x].length (Ints .u8 [x]) := blk_reads (Blk.new w e _) rfl
  exact h.more (by simp)
/-- Where the next piece begins, and where it ends. -/
def cp (ps : Nat → List Nat) (k : Nat) (ln : Bool) : Nat := if ln then st ps k else st ps k + 3
def nd (ps : Nat → List Nat) (k : Nat) (ln : Bool) : Nat := if ln then st ps k + 3 else st ps (k + 1)
def bN : Value → Nat | .bool true => 1 | _ => 0
theorem nd_le (ps : Nat → List Nat) (n k : Nat) (ln : Bool) (h : k < n) : nd ps k ln ≤ st ps n := by
  have h1 := st_le ps n (k + 1) (by omega)
  have h2 := st_succ ps k
  unfold nd
  split <;> omega
theorem wait_all (ps : Nat → List Nat) (n c : Nat) (h : st ps n ≤ c) : wait ps n (st ps n) c = [] := by
  unfold wait
  apply List.drop_eq_nil_of_le
  rw [List.length_take]
  omega
end Go.Proofs.Ytmpiacoddifjiaa
