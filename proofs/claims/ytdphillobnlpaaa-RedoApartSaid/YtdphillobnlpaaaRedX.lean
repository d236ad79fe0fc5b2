/- redo: rows of writes: append, and what Commit asks of them. -/
import Derived.Test.YtdphillobnlpaaaRedW
namespace Go.Proofs.Ytdphillobnlpaaa
open Go.RowKit
set_option linter.unusedVariables false
def cellsW (ps : List (Int × Int)) : List Value := ps.flatMap fun p => [.int .i64 p.1, .int .u64 p.2]
theorem cellsW_snoc (ps : List (Int × Int)) (p : Int × Int) : cellsW (ps ++ [p]) = cellsW ps ++ [.int .i64 p.1, .int .u64 p.2] := by simp [cellsW]
theorem cellsW_len : ∀ ps : List (Int × Int), (cellsW ps).length = ps.length * 2
  | [] => rfl
  | p :: ps => by
    have := cellsW_len ps
    simp only [cellsW, List.flatMap_cons, List.length_append, List.length_cons, List.length_nil] at this ⊢
    omega
theorem cellsW_get : ∀ (ps : List (Int × Int)) (i : Nat), i < ps.length → (cellsW ps)[i * 2]? = some (.int .i64 (ps.getD i (0, 0)).1) ∧ (cellsW ps)[i * 2 + 1]? = some (.int .u64 (ps.getD i (0, 0)).2)
  | [], _, h => by cases h
  | p :: ps, 0, _ => ⟨rfl, rfl⟩
  | p :: ps, i + 1, h => by
    have := cellsW_get ps i (by simpa using h)
    have e : cellsW (p :: ps) = .int .i64 p.1 :: .int .u64 p.2 :: cellsW ps := rfl
    rw [e, show (i + 1) * 2 = i * 2 + 1 + 1 by omega, show i * 2 + 1 + 1 + 1 = (i * 2 + 1) + 1 + 1 by omega]
    simpa using this
/-- A row of writes that one has for oneself. -/
def WO (w : World) (B : Nat) (v : Value) (ps : List (Int × Int)) : Prop := w.ownsRow B 32 2 v ps.length (cellsW ps)
theorem WO.nil (w : World) (B : Nat) : WO w B (.slice none 0 0) [] := ⟨rfl, .inl ⟨rfl, rfl⟩⟩
theorem WO.wr {w : World} {B k c : Nat} {A : Option Addr} {ps : List (Int × Int)} (h : WO w B (.slice A k c) ps) : WR w w.heap.size A ps := by
  intro i hi
  obtain ⟨h1, h2⟩ := h
  rcases h2 with ⟨_, h3⟩ | ⟨g, cap, cur, e1, e2, e3, e4, e5, e6, e7⟩
  · rw [h3] at hi; cases hi
  · cases e1
    have hg : g < w.heap.size := by
      rcases Nat.lt_or_ge g w.heap.size with h | h
      · exact h
      · rw [Array.getElem?_eq_none h] at e3; cases e3
    refine ⟨⟨g, 0, none⟩, rfl, hg, ?_, ?_⟩
    · have := (cellsW_get ps i hi).1
      rw [← e7, List.getElem?_take] at this
      split at this
      · rw [add_head]
        exact (Blk.cell (show Blk w g _ cur from e3) (i * 2)).trans (by rw [← Array.getElem?_toList]; exact this)
      · cases this
    · have := (cellsW_get ps i hi).2
      rw [← e7, List.getElem?_take] at this
      split at this
      · rw [add_head]
        exact (Blk.cell (show Blk w g _ cur from e3) (i * 2 + 1)).trans (by rw [← Array.getElem?_toList]; exact this)
      · cases this
theorem WO.mv {w w' : World} {S : Nat → Prop} {B : Nat} {v : Value} {ps : List (Int × Int)} (h : WO w B v ps) (hm : Mv S w w') (hs : ∀ x, v.ownBlock = some x → ¬ S x) : WO w' B v ps := by
  refine ⟨h.1, ?_⟩
  rcases h.2 with h1 | ⟨g, cap, cur, e1, e2, e3, e4⟩
  · exact .inl h1
  · have hg : g < w.heap.size := by
      rcases Nat.lt_or_ge g w.heap.size with h | h
      · exact h
      · rw [Array.getElem?_eq_none h] at e3; cases e3
    exact .inr ⟨g, cap, cur, e1, e2, (hm.block g hg (hs g (by rw [e1]; rfl))).trans e3, e4⟩
theorem WO.lt {w : World} {B : Nat} {v : Value} {ps : List (Int × Int)} (h : WO w B v ps) {x : Nat} (hx : v.ownBlock = some x) : B ≤ x ∧ x < w.heap.size := by
  rcases h.2 with ⟨rfl, _⟩ | ⟨g, cap, cur, rfl, e2, e3, _⟩
  · cases hx
  · cases hx
    refine ⟨e2, ?_⟩
    rcases Nat.lt_or_ge g w.heap.size with h | h
    · exact h
    · rw [Array.getElem?_eq_none h] at e3; cases e3
theorem infoW : (Try.prog.info? 32).map (fun i => (i.zero, i.size, i.bytes)) = some (some (.agg #[.int .i64 0, .int .u64 0]), 2, 16) := by kernel_rfl
theorem wpList_pushW {ops : Array Oper} {rest : List Oper} {o : Oper} {a : Act} {Q : Exit → Act → World → Prop} (w : World) (hgd : o.guard = none) (s x : Operand)
    (ho : o.op = .call { callee := .builtin .append, args := #[s, x], argTypes := #[30, 30] })
    (B : Nat) (A : Option Addr) (j cap : Nat) (ps : List (Int × Int)) (hj : ps.length = j) (hs : a.eval s = .slice A j cap) (hown : WO w B (.slice A j cap) ps)
    (p : Int × Int) (m : Nat) (hx : a.eval x = .slice (some ⟨w.heap.size, 0, none⟩) 1 m) (h63 : j < 1000000) (hbase : B ≤ w.heap.size)
    (h : ∀ g cap' w', WO w' B (.slice (some ⟨g, 0, none⟩) (j + 1) cap') (ps ++ [p]) → w.grownBy w' (Value.slice A j cap).ownBlock → w.heap.size < w'.heap.size → ((Value.slice A j cap).ownBlock = some g ∨ w.heap.size ≤ g) → wpList Try.prog ops Q rest (a.put o.dst (.slice (some ⟨g, 0, none⟩) (j + 1) cap')) w') :
    wpList Try.prog ops Q (o :: rest) a (w.alloc (.cells #[.int .i64 p.1, .int .u64 p.2] 32)) := by
  subst hj
  obtain ⟨i0, hi, hz0, hz1, hz2⟩ := info_parts infoW
  refine wpList_append_lies (w.alloc (.cells #[.int .i64 p.1, .int .u64 p.2] 32)) hgd s x 30 ho B 32 i0 _ 2 16 Try.underlying30 hi hz0 hz1 hz2 rfl (by decide) _ ps.length (cellsW ps) hs (hown.alloc _) ⟨w.heap.size, 0, none⟩ 1 m [.int .i64 p.1, .int .u64 p.2] hx rfl ?_ ?_ (by decide) (by unfold maxLen; omega) (by omega) ?_ (w.heap.size + 1) (by simp) ?_
  · intro q u hu
    have hq : q < 2 := by
      rcases Nat.lt_or_ge q 2 with h0 | h0
      · exact h0
      · rw [List.getElem?_eq_none (by simpa using h0)] at hu
        cases hu
    rw [add_head]
    refine ((Blk.new w 32 #[.int .i64 p.1, .int .u64 p.2]).cell q).trans ?_
    rw [← hu, ← Array.getElem?_toList]
  · intro u hu
    simp at hu
    rcases hu with rfl | rfl <;> rfl
  · simp
    omega
  · intro g cap' w' hown' hgrow hat hlt
    have hsz : w.heap.size + 1 ≤ w'.heap.size := by have := hgrow.size; simpa using this
    refine h g cap' w' ?_ ⟨hgrow.os, hgrow.tape, hgrow.output, by omega, fun q hq hne => ?_⟩ (by omega) ?_
    · unfold WO
      rw [List.length_append, cellsW_snoc]
      exact hown'
    · rw [hgrow.block q (by simp; omega) hne]
      exact Below.heap_alloc w _ q hq
    · rcases hat with hat | rfl
      · exact .inl hat
      · exact .inr (by omega)
end Go.Proofs.Ytdphillobnlpaaa
