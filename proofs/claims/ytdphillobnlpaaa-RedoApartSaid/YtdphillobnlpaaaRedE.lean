/- The contracts of New, Waiting and the small ones. -/
import Derived.Test.YtdphillobnlpaaaRedD
namespace Go.Proofs.Ytdphillobnlpaaa
open Go.RowKit
open Go.Maps (Keyed)
open Go.ChangeMaps
set_option linter.unusedVariables false

set_option maxRecDepth 100000 in
theorem words_any (w : World) (A : Nat → Prop) (G : Dv) (n : Nat) (s : DS) (h : Dev w A G n s) :
    Calls Try.prog 37 #[.pointer (some ⟨G.d, 0, none⟩)] w fun e w' => e = .returned (.int .i64 (n : Int)) ∧ w = w' := by
  have c0 : w.cell? ⟨G.d, 0, none⟩ = some (.slice (some ⟨G.n, 0, none⟩) n G.cn) := (h.1.cell 0).trans rfl
  clear h
  go_enter Try.func37, Try.ntmps37
  go_wp2_with fail
  go_ret
  exact ⟨by simp, rfl⟩
set_option maxRecDepth 100000 in
theorem fuse_any (w : World) (A : Nat → Prop) (G : Dv) (n : Nat) (s : DS) (k : Int) (h : Dev w A G n s) (hk : -9223372036854775808 ≤ k ∧ k < 9223372036854775808) :
    Calls Try.prog 23 #[.pointer (some ⟨G.d, 0, none⟩), .int .i64 k] w fun e w' => e = .returned (.tuple #[]) ∧ Dev w' A G n { s with fuse := max k (-1) } ∧ Mv (fun b => b = G.d) w w' := by
  have h' := Lib.hid h
  have c4 : w.cell? ⟨G.d, 4, none⟩ = some (.int .i64 s.fuse) := (h.1.cell 4).trans rfl
  have f4 := h.1.frozen 4
  clear h
  obtain ⟨k0, k1⟩ := hk
  have hm : ∀ x : Int, Mv (fun b => b = G.d) w (w.setCell ⟨G.d, 4, none⟩ (.int .i64 x)) := fun x => (Mv.refl (fun b => b = G.d) w).setCell (p := ⟨G.d, 4, none⟩) (fun _ => rfl) _
  have hfin : ∀ x : Int, x = max k (-1) → Dev (w.setCell ⟨G.d, 4, none⟩ (.int .i64 x)) A G n { s with fuse := max k (-1) } := fun x hx => by
    subst hx
    exact Dev.struct (st := s.steps) (fu := max k (-1)) (de := s.dead) h'.out (h'.out.1.set_ 4 (.int .i64 (max k (-1)))) (hm _) (Int.le_refl _) ⟨by omega, by omega⟩
  have Hm := Lib.hid hm
  have Hf := Lib.hid hfin
  clear hm hfin
  by_cases hk : k < -1
  · have hk' := Lib.hid hk
    go_enter Try.func23, Try.ntmps23
    go_wp2_with fail
    go_end0
    exact ⟨rfl, Hf.out _ (by have := hk'.out; omega), Hm.out _⟩
  · have hk' := Lib.hid hk
    go_enter Try.func23, Try.ntmps23
    go_wp2_with fail
    go_end0
    exact ⟨rfl, Hf.out _ (by have := hk'.out; omega), Hm.out _⟩
/-- A device's blocks are all new. -/
def Fresh (B : Nat) (G : Dv) : Prop := B ≤ G.d ∧ B ≤ G.n ∧ B ≤ G.l ∧ B ≤ G.m
def noughts : DS := ⟨fun _ => 0, fun _ => 0, fun _ => none, 0, -1, false⟩
set_option maxRecDepth 100000 in
theorem blk_new (w : World) (t : TypeId) (cs : Array Value) {g : Nat} (h : g = w.heap.size) : Blk (w.alloc (.cells cs t)) g t cs := by subst h; exact Blk.new w t cs
def IsMp (w : World) (g : Nat) : Prop := w.heap[g]? = some (.map #[] 0)
set_option maxRecDepth 100000 in
theorem mp_new (w : World) {g : Nat} (h : g = w.heap.size) : IsMp (w.alloc (.map #[] 0)) g := by subst h; exact heap_alloc_new w _
set_option maxRecDepth 100000 in
theorem mp_alloc {w : World} {g : Nat} (h : IsMp w g) (o : Obj) : IsMp (w.alloc o) g := (Below.heap_alloc w o g (lt_of_block h)).trans h
set_option maxRecDepth 100000 in
theorem mp_drew {w : World} {g : Nat} (h : IsMp w g) : IsMp w.drew g := h
set_option maxRecDepth 100000 in
theorem new_fin {w w' : World} {n d a b m : Nat} {Z : Array Value} (hn : 8 ≤ n ∧ n ≤ 65536 ∧ n % 8 = 0) (hZ : Z = madeCells #[.int .u64 0] n)
    (hd : Blk w' d 59 #[.slice (some ⟨a, 0, none⟩) n n, .slice (some ⟨b, 0, none⟩) n n, .map (some m), .int .i64 0, .int .i64 (-1), .bool false]) (ha : Blk w' a 28 Z) (hb : Blk w' b 28 Z) (hm : IsMp w' m)
    (hab : a ≠ b) (h1 : w.heap.size ≤ d) (h2 : w.heap.size ≤ a) (h3 : w.heap.size ≤ b) (h4 : w.heap.size ≤ m) (hM : Mv (fun _ => False) w w') :
    ∃ G : Dv, Ending.returned (.tuple #[.pointer (some ⟨d, 0, none⟩), .int .i64 0]) = Ending.returned (.tuple #[.pointer (some ⟨G.d, 0, none⟩), .int .i64 0]) ∧ Fresh w.heap.size G ∧ Dev w' G.own G n noughts ∧ Mv (fun _ => False) w w' := by
  have hr : ∀ {x : Nat}, Blk w' x 28 Z → Row w' x n n (fun _ => 0) := fun {x} hx => by
    refine ⟨Z, hx, by rw [hZ, size_madeCells], Nat.le_refl _, by unfold maxLen; omega, fun i hi => ?_⟩
    rw [hZ, ← Array.getElem?_toList, toList_madeCells_one]
    simp [hi]
  exact ⟨⟨d, a, b, m, n, n⟩, rfl, ⟨h1, h2, h3, h4⟩, ⟨hd, hr ha, hr hb, hab, ⟨.inl rfl, .inr (.inl rfl), .inr (.inr (.inl rfl)), .inr (.inr (.inr rfl))⟩, ⟨hn.1, hn.2.1, hn.2.2, Int.le_refl _, Int.le_refl _, by decide⟩, .map [],
    ⟨#[], 0, hm, ⟨by simp, MapKept.stamped_empty 0, by simp⟩, Nat.zero_le _, rfl⟩, lines_none _ _ _⟩, hM⟩
set_option maxRecDepth 100000 in
set_option maxHeartbeats 2000000 in
theorem new_any (w : World) (n : Nat) (hn : 8 ≤ n ∧ n ≤ 65536 ∧ n % 8 = 0) :
    Calls Try.prog 20 #[.int .i64 (n : Int)] w fun e w' => ∃ G, e = .returned (.tuple #[.pointer (some ⟨G.d, 0, none⟩), .int .i64 0]) ∧ Fresh w.heap.size G ∧ Dev w' G.own G n noughts ∧ Mv (fun _ => False) w w' := by
  have e1 : (n : Int).tmod 8 = 0 := by rw [Int.tmod_eq_emod_of_nonneg (by omega)]; omega
  obtain ⟨n0, n1, n2⟩ := hn
  obtain ⟨i0, hi, hz0, hz1, hz2⟩ := info_parts info64
  obtain ⟨Z, hZ⟩ : ∃ Z, Z = madeCells (Value.int .u64 0).cells (n * i0.size) := ⟨_, rfl⟩
  have hmk := fun W => run_make_rowN (P := Try.prog) 56 28 i0 (.int .u64 0) Try.underlying56 hi hz0 .i64 .i64 n n (Nat.le_refl _) (by rw [hz2]; omega) (by omega) W
  rw [← hZ] at hmk
  have hZ' := Lib.hid hZ
  clear hZ
  have hmm := @run_makeMap Try.prog
  go_enter Try.func20, Try.ntmps20
  go_wp2_with fail
  have hzz : Z = madeCells #[.int .u64 0] n := by rw [hZ'.out, hz1, Nat.mul_one]; rfl
  have HZ := Lib.hid hzz
  clear hzz
  go_region
  all_goals (
    go_wp2_with fail
    go_ret2
    refine new_fin ⟨n0, n1, n2⟩ HZ.out (Blk.drew (blk_new _ _ _ (by simp))) ?_ ?_ ?_ ?_ ?_ ?_ ?_ ?_ ?_
    · repeat (first | refine Blk.drew ?_ | (refine blk_new _ _ _ ?_; simp; done) | refine Blk.alloc ?_ _)
    · repeat (first | refine Blk.drew ?_ | (refine blk_new _ _ _ ?_; simp; done) | refine Blk.alloc ?_ _)
    · repeat (first | refine mp_drew ?_ | (refine mp_new _ ?_; simp; done) | refine mp_alloc ?_ _)
    · omega
    · omega
    · omega
    · omega
    · omega
    · repeat (first | exact Mv.refl _ _ | refine Mv.drew ?_ | refine Mv.alloc ?_ _))
end Go.Proofs.Ytdphillobnlpaaa
