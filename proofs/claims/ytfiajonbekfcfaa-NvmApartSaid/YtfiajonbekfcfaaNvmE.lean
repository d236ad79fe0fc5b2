/- The contracts of New, Waiting and the small ones. -/
import Derived.Test.YtfiajonbekfcfaaNvmD
namespace Go.Proofs.Ytfiajonbekfcfaa
open Go.RowKit
open Go.Maps (Keyed)
open Go.ChangeMaps
set_option linter.unusedVariables false

theorem words_any (w : World) (A : Nat → Prop) (G : Dv) (n : Nat) (s : DS) (h : Dev w A G n s) :
    Calls Try.prog 36 #[.pointer (some ⟨G.d, 0, none⟩)] w fun e w' => e = .returned (.int .i64 (n : Int)) ∧ w = w' := by
  have c0 : w.cell? ⟨G.d, 0, none⟩ = some (.slice (some ⟨G.n, 0, none⟩) n G.cn) := (h.1.cell 0).trans rfl
  clear h
  go_enter Try.func36, Try.ntmps36
  go_wp2_with fail
  go_ret
  exact ⟨by simp, rfl⟩
theorem steps_any (w : World) (A : Nat → Prop) (G : Dv) (n : Nat) (s : DS) (h : Dev w A G n s) :
    Calls Try.prog 22 #[.pointer (some ⟨G.d, 0, none⟩)] w fun e w' => e = .returned (.int .i64 s.steps) ∧ w = w' := by
  have c0 : w.cell? ⟨G.d, 3, none⟩ = some (.int .i64 s.steps) := (h.1.cell 3).trans rfl
  clear h
  go_enter Try.func22, Try.ntmps22
  go_wp2_with fail
  go_ret
  exact ⟨by simp, rfl⟩
theorem dead_any (w : World) (A : Nat → Prop) (G : Dv) (n : Nat) (s : DS) (h : Dev w A G n s) :
    Calls Try.prog 24 #[.pointer (some ⟨G.d, 0, none⟩)] w fun e w' => e = .returned (.bool s.dead) ∧ w = w' := by
  have c0 : w.cell? ⟨G.d, 5, none⟩ = some (.bool s.dead) := (h.1.cell 5).trans rfl
  clear h
  go_enter Try.func24, Try.ntmps24
  go_wp2_with fail
  go_ret
  exact ⟨by simp, rfl⟩
theorem fuse_any (w : World) (A : Nat → Prop) (G : Dv) (n : Nat) (s : DS) (k : Int) (h : Dev w A G n s) (hk : 0 ≤ k ∧ k < 1000000) :
    Calls Try.prog 20 #[.pointer (some ⟨G.d, 0, none⟩), .int .i64 k] w fun e w' => e = .returned (.tuple #[]) ∧ Dev w' A G n { s with fuse := k } ∧ Mv (fun b => b = G.d) w w' := by
  have h' := Lib.hid h
  have c4 : w.cell? ⟨G.d, 4, none⟩ = some (.int .i64 s.fuse) := (h.1.cell 4).trans rfl
  have f4 := h.1.frozen 4
  clear h
  have e1 : max k (-1) = k := by omega
  obtain ⟨k0, k1⟩ := hk
  have hm : Mv (fun b => b = G.d) w (w.setCell ⟨G.d, 4, none⟩ (.int .i64 k)) := (Mv.refl (fun b => b = G.d) w).setCell (p := ⟨G.d, 4, none⟩) (fun _ => rfl) _
  have hfin : Hid (Dev (w.setCell ⟨G.d, 4, none⟩ (.int .i64 k)) A G n { s with fuse := k }) := Lib.hid (Dev.struct (st := s.steps) (fu := k) (de := s.dead) h'.out (h'.out.1.set_ 4 (.int .i64 k)) hm (Int.le_refl _) ⟨by omega, by omega⟩)
  have Hm := Lib.hid hm
  clear hm
  go_enter Try.func20, Try.ntmps20
  go_wp2_with fail
  go_end0
  exact ⟨rfl, hfin.out, Hm.out⟩
/-- A device's blocks are all new. -/
def Fresh (B : Nat) (G : Dv) : Prop := B ≤ G.d ∧ B ≤ G.n ∧ B ≤ G.l ∧ B ≤ G.m
def noughts : DS := ⟨fun _ => 0, fun _ => 0, fun _ => none, 0, -1, false⟩
theorem blk_new (w : World) (t : TypeId) (cs : Array Value) {g : Nat} (h : g = w.heap.size) : Blk (w.alloc (.cells cs t)) g t cs := by subst h; exact Blk.new w t cs
def IsMp (w : World) (g : Nat) : Prop := w.heap[g]? = some (.map #[] 0)
theorem mp_new (w : World) {g : Nat} (h : g = w.heap.size) : IsMp (w.alloc (.map #[] 0)) g := by subst h; exact heap_alloc_new w _
theorem mp_alloc {w : World} {g : Nat} (h : IsMp w g) (o : Obj) : IsMp (w.alloc o) g := (Below.heap_alloc w o g (lt_of_block h)).trans h
theorem mp_drew {w : World} {g : Nat} (h : IsMp w g) : IsMp w.drew g := h
theorem new_fin {w w' : World} {n d a b m : Nat} {Z : Array Value} (hn : 8 ≤ n ∧ n ≤ 65536 ∧ n % 8 = 0) (hZ : Z = madeCells #[.int .u64 0] n)
    (hd : Blk w' d 51 #[.slice (some ⟨a, 0, none⟩) n n, .slice (some ⟨b, 0, none⟩) n n, .map (some m), .int .i64 0, .int .i64 (-1), .bool false]) (ha : Blk w' a 27 Z) (hb : Blk w' b 27 Z) (hm : IsMp w' m)
    (hab : a ≠ b) (h1 : w.heap.size ≤ d) (h2 : w.heap.size ≤ a) (h3 : w.heap.size ≤ b) (h4 : w.heap.size ≤ m) (hM : Mv (fun _ => False) w w') :
    ∃ G : Dv, Ending.returned (.tuple #[.pointer (some ⟨d, 0, none⟩), .int .i64 0]) = Ending.returned (.tuple #[.pointer (some ⟨G.d, 0, none⟩), .int .i64 0]) ∧ Fresh w.heap.size G ∧ Dev w' G.own G n noughts ∧ Mv (fun _ => False) w w' := by
  have hr : ∀ {x : Nat}, Blk w' x 27 Z → Row w' x n n (fun _ => 0) := fun {x} hx => by
    refine ⟨Z, hx, by rw [hZ, size_madeCells], Nat.le_refl _, by unfold maxLen; omega, fun i hi => ?_⟩
    rw [hZ, ← Array.getElem?_toList, toList_madeCells_one]
    simp [hi]
  exact ⟨⟨d, a, b, m, n, n⟩, rfl, ⟨h1, h2, h3, h4⟩, ⟨hd, hr ha, hr hb, hab, ⟨.inl rfl, .inr (.inl rfl), .inr (.inr (.inl rfl)), .inr (.inr (.inr rfl))⟩, ⟨hn.1, hn.2.1, hn.2.2, Int.le_refl _, Int.le_refl _, by decide⟩, .map [],
    ⟨#[], 0, hm, ⟨by simp, MapKept.stamped_empty 0, by simp⟩, Nat.zero_le _, rfl⟩, lines_none _ _ _⟩, hM⟩
set_option maxHeartbeats 2000000 in
theorem new_any (w : World) (n : Nat) (hn : 8 ≤ n ∧ n ≤ 65536 ∧ n % 8 = 0) :
    Calls Try.prog 9 #[.int .i64 (n : Int)] w fun e w' => ∃ G, e = .returned (.tuple #[.pointer (some ⟨G.d, 0, none⟩), .int .i64 0]) ∧ Fresh w.heap.size G ∧ Dev w' G.own G n noughts ∧ Mv (fun _ => False) w w' := by
  have e1 : (n : Int).tmod 8 = 0 := by rw [Int.tmod_eq_emod_of_nonneg (by omega)]; omega
  obtain ⟨n0, n1, n2⟩ := hn
  obtain ⟨i0, hi, hz0, hz1, hz2⟩ := info_parts info64
  obtain ⟨Z, hZ⟩ : ∃ Z, Z = madeCells (Value.int .u64 0).cells (n * i0.size) := ⟨_, rfl⟩
  have hmk := fun W => run_make_rowN (P := Try.prog) 48 27 i0 (.int .u64 0) Try.underlying48 hi hz0 .i64 .i64 n n (Nat.le_refl _) (by rw [hz2]; omega) (by omega) W
  rw [← hZ] at hmk
  have hZ' := Lib.hid hZ
  clear hZ
  have hmm := @run_makeMap Try.prog
  go_enter Try.func9, Try.ntmps9
  go_wp2_with fail
  have hzz : Z = madeCells #[.int .u64 0] n := by rw [hZ'.out, hz1, Nat.mul_one]; rfl
  have HZ := Lib.hid hzz
  clear hzz
  go_region
  all_goals (
    go_wp2_with fail
    go_ret2
    refine new_fin ⟨n0, n1, n2⟩ HZ.out (Blk.drew (blk_new _ _ _ (by simp))) ?_ ?_ ?_ ?_ ?_ ?_ ?_ ?_ ?_
    · repeat (first | refine Blk.drew ?_ | (refine blk_new _ _ _ ?_; simp; done) | refine Blk.alloc ?_ _)
    · repeat (first | refine Blk.drew ?_ | (refine blk_new _ _ _ ?_; simp; done) | refine Blk.alloc ?_ _)
    · repeat (first | refine mp_drew ?_ | (refine mp_new _ ?_; simp; done) | refine mp_alloc ?_ _)
    · omega
    · omega
    · omega
    · omega
    · omega
    · repeat (first | exact Mv.refl _ _ | refine Mv.drew ?_ | refine Mv.alloc ?_ _))
end Go.Proofs.Ytfiajonbekfcfaa
