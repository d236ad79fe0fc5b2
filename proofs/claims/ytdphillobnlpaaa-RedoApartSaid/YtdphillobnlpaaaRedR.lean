/- redo: back, an iterator from the end (lines turned from a worked proof of the kit). -/
import Derived.RangeFuncBox
import Derived.RangeFuncLeaves
import Derived.Shelf.Abstract
import Derived.WalkKit
import Derived.OwnWalkIn
import Derived.TacticsInMore
import Derived.LoopNIn
import Derived.LoopIn
import Derived.Maps.AppendAt
import Derived.Test.YtdphillobnlpaaaRedQ
namespace Go.Proofs.Ytdphillobnlpaaa
open Go.RowKit Go.Shelf
set_option linter.unusedVariables false
attribute [local go_sem] Oper.semAt_some
/-- The cells of some blocks read as they did. -/
def KeepR (R : Nat → Prop) (A B : World) : Prop := ∀ p : Addr, R p.block → B.cell? p = A.cell? p
theorem KeepR.refl (R : Nat → Prop) (A : World) : KeepR R A A := fun _ _ => rfl
theorem KeepR.trans {R : Nat → Prop} {A B C : World} (h : KeepR R A B) (k : KeepR R B C) : KeepR R A C := fun p hp => (k p hp).trans (h p hp)
theorem KeepR.of_mv {R S : Nat → Prop} {A B : World} (h : Mv S A B) (hR : ∀ b, R b → b < A.heap.size ∧ ¬ S b) : KeepR R A B := fun p hp => mv_cell h (hR _ hp).1 (hR _ hp).2
theorem KeepR.putObj {R : Nat → Prop} {w : World} (hR : ∀ b, R b → b < w.heap.size) (W : World) (l : Nat) (o o' : Obj) (hl : w.heap.size ≤ l) (h : W.heap[l]? = some o) (_ : o.isCells = false) (_ : o.isWalk = false) : KeepR R W (W.putObj l o') := fun p hp => by
  have hne : p.block ≠ l := fun e => by have := hR _ hp; omega
  exact World.cell?_of_block (w := W) (World.putObj_heap_other hne)
theorem KeepR.below {R : Nat → Prop} {w W : World} (h : Below w.heap.size w W) (hR : ∀ b, R b → b < w.heap.size) : KeepR R w W := fun p hp => h.cell (hR _ hp)
/-- What the iterator reads: the slice's box, and the writes. -/
def BackI (R : Nat → Prop) (W : World) (Bs : Nat) (A : Option Addr) (c : Nat) (ps : List (Int × Int)) : Prop :=
  R Bs ∧ W.cell? ⟨Bs, 0, none⟩ = some (.slice A ps.length c) ∧ ∀ i, i < ps.length → ∃ ad, A = some ad ∧ R ad.block ∧ W.cell? (ad.add (i * 2)) = some (.int .i64 (ps.getD i (0, 0)).1) ∧ W.cell? ⟨(ad.add (i * 2)).block, (ad.add (i * 2)).off + 1, none⟩ = some (.int .u64 (ps.getD i (0, 0)).2)
theorem BackI.keep {R : Nat → Prop} {W W' : World} {Bs : Nat} {A : Option Addr} {c : Nat} {ps : List (Int × Int)} (h : BackI R W Bs A c ps) (hk : KeepR R W W') : BackI R W' Bs A c ps := by
  obtain ⟨h1, h2, h3⟩ := h
  refine ⟨h1, (hk ⟨Bs, 0, none⟩ h1).trans h2, fun i hi => ?_⟩
  obtain ⟨ad, e, k1, k2, k3⟩ := h3 i hi
  exact ⟨ad, e, k1, (hk _ (by rw [block_of_add]; exact k1)).trans k2, (hk ⟨(ad.add (i * 2)).block, (ad.add (i * 2)).off + 1, none⟩ (by show R (ad.add (i * 2)).block; rw [block_of_add]; exact k1)).trans k3⟩
set_option maxRecDepth 100000 in
set_option maxHeartbeats 2000000 in
theorem back1_in (F : Fence) (n : Nat) (h7 : F.fn 49) (hro : F.round = none) (hn : 1 ≤ n) (l Bs : Nat) (R : Nat → Prop) (A : Option Addr) (c : Nat) (ps : List (Int × Int)) (hlen : ps.length ≤ 1000000) (J : List (Int × Int) → World → Prop) (Jp : Ending → World → Prop) (hJp : ∀ e W, Jp e W → ∃ ch, e = .panicked ch)
    (hY : ∀ pre x W, J pre W → pre ++ [x] <+: ps.reverse → YieldAt F (n - 1) Try.prog l #[Wv x] W fun e W' =>
      (e = .returned (.bool true) ∧ J (pre ++ [x]) W' ∧ KeepR R W W') ∨ Jp e W')
    (W : World) (hI : BackI R W Bs A c ps) (h0 : J [] W) :
    CallsIn F n Try.prog 49 #[.func (.yield l) #[] #[], .pointer (some ⟨Bs, 0, none⟩)] W fun e W' => ((∃ v, e = .returned v) ∧ ∃ ys, ys = ps.reverse ∧ J ys W') ∨ Jp e W' := by
  have hc0 := hI.2.1
  have hwl : IntKind.i64.wrap ((ps.length : Int) - 1) = (ps.length : Int) - 1 := IntWalk.i64_in _ (by omega)
  obtain ⟨m, hm⟩ : ∃ m, ps.length = m := ⟨_, rfl⟩
  rw [hm] at hc0 hwl
  refine callsIn_of_wp Try.func49 rfl h7 ?_ hro
  simp only [Try.ntmps49, List.size_toArray, List.length_cons, List.length_nil, Nat.reduceAdd, Nat.reduceSub, Array.replicate_succ, Array.replicate_zero, List.push_toArray, List.append_toArray, List.nil_append, List.cons_append]
  gi_wp2
  gi_loopw [3] (fun i wr => ∃ k : Nat, k ≤ m ∧ i = .int .i64 ((m : Int) - 1 - k) ∧ J (ps.reverse.take k) wr ∧ BackI R wr Bs A c ps)
    (fun i _ => (intOf i + 1).toNat)
  case atStart => exact ⟨0, Nat.zero_le _, by simp, by simpa using h0, hI⟩
  case round =>
    obtain ⟨k, hk, rfl, hJs, hIr⟩ := hrel
    have hc := hIr.2.1
    rw [hm] at hc
    by_cases hlt : k < m
    · obtain ⟨j, hj⟩ : ∃ j : Nat, (m : Int) - 1 - k = (j : Int) := ⟨m - 1 - k, by omega⟩
      obtain ⟨ad, hA, _, h1, h2⟩ := hIr.2.2 j (by omega)
      subst hA
      rw [hj]
      have hjm : j < m := by omega
      have hlx : j < ps.length := by omega
      have hg : ps.getD j (0, 0) = ps[j] := by simp [hlx]
      have hrev : ps.reverse.take (k + 1) = ps.reverse.take k ++ [ps[j]] := by
        rw [List.take_succ_eq_append_getElem (by simp; omega)]
        congr 2
        rw [List.getElem_reverse]
        congr 1
        omega
      rw [hg] at h1 h2
      obtain ⟨fn, tmps, assign, body, hy, hR⟩ := hY _ ps[j] wr hJs (by rw [← hrev]; exact List.take_prefix _ _)
      generalize ps[j] = x at h1 h2 hrev hy hR
      have hwj : IntKind.i64.wrap ((j : Int) - 1) = (j : Int) - 1 := IntWalk.i64_in _ (by omega)
      unfold Wv at hy
      gi_wp2
      refine hR.mono ?_
      rintro e W3 (⟨rfl, hJ3, hk3⟩ | hp)
      · have hI3 := hIr.keep hk3
        gi_wp2
        go_roundw
        case rel => exact ⟨k + 1, by omega, by congr 1; omega, by rw [hrev]; exact hJ3, hI3⟩
        case measure => first | (simp [intOf]; done) | (simp [intOf]; omega)
      · obtain ⟨ch, rfl⟩ := hJp _ _ hp
        gi_wp2
        simp only [bodyPost]
        exact ⟨trivial, .inr hp⟩
    · have hkm : k = m := by omega
      have hneg : (m : Int) - 1 - k = -1 := by omega
      rw [hneg]
      gi_wp2
      go_end0
      refine .inl ⟨⟨_, rfl⟩, _, rfl, ?_⟩
      have e1 : ps.reverse.take k = ps.reverse := List.take_of_length_le (by simp; omega)
      rw [e1] at hJs
      exact hJs
end Go.Proofs.Ytdphillobnlpaaa
