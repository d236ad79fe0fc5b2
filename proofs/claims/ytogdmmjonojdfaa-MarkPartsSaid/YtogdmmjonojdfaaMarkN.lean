/- mark: what the document fixes (awake). -/
import Derived.Test.YtogdmmjonojdfaaMarkM
namespace Go.Proofs.Ytogdmmjonojdfaa
open Go.RowKit
set_option linter.unusedVariables false
def ansA (x : Nat) : List Nat × Int := (if x = 0 then [] else [3 - x], 0)
def noP (P : Nat → Prop) (w : World) (l : List Nat) : Prop := ∀ x, ¬ P x
theorem ints_zs (l : List Nat) : Ints .i64 l = Zs (l.map Int.ofNat) := by simp [Ints, Zs]
theorem asksA (w : World) (x : Nat) (hx : x < 3) (h0 : x ≠ 0) : Calls Try.prog 26 #[.int .i64 (x : Int)] w (fun e w' => e = .returned (.tuple #[.slice (some ⟨w.heap.size, 0, none⟩) 1 1, .int .i64 0]) ∧ w' = w.alloc (.cells #[.int .i64 ((3 - x : Nat) : Int)] 3)) := by
  have e1 : (3 : Int) - (x : Int) = ((3 - x : Nat) : Int) := by omega
  have hw := wrap_small (z := ((3 - x : Nat) : Int)) (by omega) (by omega)
  generalize 3 - x = y at e1 hw ⊢
  go_enter Try.func26, Try.ntmps26
  go_wp2_with fail
  go_ret2
  exact ⟨by simp, rfl⟩
theorem ofA : Of 26 #[] 3 noP ansA := {
  enters := fun W x => by kernel_rfl
  keep := fun P S w w' asked h _ _ => h
  low := fun P w asked h x hx => (h x hx).elim
  asks := fun P w asked x hI _ hx h0 => by
    refine (asksA w x hx h0).mono ?_
    rintro e w' ⟨rfl, rfl⟩
    have ha : ansA x = ([3 - x], 0) := by unfold ansA; rw [if_neg h0]
    rw [ha]
    refine ⟨some ⟨w.heap.size, 0, none⟩, 1, rfl, ?_, fun ad e => by cases e; exact .inr (Nat.le_refl _), P, hI, (Mv.refl P w).alloc _, fun y hy => .inl hy⟩
    have := one_reads w ((3 - x : Nat) : Int) 3 rfl
    refine Reads.more (B := w.heap.size + 1) ?_ (by simp)
    simpa [Ints, Zs] using this
  small := fun x hx => by
    unfold ansA
    by_cases h : x = 0
    · simp [h]
    · simp [h]; omega }
theorem frA {out asked : List Nat} (h : Fr [1] ansA 9 out asked) : (out = [1] ∧ asked = []) ∨ (out = [1, 2] ∧ asked = [1]) ∨ (out = [1, 2] ∧ asked = [1, 2]) := by
  induction h with
  | start => exact .inl ⟨by decide, rfl⟩
  | @step out asked x h1 hx hxa hm _ _ ih =>
    rcases ih with ⟨rfl, rfl⟩ | ⟨rfl, rfl⟩ | ⟨rfl, rfl⟩
    · simp at hx; subst hx
      exact .inr (.inl ⟨by decide, rfl⟩)
    · have : x = 2 := by simp at hx hxa; omega
      subst this
      exact .inr (.inr ⟨by decide, rfl⟩)
    · simp at hx hxa; omega
theorem sorted12 {l : List Nat} (h : l.Perm [1, 2]) (hs : l.Pairwise (· ≤ ·)) : l = [1, 2] := by
  have hl := h.length_eq
  match l, hl with
  | [a, b], _ =>
    have h1 : (1 : Nat) ∈ [a, b] := h.mem_iff.2 (by simp)
    have h2 : (2 : Nat) ∈ [a, b] := h.mem_iff.2 (by simp)
    have h3 : a ≤ b := by simpa using hs
    simp at h1 h2
    have : a = 1 ∧ b = 2 := by omega
    rw [this.1, this.2]
theorem fromA {e : Ending} {w w' : World} (h : FromPost [1] ansA 9 noP (fun _ => False) w e w') : ∃ A, e = .returned (.tuple #[.slice A 2 2, .int .i64 0]) ∧ Reads w' w'.heap.size 1 A 2 (Ints .i64 [1, 2]) ∧ Below w.heap.size w w' := by
  obtain ⟨out, asked, P', _, hm, _, h⟩ := h
  have hb := hm.below (Nat.le_refl _) (fun b e => e.elim)
  rcases h with ⟨hf, hall, A, l, hp, hs, rfl, hr, _⟩ | ⟨hf, _, hbig, _⟩ | ⟨a0, x, _, hf, _, _, _, _, hne, _⟩
  · have h12 : out = [1, 2] := by
      rcases frA hf with ⟨rfl, rfl⟩ | ⟨rfl, rfl⟩ | ⟨rfl, rfl⟩
      · have := hall 1 (by simp); simp at this
      · rfl
      · rfl
    rw [h12] at hp
    have := sorted12 hp hs
    subst this
    exact ⟨A, rfl, hr, hb⟩
  · rcases frA hf with ⟨rfl, rfl⟩ | ⟨rfl, rfl⟩ | ⟨rfl, rfl⟩ <;> simp at hbig
  · exact absurd rfl hne
theorem splitA : splitL [1, 2] [2, 3] = ([1], [3]) := by
  rw [splitL_lt _ _ (by decide), splitL_eq, splitL_nil]
theorem two_reads (w : World) (x y : Int) (t : TypeId) : Reads (w.alloc (.cells #[.int .i64 x, .int .i64 y] t)) (w.heap.size + 1) 1 (some ⟨w.heap.size, 0, none⟩) 2 (Zs [x, y]) := by
  refine ⟨rfl, fun _ => ⟨_, rfl, by simp, fun j u hj => ?_⟩⟩
  have hb := Blk.new w t #[.int .i64 x, .int .i64 y]
  match j, hj with
  | 0, hj => cases hj; exact (hb.cell 0).trans rfl
  | 1, hj => cases hj; exact (hb.cell 1).trans rfl
  | j + 2, hj => simp [Zs] at hj
theorem add_zero' (x : Addr) : x.add 0 = x := by unfold Addr.add; cases x; split <;> simp_all
theorem add_one' (x : Addr) : x.add 1 = ⟨x.block, x.off + 1, none⟩ := by unfold Addr.add; simp
theorem split_in1 (w2 : World) : Lf ((w2.alloc (.cells #[.int .i64 1, .int .i64 2] 3)).alloc (.cells #[.int .i64 2, .int .i64 3] 3)) ((w2.alloc (.cells #[.int .i64 1, .int .i64 2] 3)).alloc (.cells #[.int .i64 2, .int .i64 3] 3)).heap.size (some ⟨w2.heap.size, 0, none⟩) 2 2 [1, 2] :=
  ⟨rfl, ((two_reads w2 1 2 3).alloc (by simp) _).more (by simp), Nat.le_refl _⟩
theorem split_in2 (w2 : World) : Lf ((w2.alloc (.cells #[.int .i64 1, .int .i64 2] 3)).alloc (.cells #[.int .i64 2, .int .i64 3] 3)) ((w2.alloc (.cells #[.int .i64 1, .int .i64 2] 3)).alloc (.cells #[.int .i64 2, .int .i64 3] 3)).heap.size (some ⟨w2.heap.size + 1, 0, none⟩) 2 2 [2, 3] := by
  have := two_reads (w2.alloc (.cells #[.int .i64 1, .int .i64 2] 3)) 2 3 3
  exact ⟨rfl, by simpa using this.more (by simp), Nat.le_refl _⟩
theorem below_alloc2 {w2 w5 : World} {o o' : Obj} (h : Below ((w2.alloc o).alloc o').heap.size ((w2.alloc o).alloc o') w5) : Below w2.heap.size w2 w5 :=
  (((Below.refl w2.heap.size w2).alloc (Nat.le_refl _) o).alloc (by simp) o').trans (h.mono (by simp; omega))
set_option maxHeartbeats 4000000 in
theorem awake_any (w : World) : Calls Try.prog 9 #[] w (fun e w' => e = .returned (.bool true) ∧ Below w.heap.size w w') := by
  go_enter Try.func9, Try.ntmps9
  have hr1 : Reads (w.alloc (.cells #[.int .i64 1] 3)) (w.alloc (.cells #[.int .i64 1] 3)).heap.size 1 (some ⟨w.heap.size, 0, none⟩) 1 (Ints .i64 [1]) := (one_reads w 1 3 rfl).more (by simp)
  go_wp2_with (first
    | (go_at_call 8; refine (from_any _ #[] 3 noP ansA ofA (by omega) _ (fun _ => False) (fun _ e => e) [1] (some ⟨w.heap.size, 0, none⟩) 1 1 rfl (by omega) hr1 (fun ad e => by cases e; simp) (by simp) 9).mono ?_; rintro e w2 h2; obtain ⟨A, rfl, hr2, hb2⟩ := fromA h2; have Hr2 := Lib.hid hr2; have hb02 := Lib.hid (((Below.refl w.heap.size w).alloc (Nat.le_refl _) _).trans (hb2.mono (by simp))); clear hr2 hb2 h2)
    | (go_at_call 11; refine (split_any _ _ _ 2 2 2 2 [1, 2] [2, 3] (split_in1 w2) (split_in2 w2) (by omega) (by omega)).mono ?_; rintro e w5 ⟨A1, A2, rfl, h51, h52, hb5⟩; rw [splitA] at h51 h52; rw [splitA]; have hr5 := (Hr2.out.mvx (Mv.of_below (below_alloc2 hb5) _)); obtain ⟨ad, u, hA, -, hu, hcl⟩ := hr5.at_ (k := 1) (by omega); cases hA; cases hu; obtain ⟨ad1, u, hA, -, hu, hcl1⟩ := h51.at_ (k := 0) (by decide); cases hA; cases hu; obtain ⟨ad2, u, hA, -, hu, hcl2⟩ := h52.at_ (k := 0) (by decide); cases hA; cases hu; rw [add_zero'] at hcl1 hcl2; rw [add_one'] at hcl; have Hb5 := Lib.hid (hb02.out.trans ((below_alloc2 hb5).mono hb02.out.size)); clear hr5 h51 h52 hb5)
    | fail)
  go_ret
  exact ⟨by simp, Hb5.out⟩
end Go.Proofs.Ytogdmmjonojdfaa
