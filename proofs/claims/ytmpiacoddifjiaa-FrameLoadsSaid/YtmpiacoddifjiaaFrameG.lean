/- The walk of Skip; a row filled by a rule. -/
import Derived.Test.YtmpiacoddifjiaaFrameF
import Derived.Lib.AppendStr
namespace Go.Proofs.Ytmpiacoddifjiaa
open Go.RowKit
set_option linter.unusedVariables false
theorem Ints_set (k : IntKind) (l : List Nat) (j v : Nat) : (Ints k l).toArray.setIfInBounds j (.int k (v : Int)) = (Ints k (l.set j v)).toArray := by
  apply Array.ext'
  simp [Ints, List.map_set]
/-- The list of what a rule gives at 0 .. n - 1; and a row of n cells of which the first k are filled so. -/
def rowF (f : Nat → Nat) (n : Nat) : List Nat := (List.range n).map f
def fillA (f : Nat → Nat) (n k : Nat) : Array Value := (Ints .u8 ((List.range n).map fun i => if i < k then f i else 0)).toArray
theorem rowF_length (f : Nat → Nat) (n : Nat) : (rowF f n).length = n := by simp [rowF]
theorem rowF_lt {f : Nat → Nat} (h : ∀ i, f i < 256) (n : Nat) : ∀ i, (rowF f n).getD i 0 < 256 := by
  intro i
  unfold rowF
  rcases Nat.lt_or_ge i n with h1 | h1
  · have := h i
    simpa [List.getD, h1] using this
  · simp [List.getD, List.getElem?_eq_none (show ((List.range n).map f).length ≤ i by simpa using h1)]
theorem fillA_start (f : Nat → Nat) (n : Nat) : madeCells #[.int .u8 0] n = fillA f n 0 := by
  apply Array.ext'
  rw [toList_madeCells_one]
  unfold fillA
  apply List.ext_getElem
  · simp [Ints]
  · intro i h1 h2
    simp [Ints]
theorem fillA_set (f : Nat → Nat) (n k : Nat) (hk : k < n) : (fillA f n k).setIfInBounds k (.int .u8 ((f k : Nat) : Int)) = fillA f n (k + 1) := by
  unfold fillA
  rw [Ints_set]
  congr 2
  apply List.ext_getElem
  · simp
  · intro i h1 h2
    simp only [List.getElem_set, List.getElem_map, List.getElem_range]
    by_cases h : k = i
    · subst h; simp
    · rw [if_neg h]
      by_cases h3 : i < k
      · rw [if_pos h3, if_pos (by omega)]
      · rw [if_neg h3, if_neg (by omega)]
theorem fillA_end (f : Nat → Nat) (n : Nat) : fillA f n n = (Ints .u8 (rowF f n)).toArray := by
  unfold fillA rowF
  congr 2
  apply List.map_congr_left
  intro i hi
  rw [if_pos (List.mem_range.1 hi)]
theorem fill_own {w : World} {B g n : Nat} {f : Nat → Nat} (hB : B ≤ g) (hn : n ≤ 1000000) (h : Blk w g 5 (fillA f n n)) : w.ownsRow B 5 1 (.slice (some ⟨g, 0, none⟩) n n) n (Ints .u8 (rowF f n)) := by
  rw [fillA_end] at h
  refine ⟨by rw [Ints_length, rowF_length]; omega, .inr ⟨g, n, _, rfl, hB, h, Nat.le_refl _, by unfold maxLen; omega, ?_, ?_⟩⟩
  · simp [Ints_length, rowF_length]
  · rw [Nat.mul_one]
    exact List.take_of_length_le (by simp [Ints_length, rowF_length])
def SkPost (B G : Nat) (l : List Nat) (s : Nat) (w : World) (e : Ending) (w' : World) : Prop :=
  e = .returned (.tuple #[]) ∧ Frm w' B G (skp l s) (skn l s) false ∧ Below B w w'
set_option maxRecDepth 100000 in
set_option maxHeartbeats 2000000 in
theorem skip_any (B G k : Nat) (l : List Nat) (s : Nat) (w : World) (hb : ∀ i, l.getD i 0 < 256) (hk : k ≤ 1000000) (hs : s ≤ 1000000) (hl : l.length ≤ 10000000) (hB : B ≤ w.heap.size) (hf : Frm w B G l s false) :
    Calls Try.prog 15 #[.pointer (some ⟨G, 0, none⟩), .int .i64 (k : Int)] w (SkPost B G l (s + k) w) := by
  have Hf := Lib.hid hf
  obtain ⟨hBG, A, n, c, hn, hblk, hown⟩ := hf
  subst hn
  have h1 := hblk.cell 1
  simp at h1
  have hfz := hblk.frozen 1
  clear hblk hown
  have e0 : (max (k : Int) 0) = (k : Int) := by omega
  have e1 : (min (k : Int) (9223372036854775807 - (s : Int))) = (k : Int) := by omega
  have E2 : Hid ((s : Int) + (k : Int) = ((s + k : Nat) : Int)) := Lib.hid (by omega)
  have hw1 : IntKind.i64.wrap (9223372036854775807 - (s : Int)) = 9223372036854775807 - (s : Int) := IntWalk.i64_in _ (by omega)
  have hw2 : IntKind.i64.wrap ((s : Int) + (k : Int)) = (s : Int) + (k : Int) := IntWalk.i64_in _ (by omega)
  go_enter Try.func15, Try.ntmps15
  go_wp2_with fail
  go_region
  all_goals rw [E2.out]
  all_goals (
    have hf1 := ((Hf.out).skip (s + k)).drew
    have hb1 : Below B w (w.setCell ⟨G, 1, none⟩ (.int .i64 ((s + k : Nat) : Int))).drew := ((Below.refl _ _).setCell hBG _).drew
    generalize hW : (w.setCell ⟨G, 1, none⟩ (.int .i64 ((s + k : Nat) : Int))).drew = w1 at *
    clear hW h1 hfz hw1 hw2 e0 e1
    go_wp2_with fail
    refine (settle_any B G l (s + k) false w1 hb hl (by omega) (by have := hb1.size; omega) hf1).mono ?_
    rintro e w2 ⟨rfl, hf2, hb2⟩
    have Hf2 := Lib.hid hf2
    have Hb2 := Lib.hid (hb1.trans hb2)
    clear hf2 hb2 hf1 hb1
    go_wp2_with fail
    go_end0
    exact ⟨rfl, Hf2.out, Hb2.out⟩)
end Go.Proofs.Ytmpiacoddifjiaa
