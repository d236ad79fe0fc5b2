/- Plain facts for WordsParts: the parts themselves. -/
import Derived.Test.YtkkdcojgnpmpgaaWordsM
namespace Go.Proofs.Ytkkdcojgnpmpgaa
open Go.RowKit
set_option linter.unusedVariables false
/-- The parts: what is wrong, and the parts (none, if anything is). -/
def slN : Nat → List (List Nat) → List Nat → Nat × List (List Nat)
  | 0, _, _ => (4, [])
  | f + 1, acc, l => if l.length = 0 then (0, acc) else if (vr l).2.2 ≠ 0 then ((vr l).2.2, []) else if (l.drop (vr l).2.1).length < (vr l).1 then (4, []) else slN f (acc ++ [(l.drop (vr l).2.1).take (vr l).1]) ((l.drop (vr l).2.1).drop (vr l).1)
def sl (acc : List (List Nat)) (l : List Nat) : Nat × List (List Nat) := slN (l.length + 1) acc l
theorem slN_fuel : ∀ (f g : Nat) (acc : List (List Nat)) (l : List Nat), l.length < f → l.length < g → slN f acc l = slN g acc l
  | 0, _, _, l, h, _ => by omega
  | _, 0, _, l, _, h => by omega
  | f + 1, g + 1, acc, l, hf, hg => by
    unfold slN
    by_cases h0 : l.length = 0
    · rw [if_pos h0, if_pos h0]
    · rw [if_neg h0, if_neg h0]
      by_cases h1 : (vr l).2.2 ≠ 0
      · rw [if_pos h1, if_pos h1]
      · rw [if_neg h1, if_neg h1]
        by_cases h2 : (l.drop (vr l).2.1).length < (vr l).1
        · rw [if_pos h2, if_pos h2]
        · rw [if_neg h2, if_neg h2]
          have := vr_used (l := l) (by omega)
          exact slN_fuel f g _ _ (by simp only [List.length_drop]; omega) (by simp only [List.length_drop]; omega)
theorem sl_nil (acc : List (List Nat)) : sl acc [] = (0, acc) := rfl
theorem sl_bad {acc : List (List Nat)} {l : List Nat} (h0 : l.length ≠ 0) (h : (vr l).2.2 ≠ 0) : sl acc l = ((vr l).2.2, []) := by
  unfold sl slN
  rw [if_neg h0, if_pos h]
theorem sl_torn {acc : List (List Nat)} {l : List Nat} (h0 : l.length ≠ 0) (h : (vr l).2.2 = 0) (h2 : (l.drop (vr l).2.1).length < (vr l).1) : sl acc l = (4, []) := by
  unfold sl slN
  rw [if_neg h0, if_neg (by omega), if_pos h2]
theorem sl_go {acc : List (List Nat)} {l : List Nat} (h0 : l.length ≠ 0) (h : (vr l).2.2 = 0) (h2 : ¬ (l.drop (vr l).2.1).length < (vr l).1) : sl acc l = sl (acc ++ [(l.drop (vr l).2.1).take (vr l).1]) ((l.drop (vr l).2.1).drop (vr l).1) := by
  have hu := vr_used h
  unfold sl
  conv => lhs; unfold slN
  rw [if_neg h0, if_neg (by omega), if_neg h2]
  exact slN_fuel _ _ _ _ (by simp only [List.length_drop]; omega) (by omega)
/-- What was joined is parted again as it was. -/
theorem sl_join : ∀ (ps acc : List (List Nat)), (∀ p ∈ ps, p.length < 18446744073709551616) → sl acc (joinL ps) = (0, acc ++ ps)
  | [], acc, _ => by rw [List.append_nil]; rfl
  | p :: ps, acc, hp => by
    have hup := uv_pos p.length
    have hv := vr_uv p.length (p ++ joinL ps) (hp p (by simp))
    have e0 : joinL (p :: ps) = uv p.length ++ (p ++ joinL ps) := by show uv p.length ++ p ++ joinL ps = _; rw [List.append_assoc]
    have hd : (uv p.length ++ (p ++ joinL ps)).drop (uv p.length).length = p ++ joinL ps := List.drop_left' rfl
    have ih := sl_join ps (acc ++ [p]) (fun q hq => hp q (by simp [hq]))
    rw [e0, sl_go (by rw [List.length_append]; omega) (by rw [hv]) (by rw [hv]; show ¬ (List.drop (uv p.length).length _).length < p.length; rw [hd, List.length_append]; omega), hv]
    show sl (acc ++ [((uv p.length ++ (p ++ joinL ps)).drop (uv p.length).length).take p.length]) (((uv p.length ++ (p ++ joinL ps)).drop (uv p.length).length).drop p.length) = _
    rw [hd, List.take_left' rfl, List.drop_left' rfl, ih, List.append_assoc]
    rfl
/-- A part that reads as p, in rows of bytes. -/
def Part (w : World) (D : Option Addr) (p : List Nat) : Prop :=
  Reads w w.heap.size 1 D p.length (Ints .u8 p) ∧ (∀ ad, D = some ad → ∃ cs, Blk w ad.block 5 cs) ∧ ∀ i, p.getD i 0 < 256
theorem Part.below {w w' : World} {D : Option Addr} {p : List Nat} (h : Part w D p) (hb : Below w.heap.size w w') : Part w' D p := by
  obtain ⟨h1, h2, h3⟩ := h
  refine ⟨(h1.below hb).more hb.size, fun ad e => ?_, h3⟩
  obtain ⟨cs, hc⟩ := h2 ad e
  exact ⟨cs, hc.below hb hc.lt⟩
theorem Part.grown {w w' : World} {D : Option Addr} {p : List Nat} {row : Option Nat} (h : Part w D p) (hg : w.grownBy w' row) (hr : ∀ g, row = some g → ∃ cs, Blk w g 22 cs) : Part w' D p := by
  obtain ⟨⟨h1, h1'⟩, h2, h3⟩ := h
  have key : ∀ ad, D = some ad → ad.block < w.heap.size ∧ w'.heap[ad.block]? = w.heap[ad.block]? := fun ad e => by
    obtain ⟨cs, hc⟩ := h2 ad e
    refine ⟨hc.lt, hg.block _ hc.lt (fun er => ?_)⟩
    obtain ⟨cs2, hc2⟩ := hr _ er.symm
    exact Blk.ne_ hc hc2 (by decide) rfl
  refine ⟨⟨h1, fun hn => ?_⟩, fun ad e => ?_, h3⟩
  · obtain ⟨ad, e, hlt, hc⟩ := h1' hn
    refine ⟨ad, e, Nat.lt_of_lt_of_le hlt hg.size, fun j u hu => ?_⟩
    rw [← hc j u hu]
    refine World.cell?_of_block ?_
    rw [block_of_add]
    exact (key ad e).2
  · obtain ⟨cs, hc⟩ := h2 ad e
    exact ⟨cs, (key ad e).2.trans hc⟩
/-- A row of slices that read as the parts. -/
def PR (w : World) (xs : List Value) (acc : List (List Nat)) : Prop :=
  xs.length = acc.length ∧ ∀ (i : Nat) (p : List Nat), acc[i]? = some p → ∃ (D : Option Addr) (c : Nat), xs[i]? = some (Value.slice D p.length c) ∧ Part w D p
theorem PR.below {w w' : World} {xs : List Value} {acc : List (List Nat)} (h : PR w xs acc) (hb : Below w.heap.size w w') : PR w' xs acc :=
  ⟨h.1, fun i p hp => by obtain ⟨D, c, h1, h2⟩ := h.2 i p hp; exact ⟨D, c, h1, h2.below hb⟩⟩
theorem PR.grown {w w' : World} {xs : List Value} {acc : List (List Nat)} {row : Option Nat} (h : PR w xs acc) (hg : w.grownBy w' row) (hr : ∀ g, row = some g → ∃ cs, Blk w g 22 cs) : PR w' xs acc :=
  ⟨h.1, fun i p hp => by obtain ⟨D, c, h1, h2⟩ := h.2 i p hp; exact ⟨D, c, h1, h2.grown hg hr⟩⟩
theorem PR.push {w : World} {xs : List Value} {acc : List (List Nat)} (h : PR w xs acc) {D : Option Addr} {p : List Nat} {c : Nat} (hp : Part w D p) : PR w (xs ++ [Value.slice D p.length c]) (acc ++ [p]) := by
  refine ⟨by simp [h.1], fun i q hq => ?_⟩
  rcases Nat.lt_or_ge i acc.length with hi | hi
  · rw [List.getElem?_append_left hi] at hq
    obtain ⟨D', c', h1, h2⟩ := h.2 i q hq
    exact ⟨D', c', by rw [List.getElem?_append_left (by rw [h.1]; exact hi)]; exact h1, h2⟩
  · rw [List.getElem?_append_right hi] at hq
    have hi0 : i - acc.length = 0 := by
      rcases Nat.eq_zero_or_pos (i - acc.length) with h0 | h0
      · exact h0
      · rw [List.getElem?_eq_none (by simp; omega)] at hq; cases hq
    rw [hi0] at hq
    cases hq
    exact ⟨D, c, by rw [List.getElem?_append_right (by rw [h.1]; exact hi), h.1, hi0]; rfl, hp⟩
theorem own_type {w : World} {B e n : Nat} {v : Value} {xs : List Value} (h : w.ownsRow B e 1 v n xs) {q : Nat} (hq : v.ownBlock = some q) : ∃ cs, Blk w q e cs := by
  rcases h.2 with ⟨rfl, _⟩ | ⟨g, cap, cur, rfl, hb, hh, _⟩
  · simp [Value.ownBlock] at hq
  · simp [Value.ownBlock] at hq
    subst hq
    exact ⟨cur, hh⟩
theorem own_part {w : World} {B n c : Nat} {A : Option Addr} {p : List Nat} (hn : p.length = n) (hb : ∀ i, p.getD i 0 < 256) (h : w.ownsRow B 5 1 (.slice A n c) n (Ints .u8 p)) : Part w A p := by
  subst hn
  exact ⟨Reads.of_own h, fun ad e => own_type h (by rw [e]; rfl), hb⟩
end Go.Proofs.Ytkkdcojgnpmpgaa
