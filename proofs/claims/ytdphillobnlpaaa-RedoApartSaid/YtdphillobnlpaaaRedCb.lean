/- redo: whole arrays loaded and stored; rows of rows; what RedoPlays' writes are. -/
import Derived.Test.YtdphillobnlpaaaRedCa
namespace Go.Proofs.Ytdphillobnlpaaa
open Go.RowKit
set_option linter.unusedVariables false
theorem range_words {w : World} {b : Nat} {f : Nat → Int} (hb : Blk w b 40 (words .u64 256 f)) : w.rangeAt b 0 (words .u64 256 f).toList := fun j v hv => by
  rw [Nat.zero_add, hb.cell j, ← hv, Array.getElem?_toList]
theorem words_one (f : Nat → Int) : ∀ v ∈ (words .u64 256 f).toList, v.oneCell' = true := by
  intro v hv
  simp [words] at hv
  obtain ⟨_, _, rfl⟩ := hv
  rfl
theorem info256 (f : Nat → Int) : (Try.prog.info? 40).map (·.size) = some (words .u64 256 f).size := by rw [words_size]; kernel_rfl
theorem wpList_loadA {ops : Array Oper} {rest : List Oper} {o : Oper} {a : Act} {Q : Exit → Act → World → Prop} {w : World} (hgd : o.guard = none) (x : Operand) (ho : o.op = .load 40 x) (b : Nat) (hx : a.eval x = .pointer (some ⟨b, 0, none⟩)) (f : Nat → Int) (hb : Blk w b 40 (words .u64 256 f))
    (h : wpList Try.prog ops Q rest (a.put o.dst (.agg (words .u64 256 f))) w) : wpList Try.prog ops Q (o :: rest) a w := by
  have e : (words .u64 256 f).toList.toArray = words .u64 256 f := by simp
  refine wpList_load_mid hgd 40 x ho b 0 hx (words .u64 256 f).toList _ (range_words hb) Try.underlying40 rfl ?_ (by rw [e]; exact h)
  rw [Array.length_toList]
  exact info256 f
theorem wpList_storeA {ops : Array Oper} {rest : List Oper} {o : Oper} {a : Act} {Q : Exit → Act → World → Prop} {w : World} (hgd : o.guard = none) (x y : Operand) (ho : o.op = .store 40 x y) (b : Nat) (hx : a.eval x = .pointer (some ⟨b, 0, none⟩)) (f g : Nat → Int) (hy : a.eval y = .agg (words .u64 256 g)) (hb : Blk w b 40 (words .u64 256 f))
    (h : ∀ w', Blk w' b 40 (words .u64 256 g) → Mv (fun x => x = b) w w' → w.heap.size ≤ w'.heap.size → wpList Try.prog ops Q rest (a.put o.dst undef) w') : wpList Try.prog ops Q (o :: rest) a w := by
  refine wpList_store_mid hgd 40 x y ho b 0 (words .u64 256 g) hx hy ?_ (info256 g) ?_ (h _ ?_ ?_ ?_)
  · intro j hj
    rw [words_size] at hj
    rw [Nat.zero_add, hb.cell j]
    exact ⟨by rw [words_get _ _ _ hj]; rfl, hb.frozen j⟩
  · have := all_oneCell_toArray (words_one g)
    simpa using this
  · have := blk_all hb (vs := (words .u64 256 g).toList) (by rw [Array.length_toList, words_size, words_size])
    simpa using this
  · exact mv_puts (S := fun x => x = b) rfl (words .u64 256 g).toList 0 w w (Mv.refl _ w)
  · exact (mv_puts (S := fun x => x = b) rfl (words .u64 256 g).toList 0 w w (Mv.refl _ w)).size
theorem zero256 : Try.zeroCells40 = words .u64 256 fun _ => 0 := by kernel_rfl
theorem Reads.mvx {w w' : World} {size n : Nat} {A : Option Addr} {xs : List Value} (h : Reads w w.heap.size size A n xs) (hm : Mv (fun _ => False) w w') : Reads w' w'.heap.size size A n xs := (h.below (hm.below (Nat.le_refl _) (fun _ e => e.elim))).more hm.size
/-- A row of rows of numbers. -/
structure Web (w : World) (B : Nat) (W0 : Option Addr) (len : Nat) (A : Nat → Option Addr) (L C : Nat → Nat) (zs : Nat → List Int) : Prop where
  out : Reads w B 1 W0 len ((List.range len).map fun i => Value.slice (A i) (L i) (C i))
  row : ∀ r, r < len → Reads w B 1 (A r) (L r) ((zs r).map (Value.int .i64)) ∧ (zs r).length = L r ∧ L r ≤ 9223372036854775807
theorem wrs_mem {zs : List Int} {mark k : Nat} {p : Int × Int} (h : p ∈ wrs zs mark k) : 64 ≤ p.1 ∧ p.1 < 256 ∧ (mark : Int) ≤ p.2 ∧ p.2 < (mark + k : Nat) := by
  obtain ⟨i, hi, rfl⟩ := List.mem_map.1 h
  have := List.mem_range.1 hi
  obtain ⟨h1, h2⟩ := wd_in (zs.getD i 0)
  refine ⟨?_, ?_, ?_, ?_⟩
  · show (64 : Int) ≤ (wd _ : Nat); omega
  · show ((wd _ : Nat) : Int) < 256; omega
  · show (mark : Int) ≤ ((mark + i : Nat) : Int); omega
  · show ((mark + i : Nat) : Int) < ((mark + k : Nat) : Int); omega
theorem wrs_v {zs : List Int} {mark k : Nat} (hk : k ≤ 24) : commitV 256 0 64 (wrs zs mark k) = 0 := by
  unfold commitV
  rw [if_neg, if_neg]
  · rw [wrs_len]; omega
  · intro h
    obtain ⟨p, hp, hb⟩ := List.any_eq_true.1 h
    have := wrs_mem hp
    simp only [badB, ownB, Bool.or_eq_true, decide_eq_true_eq] at hb
    omega
theorem wrs_bad {zs : List Int} {mark k : Nat} {z : Int} (hz : z < 64 ∨ 255 < z) : commitV 256 0 64 (wrs zs mark k ++ [(z, 9)]) = 1 := by
  unfold commitV
  rw [if_pos]
  rw [List.any_append]
  simp only [List.any_cons, List.any_nil, badB, ownB, Bool.or_eq_true, decide_eq_true_eq]
  right
  left
  omega
theorem wrs_val {zs : List Int} {mark k : Nat} (hm : mark ≤ 100000) (hk : k ≤ 24) : ∀ p ∈ wrs zs mark k, 0 ≤ p.2 ∧ p.2 < 18446744073709551616 := fun p hp => by
  have := wrs_mem hp
  omega
theorem wrs_out {zs : List Int} {mark k j : Nat} (hj : j < 64) : j ∉ (nat2 (wrs zs mark k)).map Prod.fst := by
  intro h
  simp only [nat2, List.map_map, List.mem_map, Function.comp_apply] at h
  obtain ⟨p, hp, e⟩ := h
  have := wrs_mem hp
  omega
/-- What RedoPlays' device is behind t rounds. -/
structure Pl (s : DS) (f : Nat → Int) (t : Nat) : Prop where
  calm : Calm s
  u : U64 s.now
  z : s.now 0 = 0
  same : ∀ j, 64 ≤ j → s.now j = f j
  fuse : s.fuse = -1
  steps : s.steps ≤ 300000 * t
theorem Pl.start : Pl noughts (fun _ => 0) 0 := ⟨calm_noughts, u64_zero, rfl, fun _ _ => rfl, rfl, by decide⟩
theorem Pl.le {s : DS} {f : Nat → Int} {t t' : Nat} (h : Pl s f t) (ht : t ≤ t') : Pl s f t' := ⟨h.calm, h.u, h.z, h.same, h.fuse, by have := h.steps; omega⟩
theorem tB_all {g f : Nat → Int} (h : ∀ j, 64 ≤ j → j < 256 → g j = f j) : tB g f 256 = true := by
  exact decide_eq_true (fun j hj h1 => h j h1 hj)
theorem Pl.commit {s : DS} {f : Nat → Int} {t mark k : Nat} {zs : List Int} (h : Pl s f t) (hm : mark ≤ 100000) (hk : k ≤ 24) :
    Pl (commitD 256 0 64 (wrs zs mark k) s).1 (puts f (nat2 (wrs zs mark k))) (t + 1) := by
  have hV := wrs_v (zs := zs) (mark := mark) hk
  obtain ⟨f1, f2⟩ := commit_free 256 0 64 (wrs zs mark k) s h.fuse
  obtain ⟨c1, c2, c3, c4⟩ := (commit_all (n := 256) (at_ := 0) (words := 64) h.calm h.u h.z (by decide) hV (wrs_val hm hk)).all f1
  refine ⟨c1, c2, c3, fun j hj => ?_, f2, ?_⟩
  · rw [c4 j (by omega)]
    exact puts_in _ _ _ j (fun _ => h.same j hj)
  · have := commit_steps 256 0 64 (wrs zs mark k) s (by decide)
    have := h.steps
    omega
end Go.Proofs.Ytdphillobnlpaaa
