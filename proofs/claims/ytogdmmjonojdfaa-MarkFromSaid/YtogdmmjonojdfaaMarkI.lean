/- mark: From, by a contract of what it asks. -/
import Derived.Test.YtogdmmjonojdfaaMarkH
namespace Go.Proofs.Ytogdmmjonojdfaa
open Go.RowKit
open Go.Maps (Keyed)
open Go.ChangeMaps
set_option linter.unusedVariables false

theorem sizeI (W : World) : (sizeOf (Try.prog.elem 22)).run Try.prog W = .ok 1 W := by
  obtain ⟨i0, hi, hz0, hz1, hz2⟩ := info_parts infoI
  have e : Try.prog.elem 22 = 3 := by kernel_rfl
  have e2 : Try.prog.cellsOf 3 = 1 := by kernel_rfl
  rw [e, run_sizeOf W hi, e2]
theorem clip_any (A : Option Addr) (n cap : Nat) (w : World) (hn : n ≤ cap) (hc : cap ≤ maxLen) :
    Calls Try.prog 25 #[.slice A n cap] w fun e w' => e = .returned (.slice A n n) ∧ w = w' := by
  have hsl : ∀ W : World, (Instr.slice 22 (.slice A n cap) none (some (.int .i64 (n : Int))) (some (.int .i64 (n : Int)))).run Try.prog W = .ok (.slice A n n) W := by
    intro W
    have e := run_slice_hm (P := Try.prog) W 22 A n cap Try.underlying22 .i64 .i64 (n : Int) (n : Int) (by omega) (by omega) (by omega)
    rw [e, sizeI]
    have e3 : ∀ x : Addr, x.add 0 = x := fun x => by unfold Addr.add; cases x; split <;> simp_all
    simp [sliced, Result.andThen, e3]
  go_enter Try.func25, Try.ntmps25
  go_wp2_with fail
  go_ret
  exact ⟨by simp, rfl⟩
/-- What From asks: an answer's numbers and its error, by the number asked; I: what the one who answers holds, P: its blocks. -/
structure Of (F : FuncId) (cap : Array Value) (U : Nat) (I : (Nat → Prop) → World → List Nat → Prop) (ans : Nat → List Nat × Int) : Prop where
  enters : ∀ (W : World) (x : Int), (callFunc F (#[.int .i64 x] ++ cap)).run Try.prog W = .ok (.enter F (#[.int .i64 x] ++ cap)) W
  keep : ∀ P S w w' asked, I P w asked → Mv S w w' → (∀ x, S x → ¬ P x) → I P w' asked
  low : ∀ P w asked, I P w asked → ∀ x, P x → x < w.heap.size
  asks : ∀ P w asked x, I P w asked → asked.length < U → x < U → x ≠ 0 → Calls Try.prog F (#[.int .i64 (x : Int)] ++ cap) w fun e w' => ∃ L cp, e = .returned (.tuple #[.slice L (ans x).1.length cp, .int .i64 (ans x).2]) ∧ Reads w' w'.heap.size 1 L (ans x).1.length (Ints .i64 (ans x).1) ∧
    (∀ ad, L = some ad → P ad.block ∨ w.heap.size ≤ ad.block) ∧ ∃ P', I P' w' (asked ++ [x]) ∧ Mv P w w' ∧ ∀ y, P' y → P y ∨ w.heap.size ≤ y
  small : ∀ x, x < U → (ans x).1.length < 1000000 ∧ ∀ y ∈ (ans x).1, y < U
inductive Fr (roots : List Nat) (ans : Nat → List Nat × Int) (most : Int) : List Nat → List Nat → Prop
  | start : Fr roots ans most (entL [] roots) []
  | step {out asked : List Nat} {x : Nat} : Fr roots ans most out asked → x ∈ out → x ∉ asked → (∀ y ∈ out, y ∉ asked → x ≤ y) → (out.length : Int) ≤ most → (ans x).2 = 0 → Fr roots ans most (entL out (ans x).1) (asked ++ [x])
theorem rest_mem {out asked : List Nat} {z : Int} : z ∈ rest out asked ↔ ∃ x : Nat, z = x ∧ x ∈ out ∧ x ∉ asked := by
  unfold rest
  rw [List.mem_map]
  constructor
  · rintro ⟨x, hx, rfl⟩
    have := List.mem_filter.1 hx
    exact ⟨x, rfl, this.1, by simpa using this.2⟩
  · rintro ⟨x, rfl, h1, h2⟩
    exact ⟨x, List.mem_filter.2 ⟨h1, by simpa using h2⟩, rfl⟩
theorem rest_pop : ∀ {out asked : List Nat} {x : Nat}, out.Nodup → x ∈ out → x ∉ asked → (rest out asked).Perm ((x : Int) :: rest out (asked ++ [x])) := by
  intro out
  induction out with
  | nil => intro asked x _ h _; cases h
  | cons y r ih =>
    intro asked x hn hx ha
    have hn2 := List.nodup_cons.1 hn
    by_cases e : y = x
    · subst e
      have e1 : rest (y :: r) asked = (y : Int) :: rest r asked := by unfold rest; simp [ha]
      have e2 : rest (y :: r) (asked ++ [y]) = rest r (asked ++ [y]) := by unfold rest; simp
      have e3 : rest r (asked ++ [y]) = rest r asked := by
        unfold rest
        congr 1
        apply List.filter_congr
        intro z hz
        have : z ≠ y := fun e => hn2.1 (e ▸ hz)
        simp [this]
      rw [e1, e2, e3]
    · have hx2 : x ∈ r := by
        rcases List.mem_cons.1 hx with h | h
        · exact absurd h.symm e
        · exact h
      have h1 := ih hn2.2 hx2 ha
      by_cases hy : y ∈ asked
      · have e1 : rest (y :: r) asked = rest r asked := by unfold rest; simp [hy]
        have e2 : rest (y :: r) (asked ++ [x]) = rest r (asked ++ [x]) := by unfold rest; simp [hy]
        rw [e1, e2]; exact h1
      · have e1 : rest (y :: r) asked = (y : Int) :: rest r asked := by unfold rest; simp [hy]
        have e2 : rest (y :: r) (asked ++ [x]) = (y : Int) :: rest r (asked ++ [x]) := by unfold rest; simp [hy, e]
        rw [e1, e2]
        exact (h1.cons _).trans (List.Perm.swap _ _ _)
/-- The number that a heap of what is left gives. -/
theorem FrS.pop {w w5 : World} {O : Nat → Prop} {a b c U : Nat} {out asked : List Nat} {m q g cq n co bd : Nat} {f f' : Nat → Int} {A : Option Addr} {D : DataW Unit} (h : FrS w O a b c U out asked m q g cq (n + 1) co bd f A D)
    (hq : Qs w5 q g cq n f') (hp : Pm (n + 1) (upd f' n (f 0)) f) (hh : Hp n f') (hm : Mv (fun x => x = q ∨ x = g) w w5) :
    ∃ x : Nat, f 0 = x ∧ x ∈ out ∧ x ∉ asked ∧ (∀ y ∈ out, y ∉ asked → x ≤ y) ∧ FSt w5 O a b c U out (asked ++ [x]) ∧ Mv O w w5 := by
  have h1 : ((List.range (n + 1)).map f).Perm (rest out asked) := h.pm
  have hmem : f 0 ∈ rest out asked := h1.mem_iff.1 (List.mem_map.2 ⟨0, by simp, rfl⟩)
  obtain ⟨x, e, hx, hxa⟩ := rest_mem.1 hmem
  have mO : Mv O w w5 := hm.mono (fun y _ e => by rcases e with e | e; exact e ▸ h.oq; exact e ▸ h.og)
  obtain ⟨csg, hgb, _⟩ := h.qs.row
  refine ⟨x, e, hx, hxa, fun y hy hya => ?_, ⟨m, q, g, cq, n, co, bd, f', A, D, ⟨h.ba.mv hm ?_, h.bb.mv hm ?_, h.bc.mv hm ?_, hq, own_mv h.row hm ?_, h.ne, mv_map h.mp hm ?_, h.kd, h.sz, hh, ?_, h.nd, h.lt, ?_, h.oa, h.ob, h.oc, h.om, h.oq, h.og, fun y hy => Nat.lt_of_lt_of_le (h.ol y hy) mO.size⟩⟩, mO⟩
  · have hy1 : (y : Int) ∈ rest out asked := rest_mem.2 ⟨y, rfl, hy, hya⟩
    obtain ⟨i, hi, e1⟩ := List.mem_map.1 (h1.mem_iff.2 hy1)
    have := h.hp.min i (by simpa using hi)
    omega
  · rintro (e | e)
    · exact h.ba.ne_ h.qs.cell (by decide) e
    · exact h.ba.ne_ hgb (by decide) e
  · rintro (e | e)
    · exact h.bb.ne_ h.qs.cell (by decide) e
    · exact h.bb.ne_ hgb (by decide) e
  · rintro (e | e)
    · exact h.bc.ne_ h.qs.cell (by decide) e
    · exact h.bc.ne_ hgb (by decide) e
  · intro y hy
    refine ⟨h.ol y (h.ne y hy).2, ?_⟩
    rintro (e | e)
    · exact own_blk_ne h.row h.qs.cell (by decide) (by rw [hy, e])
    · exact (h.ne y hy).1 e
  · rintro (e | e)
    · exact map_blk_ne h.mp h.qs.cell e.symm
    · exact map_blk_ne h.mp hgb e.symm
  · have h2 : ((List.range n).map f' ++ [(x : Int)]).Perm (rest out asked) := by
      have h3 : ((List.range (n + 1)).map (upd f' n (f 0))).Perm ((List.range (n + 1)).map f) := hp
      rw [map_push, e] at h3
      exact h3.trans h1
    have h4 := h2.trans (rest_pop h.nd hx hxa)
    exact ((List.perm_append_singleton _ _).symm.trans h4).cons_inv
  · intro y hy
    rcases List.mem_append.1 hy with hy | hy
    · exact h.sk y hy
    · simp at hy; subst hy; exact hx
theorem blk_new (w : World) (t : TypeId) (cs : Array Value) {g : Nat} (h : g = w.heap.size) : Blk (w.alloc (.cells cs t)) g t cs := by subst h; exact Blk.new w t cs
theorem Reads.mvx {w w' : World} {size n : Nat} {A : Option Addr} {xs : List Value} (h : Reads w w.heap.size size A n xs) (hm : Mv (fun _ => False) w w') : Reads w' w'.heap.size size A n xs :=
  (h.keep (fun p hp => World.cell?_of_block (w := w) (hm.block p.block hp (fun e => e)))).more hm.size
def FromPost (roots : List Nat) (ans : Nat → List Nat × Int) (most : Int) (I : (Nat → Prop) → World → List Nat → Prop) (P : Nat → Prop) (w : World) (e : Ending) (w' : World) : Prop :=
  ∃ (out asked : List Nat) (P' : Nat → Prop), I P' w' asked ∧ Mv P w w' ∧ (∀ x, P' x → P x ∨ w.heap.size ≤ x) ∧
    ((Fr roots ans most out asked ∧ (∀ x ∈ out, x ∈ asked) ∧ ∃ (A : Option Addr) (l : List Nat), l.Perm out ∧ l.Pairwise (· ≤ ·) ∧ e = .returned (.tuple #[.slice A l.length l.length, .int .i64 0]) ∧ Reads w' w'.heap.size 1 A l.length (Ints .i64 l) ∧ ∀ ad, A = some ad → w.heap.size ≤ ad.block) ∨
     (Fr roots ans most out asked ∧ (∃ x ∈ out, x ∉ asked) ∧ most < out.length ∧ e = .returned (.tuple #[.slice none 0 0, .int .i64 5])) ∨
     (∃ (a0 : List Nat) (x : Nat), asked = a0 ++ [x] ∧ Fr roots ans most out a0 ∧ x ∈ out ∧ x ∉ a0 ∧ (∀ y ∈ out, y ∉ a0 → x ≤ y) ∧ (out.length : Int) ≤ most ∧ (ans x).2 ≠ 0 ∧ e = .returned (.tuple #[.slice none 0 0, .int .i64 (ans x).2])))
end Go.Proofs.Ytogdmmjonojdfaa
