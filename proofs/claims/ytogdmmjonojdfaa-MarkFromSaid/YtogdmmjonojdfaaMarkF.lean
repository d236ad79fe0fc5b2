/- mark: what From holds, and its closure that enters numbers. -/
import Derived.Test.YtogdmmjonojdfaaMarkE
namespace Go.Proofs.Ytogdmmjonojdfaa
open Go.RowKit
open Go.Maps (Keyed)
open Go.ChangeMaps
set_option linter.unusedVariables false

/-- What the map of what was found says. -/
def KeepN (D : DataW Unit) (l : List Nat) : Prop := ∀ q : Nat, q < 65536 → D.atKey (.int .i64 (q : Int)) (.lit (.bool false)) = .lit (.bool (decide (q ∈ l)))
noncomputable abbrev boolR : Value → Option (DataW Unit × List MemPlace) := plainElem Try.prog 4
theorem keyedI : Keyed Try.prog 3 := Maps.int_keyed Try.underlying3
theorem key_int {a : Int} (h : 0 ≤ a ∧ a < 1000000) : keyOf Try.prog 3 (.int .i64 a) = some (.int .i64 a) :=
  Maps.keyOf_int_mk Try.underlying3 (by simp only [Lit.wf, IntKind.min, IntKind.max, IntKind.signed, IntKind.bits, Bool.and_eq_true, decide_eq_true_eq, if_true]; omega)
theorem keepN_put {D : DataW Unit} {l : List Nat} {z : Nat} (h : KeepN D l) (hm : Maps.IsMap D) (hz : z < 65536) : KeepN (D.put (.int .i64 (z : Int)) (.lit (.bool true))) (l ++ [z]) := by
  intro q hq
  have hkl : WideAt.IsKeyLit (.int .i64 (z : Int)) := keyedI.key (key_int (by omega))
  by_cases e : q = z
  · rw [e, Maps.atKey_put_same hm hkl]
    simp
  · have hne : (Lit.int .i64 (q : Int)) ≠ (Lit.int .i64 (z : Int)) := fun e' => e (by injection e' with _ e2; omega)
    rw [Maps.atKey_put_other hne, h q hq]
    simp [e]
theorem keepN_look {w : World} {b m : Nat} {D : DataW Unit} {l : List Nat} (h : w.ownsMap Try.prog 3 boolR b m D) (hk : KeepN D l) (q : Nat) (hq : q < 65536) :
    (Instr.lookup 42 (.map (some b)) (.int .i64 (q : Int)) false).run Try.prog w = .ok (.bool (decide (q ∈ l))) w := by
  obtain ⟨v, ps, hrun, hv⟩ := h.lookup (t := 42) (e := 4) keyedI Try.underlying42 (z := .bool false) (by rfl) (plainElem_bool Try.underlying4 false) (key_int (a := (q : Int)) (by omega))
  rw [hk q hq] at hv
  have e : v = .bool (decide (q ∈ l)) := by
    unfold boolR plainElem at hv
    rw [Try.underlying4] at hv
    cases v <;> simp at hv
    rw [hv.1]
  rw [hrun, e]

/-- A row of numbers without twins below U is no longer than U. -/
theorem pigeon : ∀ (U : Nat) (l : List Nat), l.Nodup → (∀ x ∈ l, x < U) → l.length ≤ U := by
  intro U
  induction U with
  | zero => intro l _ h; cases l with
    | nil => simp
    | cons x r => exact absurd (h x (by simp)) (by omega)
  | succ U ih =>
    intro l hn h
    have h1 := ih (l.filter (· ≠ U)) (hn.filter _) (fun x hx => by
      have := List.mem_filter.1 hx
      have h2 := h x this.1
      have h3 : x ≠ U := by simpa using this.2
      omega)
    have h2 : (l.filter (· = U)).length ≤ 1 := by
      have h3 : (l.filter (· = U)).length = l.count U := by
        rw [List.count_eq_length_filter]
        congr 1
      rw [h3]
      exact List.nodup_iff_count.1 hn U
    have h4 : ∀ r : List Nat, r.length = (r.filter (· ≠ U)).length + (r.filter (· = U)).length := by
      intro r
      induction r with
      | nil => rfl
      | cons x r ih => by_cases e : x = U <;> simp [e] <;> simp at ih <;> omega
    have := h4 l
    omega

/-- The numbers that were found and not asked for. -/
def rest (out asked : List Nat) : List Int := (out.filter (fun x => decide (x ∉ asked))).map Int.ofNat
structure FrS (w : World) (O : Nat → Prop) (a b c : Nat) (U : Nat) (out asked : List Nat) (m q g cq n co bd : Nat) (f : Nat → Int) (A : Option Addr) (D : DataW Unit) : Prop where
  ba : Blk w a 42 #[.map (some m)]
  bb : Blk w b 22 #[.slice A out.length co]
  bc : Blk w c 43 #[.pointer (some ⟨q, 0, none⟩)]
  qs : Qs w q g cq n f
  row : w.ownsRow 0 3 1 (.slice A out.length co) out.length (Ints .i64 out)
  ne : ∀ x, (Value.slice A out.length co).ownBlock = some x → x ≠ g ∧ O x
  mp : w.ownsMap Try.prog 3 boolR m bd D
  kd : KeepN D (0 :: out)
  sz : bd ≤ out.length + 1
  hp : Hp n f
  pm : ((List.range n).map f).Perm (rest out asked)
  nd : out.Nodup
  lt : ∀ x ∈ out, x < U ∧ x ≠ 0
  sk : ∀ x ∈ asked, x ∈ out
  oa : O a
  ob : O b
  oc : O c
  om : O m
  oq : O q
  og : O g
  ol : ∀ x, O x → x < w.heap.size
theorem FrS.mv {w w' : World} {O S : Nat → Prop} {a b c U : Nat} {out asked : List Nat} {m q g cq n co bd : Nat} {f : Nat → Int} {A : Option Addr} {D : DataW Unit} (h : FrS w O a b c U out asked m q g cq n co bd f A D) (hm : Mv S w w') (hs : ∀ x, S x → ¬ O x) : FrS w' O a b c U out asked m q g cq n co bd f A D := by
  have k : ∀ x, O x → ¬ S x := fun x hx hy => hs x hy hx
  refine ⟨h.ba.mv hm (k _ h.oa), h.bb.mv hm (k _ h.ob), h.bc.mv hm (k _ h.oc), ⟨h.qs.cell.mv hm (k _ h.oq), h.qs.row.mv hm (k _ h.og)⟩, ?_, h.ne, mv_map h.mp hm (k _ h.om), h.kd, h.sz, h.hp, h.pm, h.nd, h.lt, h.sk, h.oa, h.ob, h.oc, h.om, h.oq, h.og, fun x hx => Nat.lt_of_lt_of_le (h.ol x hx) hm.size⟩
  refine ⟨h.row.1, ?_⟩
  rcases h.row.2 with h1 | ⟨g1, cap, cur, e1, e2, e3, e4⟩
  · exact .inl h1
  · have hO := (h.ne g1 (by rw [e1]; rfl)).2
    exact .inr ⟨g1, cap, cur, e1, e2, (hm.block g1 (h.ol _ hO) (k _ hO)).trans e3, e4⟩
end Go.Proofs.Ytogdmmjonojdfaa
