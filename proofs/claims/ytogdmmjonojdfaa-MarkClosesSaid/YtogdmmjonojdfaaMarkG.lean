/- mark: the closure of From that enters numbers. -/
import Derived.Test.YtogdmmjonojdfaaMarkF
namespace Go.Proofs.Ytogdmmjonojdfaa
open Go.RowKit
open Go.Maps (Keyed)
open Go.ChangeMaps
set_option linter.unusedVariables false

def ent (out : List Nat) (x : Nat) : List Nat := if x = 0 ∨ x ∈ out then out else out ++ [x]
def entL (out zs : List Nat) : List Nat := zs.foldl ent out
theorem entL_take {out zs : List Nat} {j : Nat} (h : j < zs.length) : entL out (zs.take (j + 1)) = ent (entL out (zs.take j)) zs[j] := by
  rw [List.take_succ_eq_append_getElem h, entL, List.foldl_append]; rfl
def FSt (w : World) (O : Nat → Prop) (a b c U : Nat) (out asked : List Nat) : Prop :=
  ∃ m q g cq n co bd f A D, FrS w O a b c U out asked m q g cq n co bd f A D
theorem FSt.mv {w w' : World} {O S : Nat → Prop} {a b c U : Nat} {out asked : List Nat} (h : FSt w O a b c U out asked) (hm : Mv S w w') (hs : ∀ x, S x → ¬ O x) : FSt w' O a b c U out asked := by
  obtain ⟨m, q, g, cq, n, co, bd, f, A, D, k⟩ := h
  exact ⟨m, q, g, cq, n, co, bd, f, A, D, k.mv hm hs⟩
theorem FSt.low_ {w : World} {O : Nat → Prop} {a b c U : Nat} {out asked : List Nat} (h : FSt w O a b c U out asked) : ∀ x, O x → x < w.heap.size := by
  obtain ⟨m, q, g, cq, n, co, bd, f, A, D, k⟩ := h
  exact k.ol
theorem own_mv {w w' : World} {S : Nat → Prop} {B : Nat} {e : TypeId} {v : Value} {n : Nat} {xs : List Value} (h : w.ownsRow B e 1 v n xs) (hm : Mv S w w') (hs : ∀ x, v.ownBlock = some x → x < w.heap.size ∧ ¬ S x) : w'.ownsRow B e 1 v n xs := by
  refine ⟨h.1, ?_⟩
  rcases h.2 with h1 | ⟨g1, cap, cur, e1, e2, e3, e4⟩
  · exact .inl h1
  · have hO := hs g1 (by rw [e1]; rfl)
    exact .inr ⟨g1, cap, cur, e1, e2, (hm.block g1 hO.1 hO.2).trans e3, e4⟩
theorem map_blk_ne {H : Type} {P : Program} {k : TypeId} {R : Value → Option (DataW H × List MemPlace)} {b n : Nat} {D : DataW H} {w : World} {g : Nat} {t : TypeId} {cs : Array Value} (h : w.ownsMap P k R b n D) (hb : Blk w g t cs) : g ≠ b := by
  rintro rfl
  obtain ⟨es, clock, he, _⟩ := h
  unfold Blk at hb
  rw [he] at hb
  cases hb
theorem own_map_ne {H : Type} {P : Program} {k : TypeId} {R : Value → Option (DataW H × List MemPlace)} {b n B m : Nat} {D : DataW H} {w : World} {e : TypeId} {v : Value} {xs : List Value} (h : w.ownsMap P k R b n D) (hb : w.ownsRow B e 1 v m xs) : v.ownBlock ≠ some b := by
  intro e0
  rcases hb.2 with ⟨h1, _⟩ | ⟨g1, cap, cur, e1, e2, e3, e4⟩
  · rw [h1] at e0; cases e0
  · rw [e1] at e0
    cases e0
    obtain ⟨es, clock, he, _⟩ := h
    rw [he] at e3
    cases e3
theorem FrS.outU {w : World} {O : Nat → Prop} {a b c U : Nat} {out asked : List Nat} {m q g cq n co bd : Nat} {f : Nat → Int} {A : Option Addr} {D : DataW Unit} (h : FrS w O a b c U out asked m q g cq n co bd f A D) : out.length ≤ U := pigeon U out h.nd (fun x hx => (h.lt x hx).1)
theorem FrS.nU {w : World} {O : Nat → Prop} {a b c U : Nat} {out asked : List Nat} {m q g cq n co bd : Nat} {f : Nat → Int} {A : Option Addr} {D : DataW Unit} (h : FrS w O a b c U out asked m q g cq n co bd f A D) : n ≤ U := by
  have h1 := h.pm.length_eq
  have h2 : (rest out asked).length ≤ out.length := by unfold rest; rw [List.length_map]; exact List.length_filter_le _ _
  have := h.outU
  simp at h1
  omega
section
variable {w w5 w6 w8 : World} {O : Nat → Prop} {a b c U : Nat} {out asked : List Nat} {m q g cq n co bd : Nat} {f : Nat → Int} {A : Option Addr} {D : DataW Unit}
theorem FrS.at5 (h : FrS w O a b c U out asked m q g cq n co bd f A D) (hg5 : w.grownBy w5 (some m)) : Blk w5 b 22 #[.slice A out.length co] ∧ w5.ownsRow 0 3 1 (.slice A out.length co) out.length (Ints .i64 out) := by
  have m5 : Mv (fun x => x = m) w w5 := (Mv.refl _ w).grown hg5 (fun g0 e _ => (Option.some.inj e).symm)
  exact ⟨h.bb.mv m5 (map_blk_ne h.mp h.bb), own_mv h.row m5 (fun x hx => ⟨h.ol x (h.ne x hx).2, fun e => own_map_ne h.mp h.row (by rw [hx, e])⟩)⟩
theorem FrS.at6 (h : FrS w O a b c U out asked m q g cq n co bd f A D) (hg5 : w.grownBy w5 (some m)) (hg6 : w5.grownBy w6 (Value.slice A out.length co).ownBlock) : Blk w6 b 22 #[.slice A out.length co] :=
  (h.at5 hg5).1.grown hg6 (fun e => own_blk_ne (h.at5 hg5).2 (h.at5 hg5).1 (by decide) e.symm)
theorem FrS.at7 (h : FrS w O a b c U out asked m q g cq n co bd f A D) (hg5 : w.grownBy w5 (some m)) (hg6 : w5.grownBy w6 (Value.slice A out.length co).ownBlock) (u : Value) :
    Blk (w6.setCell ⟨b, 0, none⟩ u) c 43 #[.pointer (some ⟨q, 0, none⟩)] ∧ Qs (w6.setCell ⟨b, 0, none⟩ u) q g cq n f ∧ Mv (fun x => x = m ∨ (Value.slice A out.length co).ownBlock = some x ∨ x = b) w (w6.setCell ⟨b, 0, none⟩ u) := by
  have m7 : Mv (fun x => x = m ∨ (Value.slice A out.length co).ownBlock = some x ∨ x = b) w (w6.setCell ⟨b, 0, none⟩ u) :=
    (((Mv.refl _ w).grown hg5 (fun g0 e _ => .inl (Option.some.inj e).symm)).grown hg6 (fun g0 e _ => .inr (.inl e))).setCell (p := ⟨b, 0, none⟩) (fun _ => .inr (.inr rfl)) u
  have k : ∀ x t cs, Blk w x t cs → t ≠ 3 → x ≠ b → ¬ (x = m ∨ (Value.slice A out.length co).ownBlock = some x ∨ x = b) := by
    intro x t cs hb ht hx e
    rcases e with e | e | e
    · exact map_blk_ne h.mp hb e
    · exact own_blk_ne h.row hb (fun e => ht e.symm) e
    · exact hx e
  refine ⟨h.bc.mv m7 (k _ _ _ h.bc (by decide) (h.bc.ne_ h.bb (by decide))), ⟨h.qs.cell.mv m7 (k _ _ _ h.qs.cell (by decide) (h.qs.cell.ne_ h.bb (by decide))), h.qs.row.mv m7 ?_⟩, m7⟩
  intro e
  obtain ⟨cs, hb, _⟩ := h.qs.row
  rcases e with e | e | e
  · exact map_blk_ne h.mp hb e
  · exact (h.ne g e).1 rfl
  · exact hb.ne_ h.bb (by decide) e
theorem rest_push {out asked : List Nat} {z : Nat} (h : z ∉ asked) : rest (out ++ [z]) asked = rest out asked ++ [(z : Int)] := by
  unfold rest
  rw [List.filter_append, List.map_append]
  simp [h]
theorem map_push {n : Nat} {f : Nat → Int} {z : Int} : (List.range (n + 1)).map (upd f n z) = (List.range n).map f ++ [z] := by
  rw [List.range_succ, List.map_append]
  congr 1
  · apply List.map_congr_left
    intro j hj
    have : j < n := by simpa using hj
    simp [upd, show j ≠ n by omega]
  · simp [upd]
theorem FrS.entered {z g6 c6 g8 c8 : Nat} {f8 : Nat → Int} (h : FrS w O a b c U out asked m q g cq n co bd f A D) (hz : z ≠ 0) (hzo : z ∉ out) (hzU : z < U) (hU : U ≤ 1000)
    (hown5 : w5.ownsMap Try.prog 3 boolR m (bd + 1) (D.put (.int .i64 (z : Int)) (.lit (.bool true)))) (hg5 : w.grownBy w5 (some m))
    (hown6 : w6.ownsRow 0 3 1 (.slice (some ⟨g6, 0, none⟩) (out.length + 1) c6) (out.length + 1) (Ints .i64 out ++ [.int .i64 (z : Int)])) (hg6 : w5.grownBy w6 (Value.slice A out.length co).ownBlock)
    (hat6 : (Value.slice A out.length co).ownBlock = some g6 ∨ w5.heap.size ≤ g6)
    (hq8 : Qs w8 q g8 c8 (n + 1) f8) (hp8 : Pm (n + 1) f8 (upd f n (z : Int))) (hh8 : Hp (n + 1) f8) (hat8 : g8 = g ∨ (w6.setCell ⟨b, 0, none⟩ (.slice (some ⟨g6, 0, none⟩) (out.length + 1) c6)).heap.size ≤ g8)
    (hm8 : Mv (fun x => x = q ∨ x = g) (w6.setCell ⟨b, 0, none⟩ (.slice (some ⟨g6, 0, none⟩) (out.length + 1) c6)) w8) :
    ∃ O', FSt w8 O' a b c U (out ++ [z]) asked ∧ Mv O w w8 ∧ ∀ x, O' x → O x ∨ w.heap.size ≤ x := by
  obtain ⟨hc7, hq7, m7⟩ := h.at7 hg5 hg6 (.slice (some ⟨g6, 0, none⟩) (out.length + 1) c6)
  have mO7 : Mv O w (w6.setCell ⟨b, 0, none⟩ (.slice (some ⟨g6, 0, none⟩) (out.length + 1) c6)) := m7.mono (fun x _ e => by
    rcases e with e | e | e
    · exact e ▸ h.om
    · exact (h.ne x e).2
    · exact e ▸ h.ob)
  have mO8 : Mv O w w8 := mO7.trans (hm8.mono (fun x _ e => by
    rcases e with e | e
    · exact e ▸ h.oq
    · exact e ▸ h.og))
  have h56 : w.heap.size ≤ w5.heap.size := hg5.size
  have h67 : w5.heap.size ≤ w6.heap.size := hg6.size
  have h77 : (w6.setCell ⟨b, 0, none⟩ (.slice (some ⟨g6, 0, none⟩) (out.length + 1) c6)).heap.size = w6.heap.size := by simp [World.setCell]
  have h78 := hm8.size
  have hg6lt : g6 < w6.heap.size := by
    rcases hown6.2 with ⟨e1, _⟩ | ⟨g1, cap, cur, e1, e2, e3, e4⟩
    · cases e1
    · cases e1
      rcases Nat.lt_or_ge g6 w6.heap.size with h1 | h1
      · exact h1
      · rw [Array.getElem?_eq_none (by omega)] at e3; cases e3
  have ho6 : O g6 ∨ w.heap.size ≤ g6 := by
    rcases hat6 with e | e
    · exact .inl (h.ne g6 e).2
    · exact .inr (by omega)
  have hg86 : g8 ≠ g6 := by
    intro e
    rcases hat8 with e8 | e8
    · rcases hat6 with e6 | e6
      · exact (h.ne g6 e6).1 (by rw [← e, e8])
      · have := h.ol g h.og; omega
    · omega
  have hgg6 : g ≠ g6 := by
    intro e
    rcases hat6 with e6 | e6
    · exact (h.ne g6 e6).1 e.symm
    · have := h.ol g h.og; omega
  have hqg6 : q ≠ g6 := by
    intro e
    rcases hat6 with e6 | e6
    · exact own_blk_ne h.row h.qs.cell (by decide) (by rw [e6, e])
    · have := h.ol q h.oq; omega
  have hbg6 : g6 ≠ b := by
    intro e
    rcases hat6 with e6 | e6
    · exact own_blk_ne h.row h.bb (by decide) (by rw [e6, e])
    · have := h.ol b h.ob; omega
  have hmb : b ≠ m := map_blk_ne h.mp h.bb
  have hmq : q ≠ m := map_blk_ne h.mp h.qs.cell
  obtain ⟨csg, hgb, _⟩ := h.qs.row
  have hmg : g ≠ m := map_blk_ne h.mp hgb
  have hqb : q ≠ b := h.qs.cell.ne_ h.bb (by decide)
  have hgb' : g ≠ b := hgb.ne_ h.bb (by decide)
  refine ⟨fun x => O x ∨ x = g6 ∨ x = g8, ⟨m, q, g8, c8, n + 1, c6, bd + 1, f8, some ⟨g6, 0, none⟩, D.put (.int .i64 (z : Int)) (.lit (.bool true)), ⟨?_, ?_, ?_, hq8, ?_, ?_, ?_, ?_, ?_, hh8, ?_, ?_, ?_, ?_, .inl h.oa, .inl h.ob, .inl h.oc, .inl h.om, .inl h.oq, .inr (.inr rfl), ?_⟩⟩, mO8, ?_⟩
  · refine (h.ba.mv m7 ?_).mv hm8 ?_
    · rintro (e | e | e)
      · exact map_blk_ne h.mp h.ba e
      · exact own_blk_ne h.row h.ba (by decide) e
      · exact h.ba.ne_ h.bb (by decide) e
    · rintro (e | e)
      · exact h.ba.ne_ h.qs.cell (by decide) e
      · exact h.ba.ne_ hgb (by decide) e
  · refine Blk.mv (S := fun x => x = q ∨ x = g) ?_ hm8 ?_
    · have := (h.at6 hg5 hg6).set_ 0 (.slice (some ⟨g6, 0, none⟩) (out.length + 1) c6)
      simpa using this
    · rintro (e | e)
      · exact hqb e.symm
      · exact hgb' e.symm
  · refine hc7.mv hm8 ?_
    rintro (e | e)
    · exact h.bc.ne_ h.qs.cell (by decide) e
    · exact h.bc.ne_ hgb (by decide) e
  · have e1 : Ints .i64 out ++ [.int .i64 (z : Int)] = Ints .i64 (out ++ [z]) := by simp [Ints]
    rw [e1] at hown6
    have h7 : (w6.setCell ⟨b, 0, none⟩ (.slice (some ⟨g6, 0, none⟩) (out.length + 1) c6)).ownsRow 0 3 1 (.slice (some ⟨g6, 0, none⟩) (out.length + 1) c6) (out.length + 1) (Ints .i64 (out ++ [z])) :=
      own_mv hown6 ((Mv.refl (fun x => x = b) w6).setCell (p := ⟨b, 0, none⟩) (fun _ => rfl) _) (fun x hx => by cases hx; exact ⟨hg6lt, hbg6⟩)
    have h8 := own_mv h7 hm8 (fun x hx => by
      cases hx
      exact ⟨by rw [h77]; exact hg6lt, fun e => by rcases e with e | e; exact hqg6 e.symm; exact hgg6 e.symm⟩)
    simpa using h8
  · intro x hx
    cases hx
    exact ⟨fun e => hg86 e.symm, .inr (.inl rfl)⟩
  · refine mv_map (S := fun x => x = q ∨ x = g) (mv_map (S := fun x => (Value.slice A out.length co).ownBlock = some x ∨ x = b) hown5 ?_ ?_) hm8 ?_
    · exact ((Mv.refl _ w5).grown hg6 (fun g0 e _ => .inl e)).setCell (p := ⟨b, 0, none⟩) (fun _ => .inr rfl) _
    · rintro (e | e)
      · exact own_map_ne h.mp h.row e
      · exact hmb e.symm
    · rintro (e | e)
      · exact hmq e.symm
      · exact hmg e.symm
  · have := keepN_put h.kd h.mp.isMap (z := z) (by omega)
    simpa using this
  · have := h.sz; simp; omega
  · rw [rest_push (fun hx => hzo (h.sk z hx))]
    refine List.Perm.trans hp8 ?_
    rw [map_push]
    exact h.pm.append_right _
  · rw [List.nodup_append]
    exact ⟨h.nd, by simp, fun x hx y hy => by simp at hy; subst hy; exact fun e => hzo (e ▸ hx)⟩
  · intro x hx
    rcases List.mem_append.1 hx with hx | hx
    · exact h.lt x hx
    · simp at hx; subst hx; exact ⟨hzU, hz⟩
  · intro x hx
    exact List.mem_append.2 (.inl (h.sk x hx))
  · intro x hx
    rcases hx with hx | hx | hx
    · have := h.ol x hx; have := mO8.size; omega
    · subst hx; omega
    · subst hx
      exact hq8.row.lt
  · intro x hx
    rcases hx with hx | hx | hx
    · exact .inl hx
    · subst hx; exact ho6
    · subst hx
      rcases hat8 with e | e
      · exact .inl (e ▸ h.og)
      · exact .inr (by omega)
end
end Go.Proofs.Ytogdmmjonojdfaa
