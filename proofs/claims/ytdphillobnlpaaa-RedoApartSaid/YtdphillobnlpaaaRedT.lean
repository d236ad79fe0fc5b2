/- redo: Commit's rounds: what is kept of the writes; what a round leaves. -/
import Derived.Maps.OwnIn
import Derived.Test.YtdphillobnlpaaaRedO
import Derived.Test.YtdphillobnlpaaaRedR
import Derived.Test.YtdphillobnlpaaaRedS
namespace Go.Proofs.Ytdphillobnlpaaa
open Go.RowKit
set_option linter.unusedVariables false
/-- A drawn region within a round: its last operation is the only one that does not only read. -/
theorem region_round {P : Program} {id m : Nat} {Q : Exit → Act → World → Prop} {a : Act} {w : World} {l : List Oper} (r n : Nat) (hQ : ¬ LetsOut Q) (hd : (l.all fun o => match o.op with | .defer _ => false | _ => true) = true) (hm : P.follows .mixedOrders = true) (hB : Region.lexTailB .any l.toArray n = true)
    (h : wpStill P l.toArray { w with drawn := w.drawn + 1 } (fun a' => wpList P l.toArray Q (l.drop n) a' { w with drawn := w.drawn + 1 }) (l.take n) a) : (Code.region id l.toArray true).wpIn (Fence.wide.inRound r) m P Q a w := by
  have hdef : ∀ (i : Nat) (o : Oper) (c : Call), l.toArray[i]? = some o → o.op ≠ .defer c := fun i o c ho e => by
    have hmem : o ∈ l := by
      have := Array.mem_of_getElem? ho
      simpa using this
    have := List.all_eq_true.1 hd o hmem
    rw [e] at this
    cases this
  simp only [Region.lexTailB, Bool.and_eq_true, decide_eq_true_eq] at hB
  obtain ⟨⟨⟨⟨hsel, hn⟩, hs⟩, hc⟩, hlex⟩ := hB
  have hn' : n < l.length := by simpa using hn
  have htl : (l.take n).length = n := by simp; omega
  have hdl : (l.drop n).length = l.toArray.size - n := by simp
  have inv0 : HeadInv .any l.toArray n (Array.replicate l.toArray.size false) :=
    ⟨by simp, fun j oj _ hl => (by rw [getD_replicate_false] at hl; cases hl), fun t _ ht => getD_in (by simpa using ht) (getD_replicate_false _ _)⟩
  have H := wpAnyL_lex (md := .any) (g := l.toArray.size - n) hsel hs hc hn (l.take n) 0 _ a (fun j hj => by
    have hj' : j < n := by rw [htl] at hj; exact hj
    simp [hj']) (by simpa using htl) inv0 (by rw [htl]; exact hlex) h
  have h2 := wpAny_of_head (Q' := Q) (g := l.toArray.size - n) (fun listed a' hL => by
    have h3 := wpAny_of_seq (md := .any) (Q' := Q) (l.drop n) n listed a' { w with drawn := w.drawn + 1 } (fun j => by simp [List.getElem?_drop]) (by rw [hdl]; exact hL.1) hL.2
    rwa [hdl] at h3) _ _ _ H
  rw [htl, show n + (l.toArray.size - n) = l.toArray.size by omega] at h2
  refine wpIn_region_draw fun t => wpOps_round r hQ hdef _ _ _ ?_
  simp only [Region.schedule, hm, Bool.true_or, if_true]
  exact wpAny_sound l.toArray.size t _ a _ h2
/-- A region within a round, walked as outside of it. -/
theorem region_plain {P : Program} {id m : Nat} {Q : Exit → Act → World → Prop} {a : Act} {w : World} {l : List Oper} (r : Nat) (hQ : ¬ LetsOut Q) (hd : (l.all fun o => match o.op with | .defer _ => false | _ => true) = true)
    (h : wpList P l.toArray Q l a w) : (Code.region id l.toArray false).wpIn (Fence.wide.inRound r) m P Q a w := by
  refine wpIn_region (wpOps_round r hQ (fun i o c ho e => ?_) _ _ _ ?_)
  · have := List.all_eq_true.1 hd o (by have := Array.mem_of_getElem? ho; simpa using this)
    rw [e] at this
    cases this
  · rw [List.range_eq_range', ← Array.length_toList, wpOps_eq_wpList l.toArray.toList 0 (by simp)]
    simpa using h
theorem callsR {P : Program} {f r n : Nat} {args : Array Value} {w : World} {R : Ending → World → Prop} (h : Calls P f args w R) : CallsIn (Fence.wide.inRound r) n P f args w R := (callsIn_wide (n := n)).2 h
/-! What is kept: of the writes from the end, the first of each word. -/
def kpStep (acc : List (Int × Int)) (x : Int × Int) : List (Int × Int) := if x.1 ∈ acc.map Prod.fst then acc else acc ++ [x]
def kpW (pre : List (Int × Int)) : List (Int × Int) := pre.foldl kpStep []
theorem kpW_snoc (pre : List (Int × Int)) (x : Int × Int) : kpW (pre ++ [x]) = kpStep (kpW pre) x := by simp [kpW]
theorem kpW_more (a : List (Int × Int)) : ∀ (b : List (Int × Int)), ∃ r, b.foldl kpStep a = a ++ r
  | [] => ⟨[], by simp⟩
  | x :: b => by
    obtain ⟨r, hr⟩ := kpW_more (kpStep a x) b
    rw [List.foldl_cons, hr]
    unfold kpStep
    split
    · exact ⟨r, rfl⟩
    · exact ⟨x :: r, by simp⟩
theorem kpW_prefix {a b : List (Int × Int)} (h : a <+: b) : ∃ r, kpW b = kpW a ++ r := by
  obtain ⟨c, rfl⟩ := h
  unfold kpW
  rw [List.foldl_append]
  exact kpW_more _ c
theorem kpStep_len (a : List (Int × Int)) (x : Int × Int) : (kpStep a x).length ≤ a.length + 1 := by
  unfold kpStep
  split
  · omega
  · simp
theorem kpW_len (l : List (Int × Int)) : (kpW l).length ≤ l.length := by
  have : ∀ (l a : List (Int × Int)), (l.foldl kpStep a).length ≤ a.length + l.length := by
    intro l
    induction l with
    | nil => intro a; simp
    | cons x l ih =>
      intro a
      have h1 := ih (kpStep a x)
      have h2 := kpStep_len a x
      simp only [List.foldl_cons, List.length_cons]
      omega
  simpa [kpW] using this l []
theorem kpW_mem {l : List (Int × Int)} : ∀ p ∈ kpW l, p ∈ l := by
  have : ∀ (l a : List (Int × Int)) (p : Int × Int), p ∈ l.foldl kpStep a → p ∈ a ∨ p ∈ l := by
    intro l
    induction l with
    | nil => intro a p h; exact .inl h
    | cons x l ih =>
      intro a p h
      rcases ih _ p h with h | h
      · unfold kpStep at h
        split at h
        · exact .inl h
        · rcases List.mem_append.1 h with h | h
          · exact .inl h
          · simp at h; subst h; exact .inr (by simp)
      · exact .inr (by simp [h])
  intro p h
  rcases this l [] p h with h | h
  · cases h
  · exact h
def putL (at_ : Nat) : Nat → List (Int × Int) → List St
  | _, [] => []
  | j, p :: r => .store (at_ + 8 + 2 * j) p.1 :: .store (at_ + 8 + 2 * j + 1) p.2 :: putL at_ (j + 1) r
theorem putL_append (at_ : Nat) : ∀ (j : Nat) (l r : List (Int × Int)), putL at_ j (l ++ r) = putL at_ j l ++ putL at_ (j + l.length) r
  | j, [], r => by simp [putL]
  | j, p :: l, r => by
    simp only [List.cons_append, putL, List.length_cons]
    rw [putL_append at_ (j + 1) l r, show j + 1 + l.length = j + (l.length + 1) by omega]
theorem putL_len (at_ : Nat) : ∀ (j : Nat) (l : List (Int × Int)), (putL at_ j l).length = 2 * l.length
  | _, [] => rfl
  | j, p :: l => by simp [putL, putL_len at_ (j + 1) l]; omega
def places (at_ k : Nat) : List Nat := (List.range k).map fun j => at_ + 8 + 2 * j
theorem places_succ (at_ k : Nat) : places at_ (k + 1) = places at_ k ++ [at_ + 8 + 2 * k] := by simp [places, List.range_succ]
theorem places_len (at_ k : Nat) : (places at_ k).length = k := by simp [places]
def Bd (n : Nat) (f : Nat → Int) : Prop := ∀ j, j < n → 0 ≤ f j ∧ f j < 18446744073709551616
def StOk : St → Prop
  | .store _ v => 0 ≤ v ∧ v < 18446744073709551616
  | _ => True
theorem runS_bd {n : Nat} : ∀ (L : List St) (s : DS), (∀ x ∈ L, StOk x) → Bd n s.now → Bd n (runS L s).1.now
  | [], s, _, h => h
  | x :: L, s, hL, h => by
    by_cases hf : s.fuse = 0
    · rw [runS_burn hf]
      exact h
    · rw [runS_go hf]
      refine runS_bd L _ (fun y hy => hL y (by simp [hy])) ?_
      have hx := hL x (by simp)
      cases x with
      | store i v =>
        intro j hj
        show 0 ≤ upd s.now i v j ∧ upd s.now i v j < _
        unfold upd
        split
        · exact hx
        · exact h j hj
      | flush i => exact h
      | fence => exact h
theorem putL_ok (at_ : Nat) : ∀ (j : Nat) (l : List (Int × Int)), (∀ p ∈ l, (0 ≤ p.1 ∧ p.1 < 18446744073709551616) ∧ 0 ≤ p.2 ∧ p.2 < 18446744073709551616) → ∀ x ∈ putL at_ j l, StOk x
  | _, [], _, x, h => by cases h
  | j, p :: l, hl, x, h => by
    simp only [putL, List.mem_cons] at h
    have hp := hl p (by simp)
    rcases h with rfl | rfl | h
    · exact hp.1
    · exact hp.2
    · exact putL_ok at_ (j + 1) l (fun y hy => hl y (by simp [hy])) x h
theorem setL_ok : ∀ (l : List Nat) (last : Int), ∀ x ∈ setL last l, StOk x
  | [], last, x, h => by simp [setL] at h; subst h; trivial
  | i :: r, last, x, h => by
    unfold setL at h
    split at h
    · exact setL_ok r last x h
    · rcases List.mem_cons.1 h with rfl | h
      · trivial
      · exact setL_ok r _ x h
theorem sealL_ok (at_ : Nat) {v : Int} (hv : 0 ≤ v ∧ v < 18446744073709551616) : ∀ x ∈ sealL at_ v, StOk x := by
  intro x h
  simp [sealL] at h
  rcases h with rfl | rfl | rfl
  · exact hv
  · trivial
  · trivial
/-! Blocks that are no cells. -/
theorem row_cells {w : World} {b c n : Nat} {f : Nat → Int} (h : Row w b c n f) {S : Nat → Prop} (hS : ∀ b, S b → ∃ o : Obj, w.heap[b]? = some o ∧ o.isCells = false) : ¬ S b := fun e => by
  obtain ⟨cs, hb, _⟩ := h
  obtain ⟨o, ho, hc⟩ := hS b e
  rw [show w.heap[b]? = _ from hb] at ho
  cases ho
  cases hc
theorem DevA.row {w w' : World} {A S : Nat → Prop} {G : Dv} {n : Nat} {s : DS} (h : DevA w A G n s) (hm : Mv S w w') (hS : ∀ b, S b → ∃ o : Obj, w.heap[b]? = some o ∧ o.isCells = false) (hG : ∀ b, G.own b → ¬ S b) : DevA w' A G n s := by
  have h2 : Dev w (fun b => A b ∨ S b) G n s := by
    obtain ⟨h1, h2, h3, h4, h5, h6, D, hD, hL, hL2⟩ := h.1
    refine ⟨h1, h2, h3, h4, ⟨.inl h5.1, .inl h5.2.1, .inl h5.2.2.1, .inl h5.2.2.2⟩, h6, D, hD, fun q hq => ?_, hL2⟩
    obtain ⟨k, b, e, hk, hb, hn, hat, c, f, hf, hv⟩ := hL q hq
    exact ⟨k, b, e, hk, hb, fun hx => hx.elim hn (fun hx => row_cells hf hS hx), hat, c, f, hf, hv⟩
  have h3 := h2.mv (A' := A) hm (fun b _ e => .inr e) (fun b _ e => .inl e) h.1.2.2.2.2.1 hG
  exact h.to h3 hm
theorem own_cells {w : World} {B : Nat} {e : TypeId} {v : Value} {n : Nat} {xs : List Value} (h : w.ownsRow B e 1 v n xs) {S : Nat → Prop} (hS : ∀ b, S b → ∃ o : Obj, w.heap[b]? = some o ∧ o.isCells = false) : ∀ x, v.ownBlock = some x → ¬ S x := fun x hx e => by
  rcases h.2 with ⟨rfl, _⟩ | ⟨g, cap, cur, rfl, e2, e3, _⟩
  · cases hx
  · cases hx
    obtain ⟨o, ho, hc⟩ := hS _ e
    rw [e3] at ho
    cases ho
    cases hc
theorem keepsFrom_mv {B : Nat} {S : Nat → Prop} {w w' : World} (hm : Mv S w w') (hS : ∀ b o, S b → B ≤ b → w.heap[b]? = some o → o.isCells = true) : KeepsFrom B w w' :=
  ⟨hm.size, fun k o hB hk hc => (hm.block k (Array.getElem?_eq_some_iff.1 hk).1 (fun e => by have := hS k o e hB hk; rw [this] at hc; cases hc)).trans hk⟩
/-- What Commit's rounds keep. -/
structure CI (wr W : World) (A : Nat → Prop) (G : Dv) (n at_ Mb Wb Nb : Nat) (s : DS) (pre : List (Int × Int)) (cur : DS) (A3 : Option Addr) (k c3 : Nat) (Ax : Nat → Prop) (D : DataW Unit) : Prop where
  dev : DevA W Ax G n cur
  sub : ∀ b, A b → Ax b
  ax : Ax Wb ∧ Ax Nb ∧ Ax Mb
  row : W.ownsRow wr.heap.size 3 1 (.slice A3 k c3) k (Ints .i64 (places at_ k))
  own : ∀ x, (Value.slice A3 k c3).ownBlock = some x → Ax x
  len : (kpW pre).length = k
  wb : Blk W Wb 22 #[.slice A3 k c3]
  nb : Blk W Nb 3 #[.int .i64 (k : Int)]
  map : W.ownsMap Try.prog 3 boolR Mb k D
  keep : KeepD D ((kpW pre).map Prod.fst)
  run : runS (putL at_ 0 (kpW pre)) s = (cur, true)
  mv : Mv (fun b => G.own b ∨ b = Mb ∨ b = Wb ∨ b = Nb) wr W
section
variable {wr W W' : World} {A : Nat → Prop} {G : Dv} {n at_ Mb Wb Nb : Nat} {s cur : DS} {pre : List (Int × Int)} {A3 : Option Addr} {k c3 : Nat} {Ax : Nat → Prop} {D : DataW Unit}
/-- Blocks that are no cells and lie beyond may turn. -/
theorem CI.far (h : CI wr W A G n at_ Mb Wb Nb s pre cur A3 k c3 Ax D) {S : Nat → Prop} (hm : Mv S W W') (hS : ∀ b, S b → wr.heap.size ≤ b ∧ ∃ o : Obj, W.heap[b]? = some o ∧ o.isCells = false)
    (hG : ∀ b, G.own b → b < wr.heap.size) (hM : Mb < wr.heap.size ∧ Wb < wr.heap.size ∧ Nb < wr.heap.size) : CI wr W' A G n at_ Mb Wb Nb s pre cur A3 k c3 Ax D := by
  have far : ∀ b, b < wr.heap.size → ¬ S b := fun b hb e => Nat.lt_irrefl _ (Nat.lt_of_lt_of_le hb (hS b e).1)
  refine ⟨h.dev.row hm (fun b e => (hS b e).2) (fun b e => far b (hG b e)), h.sub, h.ax, own_mvx h.row hm (own_cells h.row (fun b e => (hS b e).2)), h.own, h.len, h.wb.mv hm (far _ hM.2.1), h.nb.mv hm (far _ hM.2.2), mv_map h.map hm (far _ hM.1), h.keep, h.run, h.mv.trans' hm (fun b hb e => absurd e (far b hb))⟩
theorem CI.same (h : CI wr W A G n at_ Mb Wb Nb s pre cur A3 k c3 Ax D) {x : Int × Int} (hx : x.1 ∈ (kpW pre).map Prod.fst) : CI wr W A G n at_ Mb Wb Nb s (pre ++ [x]) cur A3 k c3 Ax D := by
  have e : kpW (pre ++ [x]) = kpW pre := by rw [kpW_snoc]; unfold kpStep; rw [if_pos hx]
  exact ⟨h.dev, h.sub, h.ax, h.row, h.own, by rw [e]; exact h.len, h.wb, h.nb, h.map, by rw [e]; exact h.keep, by rw [e]; exact h.run, h.mv⟩
/-- The fuse burns within a round: at the word, or at the value. -/
theorem CI.burn0 (h : CI wr W A G n at_ Mb Wb Nb s pre cur A3 k c3 Ax D) {x : Int × Int} {l : List (Int × Int)} (hx : x.1 ∉ (kpW pre).map Prod.fst) (hp : pre ++ [x] <+: l) (hf : cur.fuse = 0) : runS (putL at_ 0 (kpW l)) s = (cur.kill, false) := by
  obtain ⟨r, hr⟩ := kpW_prefix hp
  rw [hr, kpW_snoc]
  unfold kpStep
  rw [if_neg hx, List.append_assoc, putL_append, runS_append, h.run, if_pos rfl, List.singleton_append, putL, runS_burn hf]
theorem CI.burn1 (h : CI wr W A G n at_ Mb Wb Nb s pre cur A3 k c3 Ax D) {x : Int × Int} {l : List (Int × Int)} (hx : x.1 ∉ (kpW pre).map Prod.fst) (hp : pre ++ [x] <+: l) (hf : cur.fuse ≠ 0) (hf2 : ((St.store (at_ + 8 + 2 * k) x.1).on cur).fuse = 0) : runS (putL at_ 0 (kpW l)) s = (((St.store (at_ + 8 + 2 * k) x.1).on cur).kill, false) := by
  obtain ⟨r, hr⟩ := kpW_prefix hp
  rw [hr, kpW_snoc]
  unfold kpStep
  rw [if_neg hx, List.append_assoc, putL_append, runS_append, h.run, if_pos rfl, List.singleton_append, putL, runS_go hf, Nat.zero_add, h.len, runS_burn hf2]
/-- A round that stores. -/
theorem CI.step {w5 w6 w7 w8 w9 : World} {D' : DataW Unit} {q g cp : Nat} {v : Int} {x2 : DS} (h : CI wr W A G n at_ Mb Wb Nb s pre cur A3 k c3 Ax D) (hG : ∀ b, G.own b → b < Mb) (ho : Mb < Wb ∧ Wb < Nb ∧ Nb < wr.heap.size)
    (hx : (q : Int) ∉ (kpW pre).map Prod.fst) (hq : (Lit.int .i64 (q : Int)).wf = true) (hf : cur.fuse ≠ 0) (hf2 : ((St.store (at_ + 8 + 2 * k) (q : Int)).on cur).fuse ≠ 0) (hx2 : x2 = (St.store (at_ + 8 + 2 * k + 1) v).on ((St.store (at_ + 8 + 2 * k) (q : Int)).on cur))
    (h5 : w5.ownsMap Try.prog 3 boolR Mb (k + 1) (D.put (.int .i64 (q : Int)) (.lit (.bool true)))) (g5 : W.grownBy w5 (some Mb)) (h6 : DevA w6 Ax G n x2) (m6 : Mv G.own w5 w6)
    (h7 : w7.ownsRow wr.heap.size 3 1 (.slice (some ⟨g, 0, none⟩) (k + 1) cp) (k + 1) (Ints .i64 (places at_ k) ++ [.int .i64 ((at_ + 8 + 2 * k : Nat) : Int)])) (g7 : w6.grownBy w7 (Value.slice A3 k c3).ownBlock) (hat : (Value.slice A3 k c3).ownBlock = some g ∨ w6.heap.size ≤ g)
    (h8 : w8 = w7.setCell ⟨Wb, 0, none⟩ (.slice (some ⟨g, 0, none⟩) (k + 1) cp)) (h9 : w9 = w8.setCell ⟨Nb, 0, none⟩ (.int .i64 ((k + 1 : Nat) : Int))) :
    CI wr w9 A G n at_ Mb Wb Nb s (pre ++ [((q : Int), v)]) x2 (some ⟨g, 0, none⟩) (k + 1) cp (fun b => Ax b ∨ (w6.heap.size ≤ b ∧ b < w7.heap.size)) (D.put (.int .i64 (q : Int)) (.lit (.bool true))) := by
  have hkp : kpW (pre ++ [((q : Int), v)]) = kpW pre ++ [((q : Int), v)] := by rw [kpW_snoc]; unfold kpStep; rw [if_neg hx]
  have hax := h.ax
  have hsz : wr.heap.size ≤ W.heap.size := h.mv.size
  have m5 : Mv (fun b => b = Mb) W w5 := (Mv.refl _ W).grown g5 (fun g e _ => by cases e; rfl)
  have m7 : Mv (fun b => (Value.slice A3 k c3).ownBlock = some b) w6 w7 := (Mv.refl _ w6).grown g7 (fun g e _ => e)
  have m8 : Mv (fun b => b = Wb) w7 w8 := by rw [h8]; exact (Mv.refl (fun b => b = Wb) w7).setCell (p := ⟨Wb, 0, none⟩) (fun _ => rfl) _
  have m9 : Mv (fun b => b = Nb) w8 w9 := by rw [h9]; exact (Mv.refl (fun b => b = Nb) w8).setCell (p := ⟨Nb, 0, none⟩) (fun _ => rfl) _
  have hob : ∀ x, (Value.slice A3 k c3).ownBlock = some x → wr.heap.size ≤ x := fun x hx => (own_lt h.row hx).1
  have hgb : wr.heap.size ≤ g := (own_lt h7 rfl).1
  have d7 := h6.grown m7 (fun b e => h.own b e) (fun b e e' => by have := hG b e; have := hob b e'; omega)
  have d8 := d7.keep m8 (fun b e _ => .inl (e ▸ hax.1)) (fun b e e' => by have := hG b e; omega)
  have d9 := d8.keep m9 (fun b e _ => .inl (e ▸ hax.2.1)) (fun b e e' => by have := hG b e; omega)
  have b7 : Blk w7 Wb 22 #[.slice A3 k c3] := ((h.wb.mv m5 (by omega)).mv m6 (fun e => by have := hG _ e; omega)).mv m7 (fun e => by have := hob _ e; omega)
  have b8 : Blk w8 Wb 22 #[.slice (some ⟨g, 0, none⟩) (k + 1) cp] := by
    rw [h8]
    exact Blk.set_ b7 0 _
  have n8 : Blk w8 Nb 3 #[.int .i64 (k : Int)] := (((h.nb.mv m5 (by omega)).mv m6 (fun e => by have := hG _ e; omega)).mv m7 (fun e => by have := hob _ e; omega)).mv m8 (by omega)
  have n9 : Blk w9 Nb 3 #[.int .i64 ((k + 1 : Nat) : Int)] := by
    rw [h9]
    exact Blk.set_ n8 0 _
  refine ⟨d9, fun b e => .inl (h.sub b e), ⟨.inl hax.1, .inl hax.2.1, .inl hax.2.2⟩, ?_, ?_, ?_, b8.mv m9 (by omega), n9, ?_, ?_, ?_, ?_⟩
  · have e : Ints .i64 (places at_ (k + 1)) = Ints .i64 (places at_ k) ++ [.int .i64 ((at_ + 8 + 2 * k : Nat) : Int)] := by rw [places_succ]; simp [Ints]
    rw [e]
    exact own_mvx (own_mvx h7 m8 (fun x hx e => by have : x = g := by cases hx; rfl
                                                   omega)) m9 (fun x hx e => by have : x = g := by cases hx; rfl
                                                                                omega)
  · intro x hx
    cases hx
    rcases hat with e | e
    · exact .inl (h.own g e)
    · exact .inr ⟨e, (own_lt h7 rfl).2⟩
  · rw [hkp, List.length_append, h.len]
    rfl
  · exact mv_map (mv_map (mv_map (mv_map h5 m6 (fun e => by have := hG _ e; omega)) m7 (fun e => by have := hob _ e; omega)) m8 (by omega)) m9 (by omega)
  · rw [hkp, List.map_append]
    exact keepD_put h.keep h.map.isMap hq
  · rw [hkp, putL_append, runS_append, h.run, if_pos rfl, Nat.zero_add, h.len]
    show runS [_, _] cur = _
    rw [runS_go hf, runS_go hf2, hx2]
    rfl
  · refine ((((h.mv.trans' m5 (fun b _ e => .inr (.inl e))).trans' m6 (fun b _ e => .inl e)).trans' m7 (fun b hb e => ?_)).trans' m8 (fun b _ e => .inr (.inr (.inl e)))).trans' m9 (fun b _ e => .inr (.inr (.inr e)))
    have := hob b e
    omega
end
end Go.Proofs.Ytdphillobnlpaaa
