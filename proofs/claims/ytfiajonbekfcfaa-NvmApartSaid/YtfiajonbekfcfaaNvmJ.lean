/- Words for the laws' closures. -/
import Derived.Test.YtfiajonbekfcfaaNvmI
namespace Go.Proofs.Ytfiajonbekfcfaa
open Go.RowKit
set_option linter.unusedVariables false

/-- The blocks from B on, up to M: all that turn. -/
def Iv (B M b : Nat) : Prop := B ≤ b ∧ b < M
theorem DevA.own_in {w : World} {A : Nat → Prop} {G : Dv} {n : Nat} {s : DS} (h : DevA w A G n s) : ∀ b, G.own b → A b := fun b e => by
  have := h.1.2.2.2.2.1
  rcases e with rfl | rfl | rfl | rfl
  · exact this.1
  · exact this.2.1
  · exact this.2.2.1
  · exact this.2.2.2
/-- Where no line is on its way any blocks may turn. -/
theorem DevA.rebase {w : World} {A A' : Nat → Prop} {G : Dv} {n : Nat} {s : DS} (h : Dev w A G n s) (hw : ∀ j, s.way j = none) (hG : ∀ b, G.own b → A' b) (hA : ∀ b, A' b → b < w.heap.size) : DevA w A' G n s := by
  obtain ⟨h1, h2, h3, h4, h5, h6, D, hD, hL⟩ := h
  refine ⟨⟨h1, h2, h3, h4, ⟨hG _ (.inl rfl), hG _ (.inr (.inl rfl)), hG _ (.inr (.inr (.inl rfl))), hG _ (.inr (.inr (.inr rfl)))⟩, h6, D, hD, ?_, hL.2⟩, hA⟩
  intro q hq
  obtain ⟨k, b, e1, hk, hb, hn, hat, c, f, hf, hv⟩ := hL.1 q hq
  have := hv 0 (by decide)
  rw [hw] at this
  cases this
theorem isrow_rd {w : World} {a : Option Addr} {len cap : Nat} {zs : List Int} (h : IsRow .i64 w a len cap zs) : Reads w w.heap.size 1 a len ((zs.take len).map (Value.int .i64)) ∧ (zs.take len).length = len ∧ len ≤ 9223372036854775807 ∧ len ≤ cap ∧ ∀ z ∈ zs.take len, (Lit.int .i64 z).wf = true := by
  rcases h with ⟨rfl, rfl, rfl, rfl⟩ | ⟨x, rfl, h1, h2, h3, h4, h5⟩
  · exact ⟨Reads.none_, rfl, by decide, by decide, by intro n hn; simp at hn⟩
  · unfold maxLen at h2
    refine ⟨⟨by simp; omega, fun hn => ⟨x, rfl, ?_, fun j u hj => ?_⟩⟩, by simp; omega, by omega, h1, fun z hz => h5 z (List.mem_of_mem_take hz)⟩
    · have := World.block_lt_of_cell? w _ (h4 0 (by omega))
      rwa [block_of_add] at this
    · have hjl : j < len := by
        rcases Nat.lt_or_ge j len with h6 | h6
        · exact h6
        · rw [List.getElem?_eq_none (by simp; omega)] at hj; cases hj
      rw [List.getElem?_map, List.getElem?_take_of_lt hjl, List.getElem?_eq_getElem (by omega), Option.map_some, Option.some.injEq] at hj
      subst hj
      have := h4 j (by omega)
      rw [this]
      simp [show j < zs.length by omega]
theorem ofInt_i64 (m : Nat) (hm : m < 9223372036854775808) : (BitVec.ofInt 64 (m : Int)).toNat = m := by
  rw [BitVec.toNat_ofInt]
  omega
theorem mask (n : Int) (m : Nat) (hm : m < 9223372036854775808) : ∃ N : Nat, N ≤ m ∧ bits .and .i64 n (m : Int) = (N : Int) := by
  refine ⟨(BitVec.ofInt 64 n).toNat &&& m, Nat.and_le_right, ?_⟩
  have hx : (BitVec.ofInt 64 n).toNat &&& m ≤ m := Nat.and_le_right
  show IntKind.i64.wrap ((BitVec.ofInt 64 n &&& BitVec.ofInt 64 (m : Int)).toNat : Int) = _
  rw [BitVec.toNat_and, ofInt_i64 m hm, IntWalk.i64_in _ (by omega)]
structure Ln (w0 : World) (B M : Nat) (G : Dv) (fB fD fN fA fS fH fO : Nat) (cB cD cN cA cS cH cO : Array Value) (w : World) (s : DS) : Prop where
  dev : DevA w (Iv B M) G 64 s
  pB : Blk w fB 22 cB
  iB : Iv B M fB
  oB : ¬ G.own fB
  pD : Blk w fD 23 cD
  iD : Iv B M fD
  oD : ¬ G.own fD
  pN : Blk w fN 28 cN
  iN : Iv B M fN
  oN : ¬ G.own fN
  pA : Blk w fA 3 cA
  iA : Iv B M fA
  oA : ¬ G.own fA
  pS : Blk w fS 28 cS
  iS : Iv B M fS
  oS : ¬ G.own fS
  pH : Blk w fH 22 cH
  iH : Iv B M fH
  oH : ¬ G.own fH
  pO : Blk w fO 4 cO
  iO : Iv B M fO
  oO : ¬ G.own fO
  dBH : fB ≠ fH
  dNS : fN ≠ fS
  mv : Mv (Iv B M) w0 w
section
variable {w0 w w' : World} {B M : Nat} {G : Dv} {fB fD fN fA fS fH fO : Nat} {cB cD cN cA cS cH cO : Array Value} {s s' : DS}
theorem Ln.to (h : Ln w0 B M G fB fD fN fA fS fH fO cB cD cN cA cS cH cO w s) (hd : DevA w' (Iv B M) G 64 s') (hm : Mv G.own w w') : Ln w0 B M G fB fD fN fA fS fH fO cB cD cN cA cS cH cO w' s' :=
  ⟨hd, h.pB.mv hm h.oB, h.iB, h.oB, h.pD.mv hm h.oD, h.iD, h.oD, h.pN.mv hm h.oN, h.iN, h.oN, h.pA.mv hm h.oA, h.iA, h.oA, h.pS.mv hm h.oS, h.iS, h.oS, h.pH.mv hm h.oH, h.iH, h.oH, h.pO.mv hm h.oO, h.iO, h.oO, h.dBH, h.dNS, h.mv.trans' hm (fun b _ e => h.dev.own_in b e)⟩
theorem Ln.keep (h : Ln w0 B M G fB fD fN fA fS fH fO cB cD cN cA cS cH cO w s) (hm : Mv (fun _ => False) w w') : Ln w0 B M G fB fD fN fA fS fH fO cB cD cN cA cS cH cO w' s :=
  ⟨h.dev.keep hm (fun _ e _ => e.elim) (fun _ _ e => e), h.pB.mv hm (fun e => e), h.iB, h.oB, h.pD.mv hm (fun e => e), h.iD, h.oD, h.pN.mv hm (fun e => e), h.iN, h.oN, h.pA.mv hm (fun e => e), h.iA, h.oA, h.pS.mv hm (fun e => e), h.iS, h.oS, h.pH.mv hm (fun e => e), h.iH, h.oH, h.pO.mv hm (fun e => e), h.iO, h.oO, h.dBH, h.dNS, h.mv.trans' hm (fun _ _ e => e.elim)⟩
theorem Ln.setN (h : Ln w0 B M G fB fD fN fA fS fH fO cB cD cN cA cS cH cO w s) (i : Nat) (v : Value) : Ln w0 B M G fB fD fN fA fS fH fO cB cD (cN.setIfInBounds i v) cA cS cH cO (w.setCell ⟨fN, i, none⟩ v) s := by
  have hm : Mv (fun b => b = fN) w (w.setCell ⟨fN, i, none⟩ v) := (Mv.refl (fun b => b = fN) w).setCell (p := ⟨fN, i, none⟩) (fun _ => rfl) _
  exact ⟨h.dev.keep hm (fun b e _ => e ▸ h.iN) (fun b hb e => h.oN (e ▸ hb)), h.pB.mv hm (h.pB.ne_ h.pN (by decide)), h.iB, h.oB, h.pD.mv hm (h.pD.ne_ h.pN (by decide)), h.iD, h.oD, h.pN.set_ i v, h.iN, h.oN, h.pA.mv hm (h.pA.ne_ h.pN (by decide)), h.iA, h.oA, h.pS.mv hm (fun e => h.dNS e.symm), h.iS, h.oS, h.pH.mv hm (h.pH.ne_ h.pN (by decide)), h.iH, h.oH, h.pO.mv hm (h.pO.ne_ h.pN (by decide)), h.iO, h.oO, h.dBH, h.dNS, h.mv.trans' hm (fun b _ e => e ▸ h.iN)⟩
theorem Ln.setS (h : Ln w0 B M G fB fD fN fA fS fH fO cB cD cN cA cS cH cO w s) (i : Nat) (v : Value) : Ln w0 B M G fB fD fN fA fS fH fO cB cD cN cA (cS.setIfInBounds i v) cH cO (w.setCell ⟨fS, i, none⟩ v) s := by
  have hm : Mv (fun b => b = fS) w (w.setCell ⟨fS, i, none⟩ v) := (Mv.refl (fun b => b = fS) w).setCell (p := ⟨fS, i, none⟩) (fun _ => rfl) _
  exact ⟨h.dev.keep hm (fun b e _ => e ▸ h.iS) (fun b hb e => h.oS (e ▸ hb)), h.pB.mv hm (h.pB.ne_ h.pS (by decide)), h.iB, h.oB, h.pD.mv hm (h.pD.ne_ h.pS (by decide)), h.iD, h.oD, h.pN.mv hm h.dNS, h.iN, h.oN, h.pA.mv hm (h.pA.ne_ h.pS (by decide)), h.iA, h.oA, h.pS.set_ i v, h.iS, h.oS, h.pH.mv hm (h.pH.ne_ h.pS (by decide)), h.iH, h.oH, h.pO.mv hm (h.pO.ne_ h.pS (by decide)), h.iO, h.oO, h.dBH, h.dNS, h.mv.trans' hm (fun b _ e => e ▸ h.iS)⟩
theorem Ln.setO (h : Ln w0 B M G fB fD fN fA fS fH fO cB cD cN cA cS cH cO w s) (i : Nat) (v : Value) : Ln w0 B M G fB fD fN fA fS fH fO cB cD cN cA cS cH (cO.setIfInBounds i v) (w.setCell ⟨fO, i, none⟩ v) s := by
  have hm : Mv (fun b => b = fO) w (w.setCell ⟨fO, i, none⟩ v) := (Mv.refl (fun b => b = fO) w).setCell (p := ⟨fO, i, none⟩) (fun _ => rfl) _
  exact ⟨h.dev.keep hm (fun b e _ => e ▸ h.iO) (fun b hb e => h.oO (e ▸ hb)), h.pB.mv hm (h.pB.ne_ h.pO (by decide)), h.iB, h.oB, h.pD.mv hm (h.pD.ne_ h.pO (by decide)), h.iD, h.oD, h.pN.mv hm (h.pN.ne_ h.pO (by decide)), h.iN, h.oN, h.pA.mv hm (h.pA.ne_ h.pO (by decide)), h.iA, h.oA, h.pS.mv hm (h.pS.ne_ h.pO (by decide)), h.iS, h.oS, h.pH.mv hm (h.pH.ne_ h.pO (by decide)), h.iH, h.oH, h.pO.set_ i v, h.iO, h.oO, h.dBH, h.dNS, h.mv.trans' hm (fun b _ e => e ▸ h.iO)⟩
theorem Ln.rd {size k : Nat} {a : Option Addr} {xs : List Value} (h : Ln w0 B M G fB fD fN fA fS fH fO cB cD cN cA cS cH cO w s) (hr : Reads w0 B size a k xs) (hB : B ≤ w0.heap.size) : Reads w B size a k xs :=
  hr.keep fun p hp => mv_cell h.mv (by omega) (fun e => by have := e.1; omega)
end
end Go.Proofs.Ytfiajonbekfcfaa
