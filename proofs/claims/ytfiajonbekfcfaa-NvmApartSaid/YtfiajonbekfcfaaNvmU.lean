/- NvmApart: the closure's walk. -/
import Derived.Test.YtfiajonbekfcfaaNvmT
import Derived.Test.YtfiajonbekfcfaaNvmK
import Derived.StillTailTactics
namespace Go.Proofs.Ytfiajonbekfcfaa
open Go.RowKit
set_option linter.unusedVariables false
structure Ap (w0 : World) (B M0 M : Nat) (G : Dv) (fA fD fB fK fO : Nat) (cA cD cB cK cO : Array Value) (w : World) (s : DS) : Prop where
  dev : DevA w (Iv B M) G 32 s
  pA : Blk w fA 22 cA
  iA : Iv B M0 fA
  oA : ¬ G.own fA
  pD : Blk w fD 23 cD
  iD : Iv B M0 fD
  oD : ¬ G.own fD
  pB : Blk w fB 22 cB
  iB : Iv B M0 fB
  oB : ¬ G.own fB
  pK : Blk w fK 22 cK
  iK : Iv B M0 fK
  oK : ¬ G.own fK
  pO : Blk w fO 4 cO
  iO : Iv B M0 fO
  oO : ¬ G.own fO
  dAB : fA ≠ fB
  dAK : fA ≠ fK
  dBK : fB ≠ fK
  ow : ∀ b, G.own b → Iv B M0 b
  le : M0 ≤ M
  mv : Mv (Iv B M0) w0 w
section
variable {w0 w w' : World} {B M0 M : Nat} {G : Dv} {fA fD fB fK fO : Nat} {cA cD cB cK cO : Array Value} {s s' : DS}
theorem Ap.to (h : Ap w0 B M0 M G fA fD fB fK fO cA cD cB cK cO w s) (hd : DevA w' (Iv B M) G 32 s') (hm : Mv G.own w w') : Ap w0 B M0 M G fA fD fB fK fO cA cD cB cK cO w' s' :=
  ⟨hd, h.pA.mv hm h.oA, h.iA, h.oA, h.pD.mv hm h.oD, h.iD, h.oD, h.pB.mv hm h.oB, h.iB, h.oB, h.pK.mv hm h.oK, h.iK, h.oK, h.pO.mv hm h.oO, h.iO, h.oO, h.dAB, h.dAK, h.dBK, h.ow, h.le, h.mv.trans' hm (fun b _ e => h.ow b e)⟩
theorem Ap.keep (h : Ap w0 B M0 M G fA fD fB fK fO cA cD cB cK cO w s) (hm : Mv (fun _ => False) w w') : Ap w0 B M0 M G fA fD fB fK fO cA cD cB cK cO w' s :=
  ⟨h.dev.keep hm (fun _ e _ => e.elim) (fun _ _ e => e), h.pA.mv hm (fun e => e), h.iA, h.oA, h.pD.mv hm (fun e => e), h.iD, h.oD, h.pB.mv hm (fun e => e), h.iB, h.oB, h.pK.mv hm (fun e => e), h.iK, h.oK, h.pO.mv hm (fun e => e), h.iO, h.oO, h.dAB, h.dAK, h.dBK, h.ow, h.le, h.mv.trans' hm (fun _ _ e => e.elim)⟩
theorem Ap.setO (h : Ap w0 B M0 M G fA fD fB fK fO cA cD cB cK cO w s) (i : Nat) (v : Value) : Ap w0 B M0 M G fA fD fB fK fO cA cD cB cK (cO.setIfInBounds i v) (w.setCell ⟨fO, i, none⟩ v) s := by
  have hm : Mv (fun b => b = fO) w (w.setCell ⟨fO, i, none⟩ v) := (Mv.refl (fun b => b = fO) w).setCell (p := ⟨fO, i, none⟩) (fun _ => rfl) _
  exact ⟨h.dev.keep hm (fun b e _ => by subst e; exact ⟨h.iO.1, Nat.lt_of_lt_of_le h.iO.2 h.le⟩) (fun b hb e => h.oO (e ▸ hb)), h.pA.mv hm (h.pA.ne_ h.pO (by decide)), h.iA, h.oA, h.pD.mv hm (h.pD.ne_ h.pO (by decide)), h.iD, h.oD, h.pB.mv hm (h.pB.ne_ h.pO (by decide)), h.iB, h.oB, h.pK.mv hm (h.pK.ne_ h.pO (by decide)), h.iK, h.oK, h.pO.set_ i v, h.iO, h.oO, h.dAB, h.dAK, h.dBK, h.ow, h.le, h.mv.trans' hm (fun b _ e => e ▸ h.iO)⟩
theorem Ap.rd {size k : Nat} {a : Option Addr} {xs : List Value} (h : Ap w0 B M0 M G fA fD fB fK fO cA cD cB cK cO w s) (hr : Reads w0 B size a k xs) (hB : B ≤ w0.heap.size) : Reads w B size a k xs :=
  hr.keep fun p hp => mv_cell h.mv (by omega) (fun e => by have := e.1; omega)
end
/-- Three devices: the first, its copy that goes its own way, and its twin. -/
structure Tr (w0 : World) (B M0 M : Nat) (A2 : Nat → Prop) (Gd Gc Gw : Dv) (fD fB fK fO : Nat) (cB cK : Array Value) (w : World) (s t u : DS) : Prop where
  dd : DevA w A2 Gd 32 s
  dc : DevA w A2 Gc 32 t
  dw : DevA w A2 Gw 32 u
  pD : Blk w fD 23 #[.pointer (some ⟨Gd.d, 0, none⟩)]
  iD : Iv B M0 fD
  nD : ¬ Gd.own fD
  pB : Blk w fB 22 cB
  iB : Iv B M0 fB
  nB : ¬ Gd.own fB
  pK : Blk w fK 22 cK
  iK : Iv B M0 fK
  nK : ¬ Gd.own fK
  pO : Blk w fO 4 #[.bool true]
  iO : Iv B M0 fO
  nO : ¬ Gd.own fO
  od : ∀ b, Gd.own b → Iv B M0 b
  oc : ∀ b, Gc.own b → w0.heap.size ≤ b
  ow : ∀ b, Gw.own b → w0.heap.size ≤ b
  cw : ∀ b, Gc.own b → ¬ Gw.own b
  aA : ∀ b, Iv B M b → A2 b
  le : M0 ≤ M
  sz : M ≤ w0.heap.size
  mv : Mv (Iv B M0) w0 w
section
variable {w0 w w' : World} {B M0 M : Nat} {A2 : Nat → Prop} {Gd Gc Gw : Dv} {fD fB fK fO : Nat} {cB cK : Array Value} {s t u s' : DS}
theorem Tr.toD (h : Tr w0 B M0 M A2 Gd Gc Gw fD fB fK fO cB cK w s t u) (hd : DevA w' A2 Gd 32 s') (hm : Mv Gd.own w w') : Tr w0 B M0 M A2 Gd Gc Gw fD fB fK fO cB cK w' s' t u :=
  ⟨hd, h.dc.keep hm (fun b e _ => h.aA b ⟨(h.od b e).1, Nat.lt_of_lt_of_le (h.od b e).2 h.le⟩) (fun b e1 e2 => by have := h.od b e2; have := h.oc b e1; have := this; have h2 := (h.od b e2).2; have := h.le; have := h.sz; omega), h.dw.keep hm (fun b e _ => h.aA b ⟨(h.od b e).1, Nat.lt_of_lt_of_le (h.od b e).2 h.le⟩) (fun b e1 e2 => by have := h.od b e2; have := h.ow b e1; have := this; have h2 := (h.od b e2).2; have := h.le; have := h.sz; omega), h.pD.mv hm h.nD, h.iD, h.nD, h.pB.mv hm h.nB, h.iB, h.nB, h.pK.mv hm h.nK, h.iK, h.nK, h.pO.mv hm h.nO, h.iO, h.nO, h.od, h.oc, h.ow, h.cw, h.aA, h.le, h.sz, h.mv.trans' hm (fun b _ e => h.od b e)⟩
theorem Tr.toC (h : Tr w0 B M0 M A2 Gd Gc Gw fD fB fK fO cB cK w s t u) (hd : DevA w' A2 Gc 32 s') (hm : Mv Gc.own w w') : Tr w0 B M0 M A2 Gd Gc Gw fD fB fK fO cB cK w' s s' u :=
  ⟨h.dd.keep hm (fun b e _ => h.dc.own_in b e) (fun b e1 e2 => by have := h.oc b e2; have h2 := (h.od b e1).2; have := h.le; have := h.sz; omega), hd, h.dw.keep hm (fun b e _ => h.dc.own_in b e) (fun b e1 e2 => h.cw b e2 e1), h.pD.mv hm (fun e => by have := h.oc _ e; have := h.iD.2; have := h.le; have := h.sz; omega), h.iD, h.nD, h.pB.mv hm (fun e => by have := h.oc _ e; have := h.iB.2; have := h.le; have := h.sz; omega), h.iB, h.nB, h.pK.mv hm (fun e => by have := h.oc _ e; have := h.iK.2; have := h.le; have := h.sz; omega), h.iK, h.nK, h.pO.mv hm (fun e => by have := h.oc _ e; have := h.iO.2; have := h.le; have := h.sz; omega), h.iO, h.nO, h.od, h.oc, h.ow, h.cw, h.aA, h.le, h.sz, h.mv.trans' hm (fun b hb e => by have := h.oc b e; omega)⟩
theorem Tr.toW (h : Tr w0 B M0 M A2 Gd Gc Gw fD fB fK fO cB cK w s t u) (hd : DevA w' A2 Gw 32 s') (hm : Mv Gw.own w w') : Tr w0 B M0 M A2 Gd Gc Gw fD fB fK fO cB cK w' s t s' :=
  ⟨h.dd.keep hm (fun b e _ => h.dw.own_in b e) (fun b e1 e2 => by have := h.ow b e2; have h2 := (h.od b e1).2; have := h.le; have := h.sz; omega), h.dc.keep hm (fun b e _ => h.dw.own_in b e) (fun b e1 e2 => h.cw b e1 e2), hd, h.pD.mv hm (fun e => by have := h.ow _ e; have := h.iD.2; have := h.le; have := h.sz; omega), h.iD, h.nD, h.pB.mv hm (fun e => by have := h.ow _ e; have := h.iB.2; have := h.le; have := h.sz; omega), h.iB, h.nB, h.pK.mv hm (fun e => by have := h.ow _ e; have := h.iK.2; have := h.le; have := h.sz; omega), h.iK, h.nK, h.pO.mv hm (fun e => by have := h.ow _ e; have := h.iO.2; have := h.le; have := h.sz; omega), h.iO, h.nO, h.od, h.oc, h.ow, h.cw, h.aA, h.le, h.sz, h.mv.trans' hm (fun b hb e => by have := h.ow b e; omega)⟩
theorem Tr.put (h : Tr w0 B M0 M A2 Gd Gc Gw fD fB fK fO cB cK w s t u) : Tr w0 B M0 M A2 Gd Gc Gw fD fB fK fO cB cK (w.setCell ⟨fO, 0, none⟩ (.bool true)) s t u := by
  have hm : Mv (fun b => b = fO) w (w.setCell ⟨fO, 0, none⟩ (.bool true)) := (Mv.refl (fun b => b = fO) w).setCell (p := ⟨fO, 0, none⟩) (fun _ => rfl) _
  have ha : A2 fO := h.aA fO ⟨h.iO.1, Nat.lt_of_lt_of_le h.iO.2 h.le⟩
  have hlt : fO < w0.heap.size := Nat.lt_of_lt_of_le (Nat.lt_of_lt_of_le h.iO.2 h.le) h.sz
  exact ⟨h.dd.keep hm (fun b e _ => e ▸ ha) (fun b hb e => h.nO (e ▸ hb)), h.dc.keep hm (fun b e _ => e ▸ ha) (fun b hb e => by have := h.oc b hb; omega), h.dw.keep hm (fun b e _ => e ▸ ha) (fun b hb e => by have := h.ow b hb; omega),
    h.pD.mv hm (h.pD.ne_ h.pO (by decide)), h.iD, h.nD, h.pB.mv hm (h.pB.ne_ h.pO (by decide)), h.iB, h.nB, h.pK.mv hm (h.pK.ne_ h.pO (by decide)), h.iK, h.nK, h.pO.set_ 0 _, h.iO, h.nO, h.od, h.oc, h.ow, h.cw, h.aA, h.le, h.sz, h.mv.trans' hm (fun b _ e => e ▸ h.iO)⟩
theorem Tr.rd {size k : Nat} {a : Option Addr} {xs : List Value} (h : Tr w0 B M0 M A2 Gd Gc Gw fD fB fK fO cB cK w s t u) (hr : Reads w0 B size a k xs) (hB : B ≤ w0.heap.size) : Reads w B size a k xs :=
  hr.keep fun p hp => mv_cell h.mv (by omega) (fun e => by have := e.1; omega)
end
/-- The copies stand. -/
theorem tr_start {w0 w2 w3 wr : World} {B M0 M : Nat} {G Gc Gw : Dv} {fA fD fB fK fO : Nat} {cA cB cK : Array Value} {s : DS} (h : Ap w0 B M0 M G fA fD fB fK fO cA #[.pointer (some ⟨G.d, 0, none⟩)] cB cK #[.bool true] wr s) (hsz : M ≤ w0.heap.size)
    (hc : DevA w2 (fun b => Iv B M b ∨ Gc.own b) Gc 32 s) (hcn : ∀ x, Gc.own x → wr.heap.size ≤ x) (hm2 : Mv (fun _ => False) wr w2)
    (hd : DevA w3 (fun b => (Iv B M b ∨ Gc.own b) ∨ Gw.own b) G 32 s) (hw : DevA w3 (fun b => (Iv B M b ∨ Gc.own b) ∨ Gw.own b) Gw 32 s) (hwn : ∀ x, Gw.own x → w2.heap.size ≤ x) (hm3 : Mv (fun _ => False) w2 w3) :
    Tr w0 B M0 M (fun b => (Iv B M b ∨ Gc.own b) ∨ Gw.own b) G Gc Gw fD fB fK fO cB cK w3 s s s := by
  have hm : Mv (fun _ => False) wr w3 := hm2.trans hm3
  have h1 := h.mv.size
  have h2 := hm2.size
  have hlt := hc.own_lt
  refine ⟨hd, DevA.more hc.1 hm3 (fun b hb e => by rcases e with e | e; exact e; have := hwn b e; omega) hd.2 (fun b e => .inl (.inr e)), hw, h.pD.mv hm (fun e => e), h.iD, h.oD, h.pB.mv hm (fun e => e), h.iB, h.oB, h.pK.mv hm (fun e => e), h.iK, h.oK, h.pO.mv hm (fun e => e), h.iO, h.oO,
    h.ow, fun b e => by have := hcn b e; omega, fun b e => by have := hwn b e; omega, fun b e1 e2 => by have := hwn b e2; have := hlt b e1; omega, fun b e => .inl (.inl e), h.le, hsz, h.mv.trans' hm (fun _ _ e => e.elim)⟩
set_option maxRecDepth 100000 in
set_option maxHeartbeats 16000000 in
theorem apart1 (w0 : World) (B M0 M : Nat) (G : Dv) (fA fD fB fK fO : Nat) (a1 a2 a3 : Option Addr) (len1 cap1 len2 cap2 len3 cap3 : Nat) (z1 z2 z3 : List Int)
    (h : Ap w0 B M0 M G fA fD fB fK fO #[.slice a1 len1 cap1] #[.pointer (some ⟨G.d, 0, none⟩)] #[.slice a2 len2 cap2] #[.slice a3 len3 cap3] #[.bool true] w0 noughts) (hr1 : Reads w0 B 1 a1 len1 (z1.map (Value.int .i64))) (hr2 : Reads w0 B 1 a2 len2 (z2.map (Value.int .i64))) (hr3 : Reads w0 B 1 a3 len3 (z3.map (Value.int .i64))) (hz3 : ∀ z ∈ z3, (Lit.int .i64 z).wf = true) (hB : B ≤ w0.heap.size) (hsM : M ≤ w0.heap.size) (hl1 : len1 ≤ 9223372036854775807) (hl2 : len2 ≤ 9223372036854775807) (hl3 : len3 ≤ 9223372036854775807) :
    Calls Try.prog 28 #[.pointer (some ⟨fA, 0, none⟩), .pointer (some ⟨fD, 0, none⟩), .pointer (some ⟨fB, 0, none⟩), .pointer (some ⟨fK, 0, none⟩), .pointer (some ⟨fO, 0, none⟩)] w0
      fun e w' => e = .returned (.tuple #[]) ∧ Blk w' fO 4 #[.bool true] ∧ Blk w' fD 23 #[.pointer (some ⟨G.d, 0, none⟩)] ∧ Mv (Iv B M0) w0 w' ∧ ∃ (A2 : Nat → Prop) (s : DS), (∀ b, Iv B M b → A2 b) ∧ DevA w' A2 G 32 s ∧ 1 ≤ s.steps := by
  have H0 := Lib.hid h
  have R1 := Lib.hid hr1
  have R2 := Lib.hid hr2
  have R3 := Lib.hid hr3
  have HB := Lib.hid hB
  have Hz3 := Lib.hid hz3
  clear h hr1 hr2 hr3 hz3
  go_enter Try.func28, Try.ntmps28
  go_wp2_with fail
  go_loopw [5] (fun i wr => ∃ (k c : Nat) (s : DS), i = .int .i64 k ∧ k ≤ 30 ∧ c ≤ 2 * k ∧ Hid (Ap w0 B M0 M G fA fD fB fK fO #[.slice a1 len1 cap1] #[.pointer (some ⟨G.d, 0, none⟩)] #[.slice a2 len2 cap2] #[.slice a3 len3 cap3] #[.bool true] wr s) ∧ Hid (Free s c))
    (fun i _ => 30 - (intOf i).toNat)
  case atStart => exact ⟨0, 0, noughts, rfl, by omega, by omega, H0, Lib.hid Free.noughts⟩
  case round =>
    obtain ⟨k, c, s, rfl, hk, hc, hL, hF⟩ := hrel
    have cA : wr.cell? ⟨fA, 0, none⟩ = some (.slice a1 len1 cap1) := (hL.out.pA.cell 0).trans rfl
    have cD : wr.cell? ⟨fD, 0, none⟩ = some (.pointer (some ⟨G.d, 0, none⟩)) := (hL.out.pD.cell 0).trans rfl
    by_cases hlt : k < len1 ∧ k < 30
    · obtain ⟨hlt, h30⟩ := hlt
      obtain ⟨ad, z, rfl, hadb, -, -, hcl⟩ := int_at (hL.out.rd R1.out HB.out) hlt
      obtain ⟨N, hN, hm⟩ := mask z 31 (by decide)
      have hm' : bits .and .i64 z 31 = (N : Int) := hm
      obtain ⟨Q, hQ, hq⟩ := mask z 32 (by decide)
      have hq' : bits .and .i64 z 32 = (Q : Int) := hq
      have hw0 : IntKind.i64.wrap ((k : Int) + 1) = (k : Int) + 1 := IntWalk.i64_in _ (by omega)
      have hw1 : IntKind.u64.wrap ((k : Int) + 1) = (k : Int) + 1 := IntWalk.u64_in _ (by omega)
      have hL' := Lib.hid (hL.out.keep ((Mv.refl (fun _ => False) wr).drew))
      have hk0 : (0 : Int) ≤ (k : Int) := by omega
      have hkl : (k : Int) < (len1 : Int) := by omega
      clear hm hq
      go_wp2_with fail
      go_region_held3 (fun w' => w'.cell? ⟨fD, 0, none⟩ = some (.pointer (some ⟨G.d, 0, none⟩)) ∧ w'.cell? ⟨fA, 0, none⟩ = some (.slice (some ad) len1 cap1) ∧ w'.cell? (ad.add k) = some (.int .i64 z)) (first | assumption | exact ⟨by assumption, by assumption, by assumption⟩ | (simp [*]; done)) (first
        | (go_simp; go_at_call 12; refine (storeA wr.drew (Iv B M) G 32 s c N ((k : Int) + 1) hL'.out.dev hF.out (by omega) (by omega)).mono ?_; rintro e w3 ⟨rfl, hD3, hM3⟩; have hL3 := hL'.out.to hD3 hM3; have dD : w3.cell? ⟨fD, 0, none⟩ = some (.pointer (some ⟨G.d, 0, none⟩)) := (hL3.pD.cell 0).trans rfl; have dA : w3.cell? ⟨fA, 0, none⟩ = some (.slice (some ad) len1 cap1) := (hL3.pA.cell 0).trans rfl; have dcl : w3.cell? (ad.add k) = some (.int .i64 z) := (mv_cell (hL'.out.mv.trans' (S := Iv B M0) hM3 (fun b _ e => hL'.out.ow b e)) (p := ad.add k) (by rw [block_of_add]; exact Nat.lt_of_lt_of_le hadb HB.out) (by rw [block_of_add]; exact fun e => by have := e.1; omega)).trans ((mv_cell hL.out.mv (p := ad.add k) (by rw [block_of_add]; exact Nat.lt_of_lt_of_le hadb HB.out) (by rw [block_of_add]; exact fun e => by have := e.1; omega)).symm.trans hcl)))
      have HL3 := Lib.hid hL3
      have HL3' : Hid (Ap w0 B M0 M G fA fD fB fK fO #[.slice (some ad) len1 cap1] #[.pointer (some ⟨G.d, 0, none⟩)] #[.slice a2 len2 cap2] #[.slice a3 len3 cap3] #[.bool true] w3.drew (s.store N ((k : Int) + 1))) := Lib.hid (hL3.keep ((Mv.refl (fun _ => False) w3).drew))
      have hF3 := Lib.hid (hF.out.store N ((k : Int) + 1))
      generalize s.store N ((k : Int) + 1) = s3 at HL3 HL3' hF3
      clear hL3 hD3 hM3 cA cD hcl hL' hL hF
      by_cases hq32 : Q = 32
      · subst hq32
        have Hfl := Lib.hid (flushA w3.drew (Iv B M) G 32 s3 (c + 1) N HL3'.out.dev hF3.out (by omega) (by omega))
        go_wp2_with fail
        go_still_tail 6, (by kernel_rfl)
        change wpList _ _ _ _ _ w3.drew
        generalize w3.drew = w4 at HL3' Hfl ⊢
        go_wp2_with fail
        refine Hfl.out.mono ?_
        rintro e w5 ⟨rfl, hD5, hM5⟩
        have HL5 := Lib.hid (HL3'.out.to hD5 hM5)
        have hF5 := Lib.hid (hF3.out.flush (8 * (N / 8)))
        clear hD5 hM5 Hfl HL3' HL3 dD dA dcl
        go_wp2_with fail
        go_roundw
        case rel => exact ⟨k + 1, c + 1 + 1, _, by go_num, by omega, by omega, HL5, hF5⟩
        case measure => simp [intOf]; omega
      · have t32 : ((Q : Int) == 32) = false := by simp; omega
        go_wp2_with fail
        go_roundw
        case rel => exact ⟨k + 1, c + 1, s3, by go_num, by omega, by omega, HL3, hF3⟩
        case measure => simp [intOf]; omega
    · have hcc : c ≤ 60 := by omega
      go_wp2_with fail
      all_goals (
        have hL' := Lib.hid (hL.out.keep ((Mv.refl (fun _ => False) wr).drew))
        have hst : s.steps < 1000000000 := by rw [hF.out.2.2]; omega
        have dD0 : wr.drew.cell? ⟨fD, 0, none⟩ = some (.pointer (some ⟨G.d, 0, none⟩)) := cD
        clear cA hlt hc
        go_region_held3 (fun w' => w'.cell? ⟨fD, 0, none⟩ = some (.pointer (some ⟨G.d, 0, none⟩))) (first | assumption | (simp [*]; done)) (first
          | (go_simp; go_at_call 29; (fail_if_success (have := hm2)); refine (copy_any wr.drew (Iv B M) G 32 s hL'.out.dev hst).mono ?_; rintro e w2 ⟨Gc, rfl, hd2, hc2, hn2, hm2⟩; have dD2 : w2.cell? ⟨fD, 0, none⟩ = some (.pointer (some ⟨G.d, 0, none⟩)) := ((hL'.out.pD.mv hm2 (fun e => e)).cell 0).trans rfl)
          | (go_simp; go_at_call 29; refine (copy_any w2 _ G 32 s hd2 hst).mono ?_; rintro e w3 ⟨Gw, rfl, hd3, hw3, hn3, hm3⟩; have dD3 : w3.cell? ⟨fD, 0, none⟩ = some (.pointer (some ⟨G.d, 0, none⟩)) := ((hL'.out.pD.mv (hm2.trans hm3) (fun e => e)).cell 0).trans rfl))
        have HT0 := Lib.hid (tr_start hL'.out hsM hc2 hn2 hm2 hd3 hw3 hn3 hm3)
        generalize (fun b => (Iv B M b ∨ Gc.own b) ∨ Gw.own b) = A2 at HT0
        clear hd2 hc2 hn2 hm2 hd3 hw3 hn3 hm3 dD2 dD3 hL' hL dD0 cD hst
        go_wp2_with fail
        go_loopw [8] (fun i wr => ∃ (k d : Nat) (t : DS), i = .int .i64 k ∧ k ≤ 30 ∧ d ≤ 60 + 3 * k ∧ Hid (Tr w0 B M0 M A2 G Gc Gw fD fB fK fO #[.slice a2 len2 cap2] #[.slice a3 len3 cap3] wr s t s) ∧ Hid (Free t d))
          (fun i _ => 30 - (intOf i).toNat)
        case atStart => exact ⟨0, c, s, rfl, by omega, by omega, HT0, hF⟩
        case round =>
          clear HT0
          obtain ⟨k, d, t, rfl, hk, hd, hT, hFt⟩ := hrel
          have cB : wr.cell? ⟨fB, 0, none⟩ = some (.slice a2 len2 cap2) := (hT.out.pB.cell 0).trans rfl
          by_cases hlt : k < len2 ∧ k < 30
          · obtain ⟨hlt, h30⟩ := hlt
            obtain ⟨ad, z, rfl, hadb, -, -, hcl⟩ := int_at (hT.out.rd R2.out HB.out) hlt
            obtain ⟨N, hN, hm⟩ := mask z 31 (by decide)
            have hm' : bits .and .i64 z 31 = (N : Int) := hm
            have hw0 : IntKind.i64.wrap (90 + (k : Int)) = 90 + (k : Int) := IntWalk.i64_in _ (by omega)
            have hw1 : IntKind.u64.wrap (90 + (k : Int)) = 90 + (k : Int) := IntWalk.u64_in _ (by omega)
            have hk0 : (0 : Int) ≤ (k : Int) := by omega
            have hkl : (k : Int) < (len2 : Int) := by omega
            have hc0 : Hid (w0.cell? (ad.add k) = some (.int .i64 z)) := Lib.hid ((mv_cell hT.out.mv (p := ad.add k) (by rw [block_of_add]; exact Nat.lt_of_lt_of_le hadb HB.out) (by rw [block_of_add]; exact fun e => by have := e.1; omega)).symm.trans hcl)
            clear hm
            go_wp2_with fail
            refine (storeA wr A2 Gc 32 t d N (90 + (k : Int)) hT.out.dc hFt.out (by omega) (by omega)).mono ?_
            rintro e w3 ⟨rfl, hD3, hM3⟩
            have hT3 := Lib.hid (hT.out.toC hD3 hM3)
            have hF3 := Lib.hid (hFt.out.store N (90 + (k : Int)))
            have cB3 : w3.cell? ⟨fB, 0, none⟩ = some (.slice (some ad) len2 cap2) := (hT3.out.pB.cell 0).trans rfl
            have hcl3 : w3.cell? (ad.add k) = some (.int .i64 z) := (mv_cell hT3.out.mv (p := ad.add k) (by rw [block_of_add]; exact Nat.lt_of_lt_of_le hadb HB.out) (by rw [block_of_add]; exact fun e => by have := e.1; omega)).trans hc0.out
            clear hD3 hM3 hT cB hcl
            generalize t.store N (90 + (k : Int)) = t3 at hT3 hF3
            go_wp2_with fail
            refine (flushA w3 A2 Gc 32 t3 (d + 1) N hT3.out.dc hF3.out (by omega) (by omega)).mono ?_
            rintro e w4 ⟨rfl, hD4, hM4⟩
            have hT4 := Lib.hid (hT3.out.toC hD4 hM4)
            have hF4 := Lib.hid (hF3.out.flush (8 * (N / 8)))
            clear hD4 hM4 hT3 cB3 hcl3
            generalize t3.flush (8 * (N / 8)) = t4 at hT4 hF4
            go_wp2_with fail
            refine (fenceA w4 A2 Gc 32 t4 (d + 1 + 1) hT4.out.dc hF4.out (by omega)).mono ?_
            rintro e w5 ⟨rfl, hD5, hM5⟩
            have hT5 := Lib.hid (hT4.out.toC hD5 hM5)
            have hF5 := Lib.hid hF4.out.fence
            clear hD5 hM5 hT4 hc0
            generalize t4.fence = t5 at hT5 hF5
            go_wp2_with fail
            go_roundw
            case rel => exact ⟨k + 1, d + 1 + 1 + 1, t5, by go_num, by omega, by omega, hT5, hF5⟩
            case measure => simp [intOf]; omega
          · have cD : wr.cell? ⟨fD, 0, none⟩ = some (.pointer (some ⟨G.d, 0, none⟩)) := (hT.out.pD.cell 0).trans rfl
            go_wp2_with fail
            all_goals (
              refine (fenceA wr A2 G 32 s c hT.out.dd hF.out (by omega)).mono ?_
              rintro e w2 ⟨rfl, hD2, hM2⟩
              have hT2 := Lib.hid (hT.out.toD hD2 hM2)
              clear hD2 hM2 hT cB cD hlt hFt
              go_wp2_with fail
              refine (fenceA w2 A2 Gw 32 s c hT2.out.dw hF.out (by omega)).mono ?_
              rintro e w3 ⟨rfl, hD3, hM3⟩
              have hT3 := Lib.hid (hT2.out.toW hD3 hM3)
              have hF3 := Lib.hid hF.out.fence
              have hst3 : Hid (1 ≤ s.fence.steps) := Lib.hid (by rw [hF3.out.2.2]; omega)
              clear hD3 hM3 hT2
              generalize s.fence = s3 at hT3 hF3 hst3
              have cD3 : w3.cell? ⟨fD, 0, none⟩ = some (.pointer (some ⟨G.d, 0, none⟩)) := (hT3.out.pD.cell 0).trans rfl
              have cK3 : w3.cell? ⟨fK, 0, none⟩ = some (.slice a3 len3 cap3) := (hT3.out.pK.cell 0).trans rfl
              obtain ⟨p, hp⟩ : ∃ p : Nat → Bool, p = fun j : Nat => (decide ((j : Int) ∈ z3) != false) := ⟨_, rfl⟩
              have hpp : Hid (∀ j : Nat, p j = (decide ((j : Int) ∈ z3) != false)) := Lib.hid (fun j => by rw [hp])
              clear hp
              have hsz3 : Hid (B ≤ w3.heap.size) := Lib.hid (by have := hT3.out.mv.size; have := HB.out; omega)
              go_wp2_with fail
              refine (powerA w3 A2 G 32 s3 false a3 len3 cap3 z3 hT3.out.dd ((hT3.out.rd R3.out HB.out).more hsz3.out) Hz3.out hl3 p hpp.out).mono ?_
              rintro e w4 ⟨rfl, hD4, hM4⟩
              have hT4 := Lib.hid (hT3.out.toD hD4 hM4)
              have cK4 : w4.cell? ⟨fK, 0, none⟩ = some (.slice a3 len3 cap3) := (hT4.out.pK.cell 0).trans rfl
              have hsz4 : Hid (B ≤ w4.heap.size) := Lib.hid (Nat.le_trans hsz3.out hM4.size)
              clear hD4 hM4 hT3 cD3 cK3
              go_wp2_with fail
              refine (powerA w4 A2 Gw 32 s3 false a3 len3 cap3 z3 hT4.out.dw ((hT4.out.rd R3.out HB.out).more hsz4.out) Hz3.out hl3 p hpp.out).mono ?_
              rintro e w5 ⟨rfl, hD5, hM5⟩
              have hT5 := Lib.hid (hT4.out.toW hD5 hM5)
              have hF5 := Lib.hid (hF3.out.power p)
              have hst5 : Hid (1 ≤ (s3.power p).steps) := Lib.hid hst3.out
              clear hD5 hM5 hT4 cK4 hst3
              generalize s3.power p = s5 at hT5 hF5 hst5
              generalize c + 1 = c5 at hF5
              go_wp2_with fail
              go_loopw [9] (fun i wr => ∃ k : Nat, i = .int .i64 k ∧ k ≤ 32 ∧ ∃ t, Hid (Tr w0 B M0 M A2 G Gc Gw fD fB fK fO #[.slice a2 len2 cap2] #[.slice a3 len3 cap3] wr s5 t s5))
                (fun i _ => 32 - (intOf i).toNat)
              case atStart => exact ⟨0, rfl, by omega, _, hT5⟩
              case round =>
                clear hT5
                obtain ⟨k, rfl, hk, t, hT⟩ := hrel
                have cD : wr.cell? ⟨fD, 0, none⟩ = some (.pointer (some ⟨G.d, 0, none⟩)) := (hT.out.pD.cell 0).trans rfl
                have cO : wr.cell? ⟨fO, 0, none⟩ = some (.bool true) := (hT.out.pO.cell 0).trans rfl
                have fO0 := hT.out.pO.frozen 0
                by_cases hlt : k < 32
                · have hk0 : (0 : Int) ≤ (k : Int) := by omega
                  have hk32 : (k : Int) < 32 := by omega
                  have hl1' := Lib.hid (loadA wr A2 G 32 s5 c5 k (s5.now k) hT.out.dd hF5.out hlt rfl)
                  have hl2' := Lib.hid (loadA wr A2 Gw 32 s5 c5 k (s5.now k) hT.out.dw hF5.out hlt rfl)
                  generalize s5.now k = v at hl1' hl2'
                  have hput := Lib.hid hT.out.put
                  go_wp2_with fail
                  refine hl1'.out.mono ?_
                  rintro e w6 ⟨rfl, rfl⟩
                  go_wp2_with fail
                  refine hl2'.out.mono ?_
                  rintro e w6 ⟨rfl, rfl⟩
                  go_wp2_with fail
                  go_roundw
                  case rel => exact ⟨k + 1, by go_num, by omega, t, hput⟩
                  case measure => simp [intOf]; omega
                · go_wp2_with fail
                  go_end0
                  exact ⟨rfl, hT.out.pO, hT.out.pD, hT.out.mv, A2, s5, hT.out.aA, hT.out.dd, hst5.out⟩))
end Go.Proofs.Ytfiajonbekfcfaa
