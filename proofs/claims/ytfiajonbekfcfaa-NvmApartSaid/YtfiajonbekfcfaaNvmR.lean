/- NvmWaits: the contract of Evict, and the closure's walk. -/
import Derived.Test.YtfiajonbekfcfaaNvmK
namespace Go.Proofs.Ytfiajonbekfcfaa
open Go.RowKit
open Go.ChangeMaps
set_option linter.unusedVariables false
def DS.evict (s : DS) (p : Nat) : DS := { s with last := fun j => if p ≤ j ∧ j < p + 8 then s.now j else s.last j }
theorem evict_bad (w : World) (A : Nat → Prop) (G : Dv) (n : Nat) (s : DS) (i : Int) (h : Dev w A G n s) (hi : i < 0 ∨ n ≤ i) :
    Calls Try.prog 27 #[.pointer (some ⟨G.d, 0, none⟩), .int .i64 i] w fun e w' => e = .returned (.int .i64 1) ∧ w = w' := by
  have c0 : w.cell? ⟨G.d, 0, none⟩ = some (.slice (some ⟨G.n, 0, none⟩) n G.cn) := (h.1.cell 0).trans rfl
  clear h
  rcases Int.lt_or_le i 0 with h1 | h1
  · go_enter Try.func27, Try.ntmps27
    go_wp2_with fail
    go_ret
    exact ⟨by simp, rfl⟩
  · have t2 : i ≥ (n : Int) := by omega
    go_enter Try.func27, Try.ntmps27
    go_wp2_with fail
    go_ret
    exact ⟨by simp, rfl⟩
set_option maxRecDepth 100000 in
set_option maxHeartbeats 4000000 in
theorem evict_ok (w : World) (A : Nat → Prop) (G : Dv) (n : Nat) (s : DS) (k : Nat) (h : DevA w A G n s) (hk : k < n) :
    Calls Try.prog 27 #[.pointer (some ⟨G.d, 0, none⟩), .int .i64 (k : Int)] w fun e w' => e = .returned (.int .i64 0) ∧ DevA w' A G n (s.evict (8 * (k / 8))) ∧ Mv G.own w w' := by
  obtain ⟨p, hp⟩ : ∃ p, p = 8 * (k / 8) := ⟨_, rfl⟩
  rw [← hp]
  have hn := h.1.2.2.2.2.2.1
  have hpn : p + 8 ≤ n := by omega
  have hk6 : k < 65536 := by omega
  have hp6 : p < 65536 := by omega
  have hcn := h.1.2.1.cap
  have hcl := h.1.2.2.1.cap
  have h' := Lib.hid h
  have hp' := Lib.hid hp
  have c0 : w.cell? ⟨G.d, 0, none⟩ = some (.slice (some ⟨G.n, 0, none⟩) n G.cn) := (h.1.1.cell 0).trans rfl
  have c1 : w.cell? ⟨G.d, 1, none⟩ = some (.slice (some ⟨G.l, 0, none⟩) n G.cl) := (h.1.1.cell 1).trans rfl
  have hs1 := fun W => slice64_lh G.l n G.cl p 8 ((p : Int) + 8) W rfl (by omega) (by omega)
  have hs2 := fun W => slice64_l G.n n G.cn p W (by omega) (by omega)
  have w1 : IntKind.i64.wrap ((p : Int) + 8) = (p : Int) + 8 := IntWalk.i64_in _ (by omega)
  have k1 : ¬ (k : Int) < 0 := by omega
  have k2 : ¬ (n : Int) ≤ (k : Int) := by omega
  obtain ⟨hcopy, hrow7, hM7⟩ := copy64 (w := w.drew) (b := G.l) (c := G.cl) (n := n) (o := p) (m := 8) (f := s.last) (g := fun j => s.now (p + j)) (a := ⟨G.n, p, none⟩) (dLen := 8) (dCap := G.cl - p) (sLen := n - p) (sCap := G.cn - p) (xs := []) (B := 0)
    (show Row w G.l G.cl n s.last from h.1.2.2.1) (by show min (n - p) 8 = 8; omega) (by omega) (fun j hj => by rw [Addr.add_lit]; exact h.1.2.1.cell (by omega))
  obtain ⟨w7, hw7⟩ : ∃ w7, w7 = w.drew.setCells G.l p (((List.range 8).map fun j => s.now (p + j)).map (Value.int .u64)) := ⟨_, rfl⟩
  rw [← hw7] at hcopy hrow7 hM7
  have Hrow7 := Lib.hid hrow7
  have HM7 := Lib.hid hM7
  clear hw7 hrow7 hM7 hn hp h hcn hcl
  go_enter Try.func27, Try.ntmps27
  go_wp2_with fail
  refine (lineP w k p hk6 hp'.out).mono ?_
  rintro e w3 ⟨rfl, rfl⟩
  go_wp2_with fail
  go_region
  go_wp2_with fail
  go_ret
  have hm : Mv (fun b => b = G.l) w w7 := (Mv.refl (fun b => b = G.l) w).drew.trans HM7.out
  refine ⟨by simp, h'.out.to (Dev.lasted h'.out.1 (last' := fun j => if p ≤ j ∧ j < p + 8 then s.now j else s.last j) (Hrow7.out.congr (fun i hi => ?_)) hm) hm, hm.mono (fun b _ e => .inr (.inr (.inl e)))⟩
  by_cases e : p ≤ i ∧ i < p + 8
  · rw [if_pos e, if_pos e, show p + (i - p) = i by omega]
  · rw [if_neg e, if_neg e]
/-- Truths in a row. -/
def bls (n : Nat) (f : Nat → Bool) : Array Value := ((List.range n).map fun i => Value.bool (f i)).toArray
theorem bls_size (n : Nat) (f : Nat → Bool) : (bls n f).size = n := by simp [bls]
theorem bls_get (n : Nat) (f : Nat → Bool) {i : Nat} (h : i < n) : (bls n f)[i]? = some (.bool (f i)) := by simp [bls, h]
theorem bls_ext {xs : Array Value} {n : Nat} {f : Nat → Bool} (h : xs.size = n) (hg : ∀ i, i < n → xs[i]? = some (.bool (f i))) : xs = bls n f := by
  apply Array.ext_getElem?
  intro i
  rcases Nat.lt_or_ge i n with h1 | h1
  · rw [hg i h1, bls_get n f h1]
  · rw [Array.getElem?_eq_none (by omega), Array.getElem?_eq_none (by rw [bls_size]; omega)]
theorem bls_set (n : Nat) (f g : Nat → Bool) (i : Nat) (v : Bool) (h : ∀ j, j < n → g j = if j = i then v else f j) : (bls n f).setIfInBounds i (.bool v) = bls n g := by
  refine bls_ext (by simp [bls_size]) (fun j hj => ?_)
  rw [Array.getElem?_setIfInBounds, h j hj]
  by_cases e : i = j
  · subst e
    simp [bls_size, hj]
  · rw [if_neg e, if_neg (fun e' => e e'.symm), bls_get n f hj]
structure Wt (w0 : World) (B M0 M : Nat) (G : Dv) (fS fD fW : Nat) (cS cD cW : Array Value) (w : World) (s : DS) : Prop where
  dev : DevA w (Iv B M) G 64 s
  pS : Blk w fS 22 cS
  iS : Iv B M0 fS
  oS : ¬ G.own fS
  pD : Blk w fD 23 cD
  iD : Iv B M0 fD
  oD : ¬ G.own fD
  pW : Blk w fW 43 cW
  iW : Iv B M0 fW
  oW : ¬ G.own fW
  ow : ∀ b, G.own b → Iv B M0 b
  le : M0 ≤ M
  mv : Mv (Iv B M0) w0 w
section
variable {w0 w w' : World} {B M0 M : Nat} {G : Dv} {fS fD fW : Nat} {cS cD cW : Array Value} {s s' : DS}
theorem Wt.to (h : Wt w0 B M0 M G fS fD fW cS cD cW w s) (hd : DevA w' (Iv B M) G 64 s') (hm : Mv G.own w w') : Wt w0 B M0 M G fS fD fW cS cD cW w' s' :=
  ⟨hd, h.pS.mv hm h.oS, h.iS, h.oS, h.pD.mv hm h.oD, h.iD, h.oD, h.pW.mv hm h.oW, h.iW, h.oW, h.ow, h.le, h.mv.trans' hm (fun b _ e => h.ow b e)⟩
theorem Wt.keep (h : Wt w0 B M0 M G fS fD fW cS cD cW w s) (hm : Mv (fun _ => False) w w') : Wt w0 B M0 M G fS fD fW cS cD cW w' s :=
  ⟨h.dev.keep hm (fun _ e _ => e.elim) (fun _ _ e => e), h.pS.mv hm (fun e => e), h.iS, h.oS, h.pD.mv hm (fun e => e), h.iD, h.oD, h.pW.mv hm (fun e => e), h.iW, h.oW, h.ow, h.le, h.mv.trans' hm (fun _ _ e => e.elim)⟩
theorem Wt.setW (h : Wt w0 B M0 M G fS fD fW cS cD cW w s) (i : Nat) (v : Value) : Wt w0 B M0 M G fS fD fW cS cD (cW.setIfInBounds i v) (w.setCell ⟨fW, i, none⟩ v) s := by
  have hm : Mv (fun b => b = fW) w (w.setCell ⟨fW, i, none⟩ v) := (Mv.refl (fun b => b = fW) w).setCell (p := ⟨fW, i, none⟩) (fun _ => rfl) _
  exact ⟨h.dev.keep hm (fun b e _ => by subst e; exact ⟨h.iW.1, Nat.lt_of_lt_of_le h.iW.2 h.le⟩) (fun b hb e => h.oW (e ▸ hb)), h.pS.mv hm (h.pS.ne_ h.pW (by decide)), h.iS, h.oS, h.pD.mv hm (h.pD.ne_ h.pW (by decide)), h.iD, h.oD, h.pW.set_ i v, h.iW, h.oW, h.ow, h.le, h.mv.trans' hm (fun b _ e => e ▸ h.iW)⟩
theorem Wt.rd {size k : Nat} {a : Option Addr} {xs : List Value} (h : Wt w0 B M0 M G fS fD fW cS cD cW w s) (hr : Reads w0 B size a k xs) (hB : B ≤ w0.heap.size) : Reads w B size a k xs :=
  hr.keep fun p hp => mv_cell h.mv (by omega) (fun e => by have := e.1; omega)
end
theorem wrap01 {N : Nat} (h : N ≤ 1) : IntKind.u64.wrap (N : Int) = (N : Int) := IntWalk.u64_in _ (by omega)
set_option maxRecDepth 100000 in
set_option maxHeartbeats 8000000 in
theorem waits1 (w0 : World) (B M0 M : Nat) (G : Dv) (fS fD fW : Nat) (a1 : Option Addr) (len1 cap1 : Nat) (z1 : List Int)
    (h : Wt w0 B M0 M G fS fD fW #[.slice a1 len1 cap1] #[.pointer (some ⟨G.d, 0, none⟩)] (bls 64 fun _ => false) w0 noughts) (hr1 : Reads w0 B 1 a1 len1 (z1.map (Value.int .i64))) (hB : B ≤ w0.heap.size) (hl1 : len1 ≤ 9223372036854775807) :
    Calls Try.prog 26 #[.pointer (some ⟨fS, 0, none⟩), .pointer (some ⟨fD, 0, none⟩), .pointer (some ⟨fW, 0, none⟩)] w0
      fun e w' => e = .returned (.tuple #[]) ∧ ∃ s wt, Wt w0 B M0 M G fS fD fW #[.slice a1 len1 cap1] #[.pointer (some ⟨G.d, 0, none⟩)] (bls 64 wt) w' s ∧ (∀ j, wt j = !(s.now j == s.last j)) := by
  have H0 := Lib.hid h
  have R1 := Lib.hid hr1
  have HB := Lib.hid hB
  clear h hr1
  go_enter Try.func26, Try.ntmps26
  go_wp2_with fail
  go_loopw [3] (fun i wr => ∃ (k : Nat) (s : DS) (wt : Nat → Bool), i = .int .i64 k ∧ k ≤ 40 ∧ Hid (Wt w0 B M0 M G fS fD fW #[.slice a1 len1 cap1] #[.pointer (some ⟨G.d, 0, none⟩)] (bls 64 wt) wr s) ∧ Hid (Free s k) ∧ Hid (∀ j, s.last j = 0) ∧ Hid (∀ j, wt j = !(s.now j == 0)))
    (fun i _ => 40 - (intOf i).toNat)
  case atStart => exact ⟨0, noughts, fun _ => false, rfl, by omega, H0, Lib.hid Free.noughts, Lib.hid (fun _ => rfl), Lib.hid (fun _ => rfl)⟩
  case round =>
    obtain ⟨k, s, wt, rfl, hk, hL, hF, hlast, hwt⟩ := hrel
    have cS : wr.cell? ⟨fS, 0, none⟩ = some (.slice a1 len1 cap1) := (hL.out.pS.cell 0).trans rfl
    have cD : wr.cell? ⟨fD, 0, none⟩ = some (.pointer (some ⟨G.d, 0, none⟩)) := (hL.out.pD.cell 0).trans rfl
    by_cases hlt : k < len1 ∧ k < 40
    · obtain ⟨hlt, h40⟩ := hlt
      obtain ⟨ad, z, rfl, hadb, -, -, hcl⟩ := int_at (hL.out.rd R1.out HB.out) hlt
      obtain ⟨N, hN, hm⟩ := mask z 63 (by decide)
      have hm' : bits .and .i64 z 63 = (N : Int) := hm
      obtain ⟨V, hV, hv⟩ := mask (z / 64) 1 (by decide)
      have hv' : bits .and .i64 (z / 64) 1 = (V : Int) := hv
      have hw0 := wrap01 hV
      have hL' := Lib.hid (hL.out.keep ((Mv.refl (fun _ => False) wr).drew))
      clear hm hv
      go_wp2_with fail
      go_region_held3 (fun w' => w'.cell? ⟨fD, 0, none⟩ = some (.pointer (some ⟨G.d, 0, none⟩)) ∧ w'.cell? ⟨fS, 0, none⟩ = some (.slice (some ad) len1 cap1) ∧ w'.cell? (ad.add k) = some (.int .i64 z)) (first | assumption | exact ⟨by assumption, by assumption, by assumption⟩ | (simp [*]; done)) (first
        | (go_simp; go_at_call 12; refine (storeA wr.drew (Iv B M) G 64 s k N (V : Int) hL'.out.dev hF.out (by omega) (by omega)).mono ?_; rintro e w3 ⟨rfl, hD3, hM3⟩; have hL3 := hL'.out.to hD3 hM3; have dD : w3.cell? ⟨fD, 0, none⟩ = some (.pointer (some ⟨G.d, 0, none⟩)) := (hL3.pD.cell 0).trans rfl; have dS : w3.cell? ⟨fS, 0, none⟩ = some (.slice (some ad) len1 cap1) := (hL3.pS.cell 0).trans rfl; have dcl : w3.cell? (ad.add k) = some (.int .i64 z) := (mv_cell (hL'.out.mv.trans' (S := Iv B M0) hM3 (fun b _ e => hL'.out.ow b e)) (p := ad.add k) (by rw [block_of_add]; exact Nat.lt_of_lt_of_le hadb HB.out) (by rw [block_of_add]; exact fun e => by have := e.1; omega)).trans ((mv_cell hL.out.mv (p := ad.add k) (by rw [block_of_add]; exact Nat.lt_of_lt_of_le hadb HB.out) (by rw [block_of_add]; exact fun e => by have := e.1; omega)).symm.trans hcl)))
      have HL3 := Lib.hid hL3
      have dW : w3.cell? ⟨fW, N, none⟩ = some (.bool (wt N)) := (hL3.pW.cell N).trans (bls_get _ _ (by omega))
      have fW0 := hL3.pW.frozen N
      have hN0 : (0 : Int) ≤ (N : Int) := by omega
      have hN1 : (N : Int) < 64 := by omega
      have hw1 : Hid (∀ j, upd wt N (!((V : Int) == 0)) j = !((s.store N (V : Int)).now j == 0)) := Lib.hid (fun j => by
        show (if j = N then (!((V : Int) == 0)) else wt j) = !((if j = N then (V : Int) else s.now j) == 0)
        by_cases e : j = N
        · rw [if_pos e, if_pos e]
        · rw [if_neg e, if_neg e, hwt.out])
      clear hL3 hD3 hM3 cS cD hcl hL'
      go_wp2_with fail
      go_roundw
      case rel =>
        refine ⟨k + 1, s.store N (V : Int), _, by go_num, by omega, Lib.hid ?_, Lib.hid (hF.out.store _ _), Lib.hid hlast.out, hw1⟩
        have h1 := HL3.out.setW N (.bool (!((V : Int) == 0)))
        rw [bls_set 64 wt (upd wt N (!((V : Int) == 0))) N _ (fun j _ => rfl)] at h1
        exact h1
      case measure => simp [intOf]; omega
    · go_wp2_with fail
      all_goals (
        go_end0
        exact ⟨rfl, s, wt, hL.out, fun j => by rw [hwt.out, hlast.out]⟩)
end Go.Proofs.Ytfiajonbekfcfaa
