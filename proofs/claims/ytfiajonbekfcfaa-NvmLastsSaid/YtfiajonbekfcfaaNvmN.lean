/- NvmLasts: the closure's walk. -/
import Derived.Test.YtfiajonbekfcfaaNvmK
import Derived.Deep.MidRow
namespace Go.Proofs.Ytfiajonbekfcfaa
open Go.RowKit
set_option linter.unusedVariables false

structure La (w0 : World) (B M0 M : Nat) (G : Dv) (fA fD fP fN fB fF fL fO : Nat) (cA cD cP cN cB cF cL cO : Array Value) (w : World) (s : DS) : Prop where
  dev : DevA w (Iv B M) G 32 s
  pA : Blk w fA 22 cA
  iA : Iv B M0 fA
  oA : ¬ G.own fA
  pD : Blk w fD 23 cD
  iD : Iv B M0 fD
  oD : ¬ G.own fD
  pP : Blk w fP 36 cP
  iP : Iv B M0 fP
  oP : ¬ G.own fP
  pN : Blk w fN 36 cN
  iN : Iv B M0 fN
  oN : ¬ G.own fN
  pB : Blk w fB 22 cB
  iB : Iv B M0 fB
  oB : ¬ G.own fB
  pF : Blk w fF 4 cF
  iF : Iv B M0 fF
  oF : ¬ G.own fF
  pL : Blk w fL 22 cL
  iL : Iv B M0 fL
  oL : ¬ G.own fL
  pO : Blk w fO 4 cO
  iO : Iv B M0 fO
  oO : ¬ G.own fO
  dAB : fA ≠ fB
  dAL : fA ≠ fL
  dPN : fP ≠ fN
  dBL : fB ≠ fL
  dFO : fF ≠ fO
  ow : ∀ b, G.own b → Iv B M0 b
  le : M0 ≤ M
  mv : Mv (Iv B M0) w0 w
section
variable {w0 w w' : World} {B M0 M : Nat} {G : Dv} {fA fD fP fN fB fF fL fO : Nat} {cA cD cP cN cB cF cL cO : Array Value} {s s' : DS}
theorem La.to (h : La w0 B M0 M G fA fD fP fN fB fF fL fO cA cD cP cN cB cF cL cO w s) (hd : DevA w' (Iv B M) G 32 s') (hm : Mv G.own w w') : La w0 B M0 M G fA fD fP fN fB fF fL fO cA cD cP cN cB cF cL cO w' s' :=
  ⟨hd, h.pA.mv hm h.oA, h.iA, h.oA, h.pD.mv hm h.oD, h.iD, h.oD, h.pP.mv hm h.oP, h.iP, h.oP, h.pN.mv hm h.oN, h.iN, h.oN, h.pB.mv hm h.oB, h.iB, h.oB, h.pF.mv hm h.oF, h.iF, h.oF, h.pL.mv hm h.oL, h.iL, h.oL, h.pO.mv hm h.oO, h.iO, h.oO, h.dAB, h.dAL, h.dPN, h.dBL, h.dFO, h.ow, h.le, h.mv.trans' hm (fun b _ e => h.ow b e)⟩
theorem La.keep (h : La w0 B M0 M G fA fD fP fN fB fF fL fO cA cD cP cN cB cF cL cO w s) (hm : Mv (fun _ => False) w w') : La w0 B M0 M G fA fD fP fN fB fF fL fO cA cD cP cN cB cF cL cO w' s :=
  ⟨h.dev.keep hm (fun _ e _ => e.elim) (fun _ _ e => e), h.pA.mv hm (fun e => e), h.iA, h.oA, h.pD.mv hm (fun e => e), h.iD, h.oD, h.pP.mv hm (fun e => e), h.iP, h.oP, h.pN.mv hm (fun e => e), h.iN, h.oN, h.pB.mv hm (fun e => e), h.iB, h.oB, h.pF.mv hm (fun e => e), h.iF, h.oF, h.pL.mv hm (fun e => e), h.iL, h.oL, h.pO.mv hm (fun e => e), h.iO, h.oO, h.dAB, h.dAL, h.dPN, h.dBL, h.dFO, h.ow, h.le, h.mv.trans' hm (fun _ _ e => e.elim)⟩
theorem La.setP (h : La w0 B M0 M G fA fD fP fN fB fF fL fO cA cD cP cN cB cF cL cO w s) (i : Nat) (v : Value) : La w0 B M0 M G fA fD fP fN fB fF fL fO cA cD (cP.setIfInBounds i v) cN cB cF cL cO (w.setCell ⟨fP, i, none⟩ v) s := by
  have hm : Mv (fun b => b = fP) w (w.setCell ⟨fP, i, none⟩ v) := (Mv.refl (fun b => b = fP) w).setCell (p := ⟨fP, i, none⟩) (fun _ => rfl) _
  exact ⟨h.dev.keep hm (fun b e _ => by subst e; exact ⟨h.iP.1, Nat.lt_of_lt_of_le h.iP.2 h.le⟩) (fun b hb e => h.oP (e ▸ hb)), h.pA.mv hm (h.pA.ne_ h.pP (by decide)), h.iA, h.oA, h.pD.mv hm (h.pD.ne_ h.pP (by decide)), h.iD, h.oD, h.pP.set_ i v, h.iP, h.oP, h.pN.mv hm (fun e => h.dPN e.symm), h.iN, h.oN, h.pB.mv hm (h.pB.ne_ h.pP (by decide)), h.iB, h.oB, h.pF.mv hm (h.pF.ne_ h.pP (by decide)), h.iF, h.oF, h.pL.mv hm (h.pL.ne_ h.pP (by decide)), h.iL, h.oL, h.pO.mv hm (h.pO.ne_ h.pP (by decide)), h.iO, h.oO, h.dAB, h.dAL, h.dPN, h.dBL, h.dFO, h.ow, h.le, h.mv.trans' hm (fun b _ e => e ▸ h.iP)⟩
theorem La.setN (h : La w0 B M0 M G fA fD fP fN fB fF fL fO cA cD cP cN cB cF cL cO w s) (i : Nat) (v : Value) : La w0 B M0 M G fA fD fP fN fB fF fL fO cA cD cP (cN.setIfInBounds i v) cB cF cL cO (w.setCell ⟨fN, i, none⟩ v) s := by
  have hm : Mv (fun b => b = fN) w (w.setCell ⟨fN, i, none⟩ v) := (Mv.refl (fun b => b = fN) w).setCell (p := ⟨fN, i, none⟩) (fun _ => rfl) _
  exact ⟨h.dev.keep hm (fun b e _ => by subst e; exact ⟨h.iN.1, Nat.lt_of_lt_of_le h.iN.2 h.le⟩) (fun b hb e => h.oN (e ▸ hb)), h.pA.mv hm (h.pA.ne_ h.pN (by decide)), h.iA, h.oA, h.pD.mv hm (h.pD.ne_ h.pN (by decide)), h.iD, h.oD, h.pP.mv hm h.dPN, h.iP, h.oP, h.pN.set_ i v, h.iN, h.oN, h.pB.mv hm (h.pB.ne_ h.pN (by decide)), h.iB, h.oB, h.pF.mv hm (h.pF.ne_ h.pN (by decide)), h.iF, h.oF, h.pL.mv hm (h.pL.ne_ h.pN (by decide)), h.iL, h.oL, h.pO.mv hm (h.pO.ne_ h.pN (by decide)), h.iO, h.oO, h.dAB, h.dAL, h.dPN, h.dBL, h.dFO, h.ow, h.le, h.mv.trans' hm (fun b _ e => e ▸ h.iN)⟩
theorem La.setO (h : La w0 B M0 M G fA fD fP fN fB fF fL fO cA cD cP cN cB cF cL cO w s) (i : Nat) (v : Value) : La w0 B M0 M G fA fD fP fN fB fF fL fO cA cD cP cN cB cF cL (cO.setIfInBounds i v) (w.setCell ⟨fO, i, none⟩ v) s := by
  have hm : Mv (fun b => b = fO) w (w.setCell ⟨fO, i, none⟩ v) := (Mv.refl (fun b => b = fO) w).setCell (p := ⟨fO, i, none⟩) (fun _ => rfl) _
  exact ⟨h.dev.keep hm (fun b e _ => by subst e; exact ⟨h.iO.1, Nat.lt_of_lt_of_le h.iO.2 h.le⟩) (fun b hb e => h.oO (e ▸ hb)), h.pA.mv hm (h.pA.ne_ h.pO (by decide)), h.iA, h.oA, h.pD.mv hm (h.pD.ne_ h.pO (by decide)), h.iD, h.oD, h.pP.mv hm (h.pP.ne_ h.pO (by decide)), h.iP, h.oP, h.pN.mv hm (h.pN.ne_ h.pO (by decide)), h.iN, h.oN, h.pB.mv hm (h.pB.ne_ h.pO (by decide)), h.iB, h.oB, h.pF.mv hm h.dFO, h.iF, h.oF, h.pL.mv hm (h.pL.ne_ h.pO (by decide)), h.iL, h.oL, h.pO.set_ i v, h.iO, h.oO, h.dAB, h.dAL, h.dPN, h.dBL, h.dFO, h.ow, h.le, h.mv.trans' hm (fun b _ e => e ▸ h.iO)⟩
theorem La.rd {size k : Nat} {a : Option Addr} {xs : List Value} (h : La w0 B M0 M G fA fD fP fN fB fF fL fO cA cD cP cN cB cF cL cO w s) (hr : Reads w0 B size a k xs) (hB : B ≤ w0.heap.size) : Reads w B size a k xs :=
  hr.keep fun p hp => mv_cell h.mv (by omega) (fun e => by have := e.1; omega)
end
def putAll (cs : Array Value) : Nat → List Value → Array Value
  | _, [] => cs
  | o, v :: r => putAll (cs.setIfInBounds o v) (o + 1) r
theorem putAll_get : ∀ (vs : List Value) (cs : Array Value) (o i : Nat), o + vs.length ≤ cs.size → (putAll cs o vs)[i]? = if o ≤ i ∧ i < o + vs.length then vs[i - o]? else cs[i]?
  | [], cs, o, i, _ => by rw [if_neg (by simp only [List.length_nil]; omega)]; rfl
  | v :: r, cs, o, i, h => by
    simp only [List.length_cons] at h ⊢
    rw [putAll, putAll_get r _ _ _ (by simp; omega)]
    by_cases e : o + 1 ≤ i ∧ i < o + 1 + r.length
    · rw [if_pos e, if_pos (by omega), show i - o = (i - (o + 1)) + 1 by omega]
      rfl
    · rw [if_neg e, Array.getElem?_setIfInBounds]
      by_cases e2 : o = i
      · subst e2
        rw [if_pos rfl, if_pos (by omega), if_pos (by omega), Nat.sub_self]
        rfl
      · rw [if_neg e2, if_neg (by omega)]
theorem putAll_all (vs : List Value) (cs : Array Value) (h : vs.length = cs.size) : putAll cs 0 vs = vs.toArray := by
  apply Array.ext_getElem?
  intro i
  rw [putAll_get _ _ _ _ (by omega)]
  by_cases e : 0 ≤ i ∧ i < 0 + vs.length
  · rw [if_pos e]; simp
  · rw [if_neg e, Array.getElem?_eq_none (by omega), Array.getElem?_eq_none (by simp; omega)]
theorem La.setNs {w0 : World} {B M0 M : Nat} {G : Dv} {fA fD fP fN fB fF fL fO : Nat} {cA cD cP cB cF cL cO : Array Value} {s : DS} : ∀ (vs : List Value) (o : Nat) (cN : Array Value) (w : World), La w0 B M0 M G fA fD fP fN fB fF fL fO cA cD cP cN cB cF cL cO w s → La w0 B M0 M G fA fD fP fN fB fF fL fO cA cD cP (putAll cN o vs) cB cF cL cO (w.setCells fN o vs) s
  | [], _, _, _, h => h
  | v :: r, o, cN, w, h => La.setNs r (o + 1) _ _ (h.setN o v)
set_option maxRecDepth 100000 in
set_option maxHeartbeats 16000000 in
theorem lasts1 (w0 : World) (B M0 M : Nat) (G : Dv) (fA fD fP fN fB fF fL fO : Nat) (a1 a2 a3 : Option Addr) (len1 cap1 len2 cap2 len3 cap3 : Nat) (z1 z2 z3 : List Int) (flip : Bool)
    (h : La w0 B M0 M G fA fD fP fN fB fF fL fO #[.slice a1 len1 cap1] #[.pointer (some ⟨G.d, 0, none⟩)] (words .u64 32 fun _ => 0) (words .u64 32 fun _ => 0) #[.slice a2 len2 cap2] #[.bool flip] #[.slice a3 len3 cap3] #[.bool true] w0 noughts)
    (hr1 : Reads w0 B 1 a1 len1 (z1.map (Value.int .i64))) (hr2 : Reads w0 B 1 a2 len2 (z2.map (Value.int .i64))) (hr3 : Reads w0 B 1 a3 len3 (z3.map (Value.int .i64))) (hz3 : ∀ z ∈ z3, (Lit.int .i64 z).wf = true) (hB : B ≤ w0.heap.size) (hl1 : len1 ≤ 9223372036854775807) (hl2 : len2 ≤ 9223372036854775807) (hl3 : len3 ≤ 9223372036854775807) :
    Calls Try.prog 18 #[.pointer (some ⟨fA, 0, none⟩), .pointer (some ⟨fD, 0, none⟩), .pointer (some ⟨fP, 0, none⟩), .pointer (some ⟨fN, 0, none⟩), .pointer (some ⟨fB, 0, none⟩), .pointer (some ⟨fF, 0, none⟩), .pointer (some ⟨fL, 0, none⟩), .pointer (some ⟨fO, 0, none⟩)] w0
      fun e w' => e = .returned (.tuple #[]) ∧ Blk w' fO 4 #[.bool true] ∧ Blk w' fD 23 #[.pointer (some ⟨G.d, 0, none⟩)] ∧ Mv (Iv B M0) w0 w' ∧ ∃ s, DevA w' (Iv B M) G 32 s ∧ s.now = s.last := by
  have H0 := Lib.hid h
  have R1 := Lib.hid hr1
  have R2 := Lib.hid hr2
  have R3 := Lib.hid hr3
  have HB := Lib.hid hB
  have Hz3 := Lib.hid hz3
  clear h hr1 hr2 hr3 hz3
  go_enter Try.func18, Try.ntmps18
  go_wp2_with fail
  go_loopw [8] (fun i wr => ∃ (k : Nat) (s : DS), i = .int .i64 k ∧ k ≤ 40 ∧ Hid (La w0 B M0 M G fA fD fP fN fB fF fL fO #[.slice a1 len1 cap1] #[.pointer (some ⟨G.d, 0, none⟩)] (words .u64 32 s.now) (words .u64 32 fun _ => 0) #[.slice a2 len2 cap2] #[.bool flip] #[.slice a3 len3 cap3] #[.bool true] wr s) ∧ Hid (Free s k) ∧ Hid (∀ j, s.last j = 0) ∧ Hid (∀ j, s.way j = none))
    (fun i _ => 40 - (intOf i).toNat)
  case atStart => exact ⟨0, noughts, rfl, by omega, H0, Lib.hid Free.noughts, Lib.hid (fun _ => rfl), Lib.hid (fun _ => rfl)⟩
  case round =>
    obtain ⟨k, s, rfl, hk, hL, hF, hlast, hway⟩ := hrel
    have cA : wr.cell? ⟨fA, 0, none⟩ = some (.slice a1 len1 cap1) := (hL.out.pA.cell 0).trans rfl
    have cD : wr.cell? ⟨fD, 0, none⟩ = some (.pointer (some ⟨G.d, 0, none⟩)) := (hL.out.pD.cell 0).trans rfl
    by_cases hlt : k < len1 ∧ k < 40
    · obtain ⟨hlt, h40⟩ := hlt
      obtain ⟨ad, z, rfl, hadb, -, -, hcl⟩ := int_at (hL.out.rd R1.out HB.out) hlt
      obtain ⟨N, hN, hm⟩ := mask z 31 (by decide)
      have hm' : bits .and .i64 z 31 = (N : Int) := hm
      have hw0 : IntKind.i64.wrap ((k : Int) + 1) = (k : Int) + 1 := IntWalk.i64_in _ (by omega)
      have hw1 : IntKind.u64.wrap ((k : Int) + 1) = (k : Int) + 1 := IntWalk.u64_in _ (by omega)
      have hL' := Lib.hid (hL.out.keep ((Mv.refl (fun _ => False) wr).drew))
      clear hm
      go_wp2_with fail
      go_region_held3 (fun w' => w'.cell? ⟨fD, 0, none⟩ = some (.pointer (some ⟨G.d, 0, none⟩)) ∧ w'.cell? ⟨fA, 0, none⟩ = some (.slice (some ad) len1 cap1) ∧ w'.cell? (ad.add k) = some (.int .i64 z)) (first | assumption | exact ⟨by assumption, by assumption, by assumption⟩ | (simp [*]; done)) (first
        | (go_simp; go_at_call 12; refine (storeA wr.drew (Iv B M) G 32 s k N ((k : Int) + 1) hL'.out.dev hF.out (by omega) (by omega)).mono ?_; rintro e w3 ⟨rfl, hD3, hM3⟩; have hL3 := hL'.out.to hD3 hM3; have dD : w3.cell? ⟨fD, 0, none⟩ = some (.pointer (some ⟨G.d, 0, none⟩)) := (hL3.pD.cell 0).trans rfl; have dA : w3.cell? ⟨fA, 0, none⟩ = some (.slice (some ad) len1 cap1) := (hL3.pA.cell 0).trans rfl; have dcl : w3.cell? (ad.add k) = some (.int .i64 z) := (mv_cell (hL'.out.mv.trans' (S := Iv B M0) hM3 (fun b _ e => hL'.out.ow b e)) (p := ad.add k) (by rw [block_of_add]; exact Nat.lt_of_lt_of_le hadb HB.out) (by rw [block_of_add]; exact fun e => by have := e.1; omega)).trans ((mv_cell hL.out.mv (p := ad.add k) (by rw [block_of_add]; exact Nat.lt_of_lt_of_le hadb HB.out) (by rw [block_of_add]; exact fun e => by have := e.1; omega)).symm.trans hcl)))
      have HL3 := Lib.hid hL3
      have dN : w3.cell? ⟨fP, N, none⟩ = some (.int .u64 (s.now N)) := (hL3.pP.cell N).trans (words_get _ _ _ (by omega))
      have fN0 := hL3.pP.frozen N
      have hN0 : (0 : Int) ≤ (N : Int) := by omega
      have hN1 : (N : Int) < 32 := by omega
      clear hL3 hD3 hM3 cA cD hcl hL'
      go_wp2_with fail
      go_roundw
      case rel =>
        refine ⟨k + 1, s.store N ((k : Int) + 1), by go_num, by omega, Lib.hid ?_, Lib.hid (hF.out.store _ _), Lib.hid hlast.out, Lib.hid hway.out⟩
        have h1 := HL3.out.setP N (.int .u64 ((k : Int) + 1))
        rw [words_set] at h1
        exact h1
      case measure => simp [intOf]; omega
    · go_wp2_with fail
      all_goals (
        obtain ⟨nw, hnw⟩ : ∃ nw, nw = s.now := ⟨_, rfl⟩
        rw [← hnw] at hL
        have Hnw := Lib.hid hnw
        have Hck : Hid (k ≤ 40) := Lib.hid hk
        clear hnw hlt cA cD hk
        go_loopw [9] (fun i wr => ∃ (k c : Nat) (s : DS), i = .int .i64 k ∧ k ≤ 32 ∧ k % 8 = 0 ∧ c ≤ 40 + k ∧ Hid (La w0 B M0 M G fA fD fP fN fB fF fL fO #[.slice a1 len1 cap1] #[.pointer (some ⟨G.d, 0, none⟩)] (words .u64 32 nw) (words .u64 32 fun _ => 0) #[.slice a2 len2 cap2] #[.bool flip] #[.slice a3 len3 cap3] #[.bool true] wr s) ∧ Hid (Free s c) ∧ Hid (∀ j, s.last j = 0) ∧ Hid (∀ j, s.way j = if j < k then some (nw j) else none) ∧ Hid (s.now = nw))
          (fun i _ => 32 - (intOf i).toNat)
        case atStart => exact ⟨0, k, s, rfl, by omega, rfl, by have := Hck.out; omega, hL, hF, hlast, Lib.hid (fun j => by rw [hway.out, if_neg (by omega)]), Lib.hid Hnw.out.symm⟩
        case round =>
          clear hL hF hlast hway Hnw Hck
          obtain ⟨k, c, s, rfl, hk, hk8, hc, hL, hF, hlast, hway, hnow⟩ := hrel
          have cD : wr.cell? ⟨fD, 0, none⟩ = some (.pointer (some ⟨G.d, 0, none⟩)) := (hL.out.pD.cell 0).trans rfl
          by_cases hlt : k < 32
          · have hfl := flushA wr (Iv B M) G 32 s c k hL.out.dev hF.out (by omega) hlt
            rw [show 8 * (k / 8) = k by omega] at hfl
            have Hfl := Lib.hid hfl
            have hcc : c + 1 ≤ 40 + (k + 8) := by omega
            clear hfl
            go_wp2_with fail
            refine Hfl.out.mono ?_
            rintro e w1 ⟨rfl, hD1, hM1⟩
            have hL1 := Lib.hid (hL.out.to hD1 hM1)
            clear hD1 hM1 Hfl cD hc
            go_wp2_with fail
            go_roundw
            case rel =>
              refine ⟨k + 8, c + 1, s.flush k, by go_num, by omega, by omega, hcc, hL1, Lib.hid (hF.out.flush k), Lib.hid hlast.out, Lib.hid (fun j => ?_), Lib.hid hnow.out⟩
              show (if k ≤ j ∧ j < k + 8 then some (s.now j) else s.way j) = _
              rw [hnow.out, hway.out]
              by_cases e : k ≤ j ∧ j < k + 8
              · rw [if_pos e, if_pos (by omega)]
              · rw [if_neg e]
                by_cases e2 : j < k
                · rw [if_pos e2, if_pos (by omega)]
                · rw [if_neg e2, if_neg (by omega)]
            case measure => simp [intOf]; omega
          · go_wp2_with fail
            have hk32 : k = 32 := by omega
            have hcc : c ≤ 80 := by omega
            refine (fenceA wr (Iv B M) G 32 s c hL.out.dev hF.out (by omega)).mono ?_
            rintro e w1 ⟨rfl, hD1, hM1⟩
            have hL1 := Lib.hid (hL.out.to hD1 hM1)
            have hF1 := Lib.hid hF.out.fence
            have hlast1 : Hid (∀ j, j < 32 → s.fence.last j = nw j) := Lib.hid (fun j hj => by
              show (s.way j).getD (s.last j) = _
              rw [hway.out, if_pos (by omega)]
              rfl)
            have hnow1 : Hid (s.fence.now = nw) := Lib.hid hnow.out
            have hway1 : Hid (∀ j, s.fence.way j = none) := Lib.hid (fun _ => rfl)
            generalize s.fence = s1 at hL1 hF1 hlast1 hnow1 hway1
            clear hL hF hlast hway hnow cD hk32 hk hk8 hc hlt hD1 hM1
            obtain ⟨CS, hCS⟩ : ∃ CS : List Value, CS = (words .u64 32 nw).toList := ⟨_, rfl⟩
            have hCl : CS.length = 32 := by rw [hCS, Array.length_toList, words_size]
            have hcc1 : c + 1 ≤ 81 := by omega
            generalize c + 1 = c1 at hF1 hcc1
            have hi36 : (Try.prog.info? 36).map (·.size) = some CS.length := by rw [hCl]; kernel_rfl
            have hone : ∀ v ∈ CS, v.oneCell' = true := by
              intro v hv
              rw [hCS] at hv
              simp [words] at hv
              obtain ⟨_, _, rfl⟩ := hv
              rfl
            have hrng : w1.rangeAt fP 0 CS := fun j v hv => by
              have hj : j < 32 := by have := (List.getElem?_eq_some_iff.1 hv).1; omega
              rw [Nat.zero_add, hL1.out.pP.cell j, ← hv, hCS, Array.getElem?_toList]
            have hthr : w1.there fN 0 CS.toArray.size := fun j hj => by
              have hj : j < 32 := by rw [List.size_toArray, hCl] at hj; exact hj
              rw [Nat.zero_add, hL1.out.pN.cell j, words_get _ _ _ hj]
              exact ⟨rfl, hL1.out.pN.frozen j⟩
            have hL2 := Lib.hid (La.setNs CS 0 _ _ hL1.out)
            rw [putAll_all CS _ (by rw [hCl, words_size]), hCS] at hL2
            rw [← hCS] at hL2
            have hCa : CS.toArray = words .u64 32 nw := by rw [hCS]
            rw [hCa] at hL2
            have Hi36 := Lib.hid hi36
            have Hone := Lib.hid hone
            have HCl := Lib.hid hCl
            have Hrng := Lib.hid hrng
            have Hthr := Lib.hid hthr
            clear hi36 hone hCl hrng hthr hCS hCa hL1 hcc
            go_wp2_with (first
              | (refine wpList_load_mid rfl 36 (.tmp 2) rfl fP 0 rfl CS _ Hrng.out Try.underlying36 rfl Hi36.out ?_)
              | (refine wpList_store_mid rfl 36 (.tmp 3) (.tmp 53) rfl fN 0 CS.toArray rfl rfl Hthr.out (by rw [List.size_toArray]; exact Hi36.out) (all_oneCell_toArray Hone.out) ?_))
            have hL3 := hL2
            generalize w1.setCells fN 0 CS = w2 at hL3 ⊢
            have hL4 : Hid (La w0 B M0 M G fA fD fP fN fB fF fL fO #[.slice a1 len1 cap1] #[.pointer (some ⟨G.d, 0, none⟩)] (words .u64 32 nw) (words .u64 32 s1.now) #[.slice a2 len2 cap2] #[.bool flip] #[.slice a3 len3 cap3] #[.bool true] w2 s1) := Lib.hid (by rw [hnow1.out]; exact hL3.out)
            clear hL2 hL3 Hrng Hthr Hi36 Hone HCl hnow1
            go_loopw [10] (fun i wr => ∃ (k : Nat) (s : DS), i = .int .i64 k ∧ k ≤ 40 ∧ Hid (La w0 B M0 M G fA fD fP fN fB fF fL fO #[.slice a1 len1 cap1] #[.pointer (some ⟨G.d, 0, none⟩)] (words .u64 32 nw) (words .u64 32 s.now) #[.slice a2 len2 cap2] #[.bool flip] #[.slice a3 len3 cap3] #[.bool true] wr s) ∧ Hid (Free s (c1 + k)) ∧ Hid (∀ j, j < 32 → s.last j = nw j) ∧ Hid (∀ j, s.way j = none))
              (fun i _ => 40 - (intOf i).toNat)
            case atStart => exact ⟨0, s1, rfl, by omega, hL4, hF1, hlast1, hway1⟩
            case round =>
              clear hL4 hF1 hlast1 hway1
              obtain ⟨k, s, rfl, hk, hL, hF, hlast, hway⟩ := hrel
              have cB : wr.cell? ⟨fB, 0, none⟩ = some (.slice a2 len2 cap2) := (hL.out.pB.cell 0).trans rfl
              have cD : wr.cell? ⟨fD, 0, none⟩ = some (.pointer (some ⟨G.d, 0, none⟩)) := (hL.out.pD.cell 0).trans rfl
              by_cases hlt : k < len2 ∧ k < 40
              · obtain ⟨hlt, h40⟩ := hlt
                obtain ⟨ad, z, rfl, hadb, -, -, hcl⟩ := int_at (hL.out.rd R2.out HB.out) hlt
                obtain ⟨N, hN, hm⟩ := mask z 31 (by decide)
                have hm' : bits .and .i64 z 31 = (N : Int) := hm
                have hw0 : IntKind.i64.wrap (100 + (k : Int)) = 100 + (k : Int) := IntWalk.i64_in _ (by omega)
                have hw1 : IntKind.u64.wrap (100 + (k : Int)) = 100 + (k : Int) := IntWalk.u64_in _ (by omega)
                have hL' := Lib.hid (hL.out.keep ((Mv.refl (fun _ => False) wr).drew))
                clear hm
                go_wp2_with fail
                go_region_held3 (fun w' => w'.cell? ⟨fD, 0, none⟩ = some (.pointer (some ⟨G.d, 0, none⟩)) ∧ w'.cell? ⟨fB, 0, none⟩ = some (.slice (some ad) len2 cap2) ∧ w'.cell? (ad.add k) = some (.int .i64 z)) (first | assumption | exact ⟨by assumption, by assumption, by assumption⟩ | (simp [*]; done)) (first
                  | (go_simp; go_at_call 12; refine (storeA wr.drew (Iv B M) G 32 s (c1 + k) N (100 + (k : Int)) hL'.out.dev hF.out (by omega) (by omega)).mono ?_; rintro e w3 ⟨rfl, hD3, hM3⟩; have hL3 := hL'.out.to hD3 hM3; have dD : w3.cell? ⟨fD, 0, none⟩ = some (.pointer (some ⟨G.d, 0, none⟩)) := (hL3.pD.cell 0).trans rfl; have dB : w3.cell? ⟨fB, 0, none⟩ = some (.slice (some ad) len2 cap2) := (hL3.pB.cell 0).trans rfl; have dcl : w3.cell? (ad.add k) = some (.int .i64 z) := (mv_cell (hL'.out.mv.trans' (S := Iv B M0) hM3 (fun b _ e => hL'.out.ow b e)) (p := ad.add k) (by rw [block_of_add]; exact Nat.lt_of_lt_of_le hadb HB.out) (by rw [block_of_add]; exact fun e => by have := e.1; omega)).trans ((mv_cell hL.out.mv (p := ad.add k) (by rw [block_of_add]; exact Nat.lt_of_lt_of_le hadb HB.out) (by rw [block_of_add]; exact fun e => by have := e.1; omega)).symm.trans hcl)))
                have HL3 := Lib.hid hL3
                have dN : w3.cell? ⟨fN, N, none⟩ = some (.int .u64 (s.now N)) := (hL3.pN.cell N).trans (words_get _ _ _ (by omega))
                have fN0 := hL3.pN.frozen N
                have hN0 : (0 : Int) ≤ (N : Int) := by omega
                have hN1 : (N : Int) < 32 := by omega
                clear hL3 hD3 hM3 cB cD hcl hL'
                go_wp2_with fail
                go_roundw
                case rel =>
                  refine ⟨k + 1, s.store N (100 + (k : Int)), by go_num, by omega, Lib.hid ?_, Lib.hid (hF.out.store _ _), Lib.hid hlast.out, Lib.hid hway.out⟩
                  have h1 := HL3.out.setN N (.int .u64 (100 + (k : Int)))
                  rw [words_set] at h1
                  exact h1
                case measure => simp [intOf]; omega
              · have cF : wr.cell? ⟨fF, 0, none⟩ = some (.bool flip) := (hL.out.pF.cell 0).trans rfl
                have cL : wr.cell? ⟨fL, 0, none⟩ = some (.slice a3 len3 cap3) := (hL.out.pL.cell 0).trans rfl
                go_wp2_with fail
                all_goals (
                  have hsz : B ≤ wr.heap.size := by have := hL.out.mv.size; have := HB.out; omega
                  obtain ⟨p, hp⟩ : ∃ p : Nat → Bool, p = fun j : Nat => (decide ((j : Int) ∈ z3) != flip) := ⟨_, rfl⟩
                  have hpp : Hid (∀ j : Nat, p j = (decide ((j : Int) ∈ z3) != flip)) := Lib.hid (fun j => by rw [hp])
                  refine (powerA wr (Iv B M) G 32 s flip a3 len3 cap3 z3 hL.out.dev ((hL.out.rd R3.out HB.out).more hsz) Hz3.out hl3 p hpp.out).mono ?_
                  rintro e w4 ⟨rfl, hD4, hM4⟩
                  have hL6 := Lib.hid (hL.out.to hD4 hM4)
                  have hF6 := Lib.hid (hF.out.power p)
                  obtain ⟨nn, hnn⟩ : ∃ nn, nn = s.now := ⟨_, rfl⟩
                  have hnow6 : Hid (∀ j, j < 32 → (s.power p).now j = if p j = true then nn j else nw j) := Lib.hid (fun j hj => by
                    show (if p j = true then s.now j else s.last j) = _
                    rw [hlast.out j hj, hnn])
                  have hnl6 : Hid ((s.power p).now = (s.power p).last) := Lib.hid rfl
                  rw [← hnn] at hL6
                  generalize c1 + k = c6 at hF6
                  generalize s.power p = s6 at hL6 hF6 hnow6 hnl6
                  clear hD4 hM4 hL hF hlast hway cB cD cF cL hlt hnn hp hsz
                  go_wp2_with fail
                  go_loopw [11] (fun i wr => ∃ k : Nat, i = .int .i64 k ∧ k ≤ 32 ∧ Hid (La w0 B M0 M G fA fD fP fN fB fF fL fO #[.slice a1 len1 cap1] #[.pointer (some ⟨G.d, 0, none⟩)] (words .u64 32 nw) (words .u64 32 nn) #[.slice a2 len2 cap2] #[.bool flip] #[.slice a3 len3 cap3] #[.bool true] wr s6))
                    (fun i _ => 32 - (intOf i).toNat)
                  case atStart => exact ⟨0, rfl, by omega, hL6⟩
                  case round =>
                    clear hL6
                    obtain ⟨k, rfl, hk, hL⟩ := hrel
                    have cD : wr.cell? ⟨fD, 0, none⟩ = some (.pointer (some ⟨G.d, 0, none⟩)) := (hL.out.pD.cell 0).trans rfl
                    have cO : wr.cell? ⟨fO, 0, none⟩ = some (.bool true) := (hL.out.pO.cell 0).trans rfl
                    have fO0 := hL.out.pO.frozen 0
                    have cF : wr.cell? ⟨fF, 0, none⟩ = some (.bool flip) := (hL.out.pF.cell 0).trans rfl
                    have cL : wr.cell? ⟨fL, 0, none⟩ = some (.slice a3 len3 cap3) := (hL.out.pL.cell 0).trans rfl
                    by_cases hlt : k < 32
                    · have hk0 : (0 : Int) ≤ (k : Int) := by omega
                      have hk1 : (k : Int) < 32 := by omega
                      go_wp2_with fail
                      go_loop [12, 13] (fun b i => ∃ m : Nat, i = .int .i64 m ∧ m ≤ len3 ∧ b = .bool (decide ((k : Int) ∈ z3.take m))) (fun _ i => len3 - (intOf i).toNat)
                      case atStart => exact ⟨0, rfl, by omega, by simp⟩
                      case round =>
                        obtain ⟨m, rfl, hm, rfl⟩ := hrel
                        by_cases hml : m < len3
                        · obtain ⟨ad, z, rfl, hadb, -, hzm, hcl⟩ := int_at (hL.out.rd R3.out HB.out) hml
                          have htk : Hid (z3.take (m + 1) = z3.take m ++ [z]) := Lib.hid (by
                            rw [List.take_add_one, hzm]
                            rfl)
                          rcases hb : decide ((k : Int) ∈ z3.take m) with _ | _
                          · have hd : Hid (decide ((k : Int) ∈ z3.take (m + 1)) = (z == (k : Int))) := Lib.hid (by
                              rw [htk.out]
                              simp only [decide_eq_false_iff_not] at hb
                              by_cases e : z = (k : Int)
                              · simp [e]
                              · have e' : ¬ (k : Int) = z := fun x => e x.symm
                                simp [hb, e, e'])
                            clear hb
                            go_wp2_with fail
                            go_round
                            case rel => exact ⟨m + 1, by go_num, by omega, by rw [hd.out]⟩
                            case measure => simp [intOf]; omega
                          · have hd : Hid (decide ((k : Int) ∈ z3.take (m + 1)) = true) := Lib.hid (by
                              rw [htk.out]
                              simp only [decide_eq_true_eq] at hb
                              simp [hb])
                            clear hb
                            go_wp2_with fail
                            go_round
                            case rel => exact ⟨m + 1, by go_num, by omega, by rw [hd.out]⟩
                            case measure => simp [intOf]; omega
                        · have hbz : Hid (decide ((k : Int) ∈ z3.take m) = decide ((k : Int) ∈ z3)) := Lib.hid (by
                            have h1 := R3.out.1
                            simp only [List.length_map] at h1
                            rw [List.take_of_length_le (by omega)])
                          have hpk := hpp.out k
                          rw [← hbz.out] at hpk
                          generalize decide ((k : Int) ∈ z3.take m) = b at hpk
                          have cP : wr.cell? ⟨fP, k, none⟩ = some (.int .u64 (nw k)) := (hL.out.pP.cell k).trans (words_get _ _ _ hlt)
                          have cN : wr.cell? ⟨fN, k, none⟩ = some (.int .u64 (nn k)) := (hL.out.pN.cell k).trans (words_get _ _ _ hlt)
                          have hst := Lib.hid (hL.out.setO 0 (.bool true))
                          clear hbz
                          rcases hpb : p k with _ | _
                          · rw [hpb] at hpk
                            have hpx := beq_of_ne hpk
                            have hld := Lib.hid (loadA wr (Iv B M) G 32 s6 c6 k (nw k) hL.out.dev hF6.out hlt (by rw [hnow6.out k hlt, hpb]; rfl))
                            clear hpk hpb
                            generalize nw k = vw at cP hld
                            go_wp2_with fail
                            refine hld.out.mono ?_
                            rintro e w5 ⟨rfl, rfl⟩
                            go_wp2_with fail
                            go_roundw
                            case rel => exact ⟨k + 1, by go_num, by omega, hst⟩
                            case measure => simp [intOf]; omega
                          · rw [hpb] at hpk
                            have hpx := beq_of_nn hpk
                            have hld := Lib.hid (loadA wr (Iv B M) G 32 s6 c6 k (nn k) hL.out.dev hF6.out hlt (by rw [hnow6.out k hlt, hpb]; rfl))
                            clear hpk hpb
                            generalize nn k = vn at cN hld
                            generalize nw k = vw at cP
                            go_wp2_with fail
                            refine hld.out.mono ?_
                            rintro e w5 ⟨rfl, rfl⟩
                            go_wp2_with fail
                            go_roundw
                            case rel => exact ⟨k + 1, by go_num, by omega, hst⟩
                            case measure => simp [intOf]; omega
                    · go_wp2_with fail
                      go_end0
                      exact ⟨rfl, hL.out.pO, hL.out.pD, hL.out.mv, s6, hL.out.dev, hnl6.out⟩))
end Go.Proofs.Ytfiajonbekfcfaa
