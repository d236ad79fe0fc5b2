/- redo: RedoApart's walk. -/
import Derived.Test.YtdphillobnlpaaaRedEc
import Derived.Deep.CutBlock
import Derived.BigQuiet
namespace Go.Proofs.Ytdphillobnlpaaa
open Go.RowKit
set_option linter.unusedVariables false
theorem bools_get {bs : List Bool} {i : Nat} {u : Value} (h : (bs.map Value.bool)[i]? = some u) : u = .bool (bs.getD i false) := by
  rw [List.getElem?_map] at h
  cases hb : bs[i]? with
  | none => rw [hb] at h; cases h
  | some b => rw [hb] at h; cases h; rw [List.getD_eq_getElem?_getD, hb]; rfl
theorem Ap.le {s : DS} {x p y q : Int} {t t' : Nat} (h : Ap s x p y q t) (ht : t ≤ t') : Ap s x p y q t' := ⟨h.bk, by have := h.steps; omega⟩
/-- What stands around a device with two logs. -/
structure Fo (w0 : World) (G : Dv) (la lb ba bb : Nat) (w : World) : Prop where
  A : Blk w ba 24 #[.pointer (some ⟨la, 0, none⟩)]
  B : Blk w bb 24 #[.pointer (some ⟨lb, 0, none⟩)]
  logA : Lg w la G 0 32
  logB : Lg w lb G 64 32
  loA : ¬ G.own la
  loB : ¬ G.own lb
  own : ∀ b, G.own b → w0.heap.size ≤ b ∧ b < ba
  new : w0.heap.size ≤ ba ∧ ba < bb ∧ la < ba ∧ lb < bb
  mv : Mv (fun _ => False) w0 w
theorem Fo.go {w0 w w' : World} {G : Dv} {la lb ba bb : Nat} {S : Nat → Prop} (h : Fo w0 G la lb ba bb w) (hm : Mv S w w') (hS : ∀ b, S b → G.own b ∨ bb < b) : Fo w0 G la lb ba bb w' := by
  obtain ⟨n1, n2, n3, n4⟩ := h.new
  have k : ∀ b, b ≤ bb → ¬ G.own b → ¬ S b := fun b hb ho e => by
    rcases hS b e with e | e
    · exact ho e
    · omega
  exact ⟨h.A.mv hm (k ba (by omega) (fun e => by have := (h.own _ e).2; omega)), h.B.mv hm (k bb (by omega) (fun e => by have := (h.own _ e).2; omega)), Blk.mv h.logA hm (k la (by omega) h.loA), Blk.mv h.logB hm (k lb (by omega) h.loB), h.loA, h.loB, h.own, h.new,
    mv_none h.mv hm (fun b hb e => by
      rcases hS b e with e | e
      · have := (h.own _ e).1; omega
      · omega)⟩
theorem Fo.to {w0 w w' : World} {G : Dv} {la lb ba bb : Nat} (h : Fo w0 G la lb ba bb w) (hm : Mv G.own w w') : Fo w0 G la lb ba bb w' := h.go hm (fun _ e => .inl e)
theorem Fo.none {w0 w w' : World} {G : Dv} {la lb ba bb : Nat} (h : Fo w0 G la lb ba bb w) (hm : Mv (fun _ => False) w w') : Fo w0 G la lb ba bb w' := h.go hm (fun _ e => e.elim)
theorem Fo.lt {w0 w : World} {G : Dv} {la lb ba bb : Nat} (h : Fo w0 G la lb ba bb w) : ∀ b, G.own b → b < w.heap.size := fun b e => by have := (h.own b e).2; have := h.A.lt; omega
set_option maxRecDepth 100000 in
set_option maxHeartbeats 16000000 in
theorem apart_any (w : World) (n c0 m3 c3 : Nat) (A0 A3 : Option Addr) (ts : List Bool) (a1 : Int) (a2 : Bool) (ks : List Int)
    (hr0 : Reads w w.heap.size 1 A0 n (ts.map Value.bool)) (hn : n ≤ 9223372036854775807) (h1 : (Lit.int .i64 a1).wf = true)
    (hr3 : Reads w w.heap.size 1 A3 m3 (ks.map (Value.int .i64))) (hm3 : m3 ≤ 9223372036854775807) (hw3 : ∀ z ∈ ks, (Lit.int .i64 z).wf = true) :
    Calls Try.prog 7 #[.slice A0 n c0, .int .i64 a1, .bool a2, .slice A3 m3 c3] w fun e w' => e = .returned (.bool true) ∧ Mv (fun _ => False) w w' := by
  have Hr0 := Lib.hid hr0
  have Hn := Lib.hid hn
  have H1 := Lib.hid (i64_rng h1)
  have Hr3 := Lib.hid hr3
  have Hm3 := Lib.hid hm3
  have Hw3 := Lib.hid hw3
  have hmf : ∀ (fn : Fn) (first cap : Array Value) (w : World), (Instr.makeFunc fn first cap).run Try.prog w = .ok (.func fn first cap) w := fun _ _ _ _ => rfl
  clear hr0 hn h1 hr3 hm3 hw3
  go_enter Try.func7, Try.ntmps7
  go_wp2_with fail
  refine (new_any w 256 (by decide)).mono ?_
  rintro e w1 ⟨G, rfl, hF, hD, hM⟩
  have Ho := Lib.hid (open_new w1 G 0 32 (by decide) (devA_of hD))
  have HM := Lib.hid hM
  have HF := Lib.hid hF
  have Hown1 := Lib.hid (show ∀ b, G.own b → b < w1.heap.size from (devA_of hD).own_lt2)
  clear hD hM hF
  go_wp2_with fail
  refine Ho.out.mono ?_
  rintro e w2 ⟨la, hla, rfl, hL, hD2, hM2⟩
  have Hla := Lib.hid (show w1.heap.size ≤ la ∧ la < w2.heap.size from ⟨hla, hL.lt⟩)
  have HD2 := Lib.hid hD2
  have HL2 := Lib.hid hL
  have HM2 := Lib.hid (mv_none HM.out hM2 (fun b hb e => by have := HF.out.own b e; omega))
  have Hsz2 := Lib.hid hM2.size
  clear hla hL hD2 hM2 Ho
  obtain ⟨w3, hw3⟩ : ∃ w3, w3 = w2.alloc (.cells #[.pointer (some ⟨la, 0, none⟩)] 24) := ⟨_, rfl⟩
  have m3 : Mv (fun _ => False) w2 w3 := by rw [hw3]; exact (Mv.refl _ w2).alloc _
  obtain ⟨ba, hba⟩ : ∃ ba, ba = w2.heap.size := ⟨_, rfl⟩
  have HBa3 := Lib.hid (show Blk w3 ba 24 #[.pointer (some ⟨la, 0, none⟩)] by rw [hw3]; exact blk_new _ _ _ hba)
  have HD3 := Lib.hid (dev_turn HD2.out calm_noughts m3 (fun _ _ e => e))
  have HL3 := Lib.hid (Blk.mv HL2.out m3 (fun e => e))
  have HM3 := Lib.hid (HM2.out.trans m3)
  have Ho := Lib.hid (open_new w3 G 64 32 (by decide) HD3.out)
  have Hw3' := Lib.hid hw3
  have Hba := Lib.hid hba
  clear hw3 m3 hba
  go_wp2_with fail
  rw [← Hw3'.out, ← Hba.out]
  refine Ho.out.mono ?_
  rintro e w4 ⟨lb, hlb, rfl, hL4, hD4, hM4⟩
  have Hlb := Lib.hid (show w3.heap.size ≤ lb ∧ lb < w4.heap.size from ⟨hlb, hL4.lt⟩)
  have nba : ∀ b, G.own b → b < ba := fun b e => by have := Hown1.out b e; have := Hsz2.out; have := Hba.out; omega
  have Hnba := Lib.hid nba
  have HBa4 := Lib.hid (HBa3.out.mv hM4 (fun e => by have := nba _ e; omega))
  have HLa4 := Lib.hid (Blk.mv HL3.out hM4 (fun e => by have := Hown1.out _ e; have := Hla.out; omega))
  have HD4 := Lib.hid hD4
  have HL4 := Lib.hid hL4
  have HM4 := Lib.hid (mv_none HM3.out hM4 (fun b hb e => by have := HF.out.own b e; omega))
  have HBa3' := Lib.hid HBa3.out.lt
  clear hlb hL4 hD4 hM4 Ho nba HBa3 HL3 HD3 HM3 Hw3'
  have m5 : Mv (fun _ => False) w4 (w4.alloc (.cells #[.pointer (some ⟨lb, 0, none⟩)] 24)) := (Mv.refl _ w4).alloc _
  have hB5 := blk_new w4 24 #[.pointer (some ⟨lb, 0, none⟩)] rfl
  have hA5 := HBa4.out.mv m5 (fun e => e)
  have cA : (w4.alloc (.cells #[.pointer (some ⟨lb, 0, none⟩)] 24)).cell? ⟨ba, 0, none⟩ = some (.pointer (some ⟨la, 0, none⟩)) := (hA5.cell 0).trans rfl
  have cB : (w4.alloc (.cells #[.pointer (some ⟨lb, 0, none⟩)] 24)).cell? ⟨w4.heap.size, 0, none⟩ = some (.pointer (some ⟨lb, 0, none⟩)) := (hB5.cell 0).trans rfl
  have HM5 := Lib.hid m5
  have HA5 := Lib.hid hA5
  have HB5 := Lib.hid hB5
  clear m5 hB5 hA5
  go_wp2_with fail
  obtain ⟨w5, hw5⟩ : ∃ w5, w5 = w4.alloc (.cells #[.pointer (some ⟨lb, 0, none⟩)] 24) := ⟨_, rfl⟩
  obtain ⟨bb, hbb⟩ : ∃ bb, bb = w4.heap.size := ⟨_, rfl⟩
  rw [← hw5] at HM5 HA5 HB5 ⊢
  rw [← hbb] at HB5 ⊢
  have HE5 : Hid (Fo w G la lb ba bb w5) := Lib.hid ⟨HA5.out, HB5.out, Blk.mv HLa4.out HM5.out (fun e => e), Blk.mv HL4.out HM5.out (fun e => e),
    fun e => by have := Hown1.out _ e; have := Hla.out; omega, fun e => by have := Hnba.out _ e; have := Hlb.out; have := HBa3'.out; omega,
    fun b e => ⟨HF.out.own b e, Hnba.out b e⟩, ⟨by have := HM2.out.size; have := Hba.out; omega, by have := HBa4.out.lt; omega, by have := Hla.out; have := Hba.out; omega, by have := Hlb.out; omega⟩, HM4.out.trans HM5.out⟩
  have HD5 := Lib.hid (dev_turn HD4.out calm_noughts HM5.out (fun _ _ e => e))
  have Hf := Lib.hid (fuseC w5 G 256 noughts a1 HD5.out H1.out)
  have Hs5 := Lib.hid (show bb < w5.heap.size from HB5.out.lt)
  clear cA cB hw5 hbb HM5 HA5 HB5 HLa4 HL4 HM4 HBa4 HD4 Hlb Hla HM2 Hsz2 HF HM Hown1 Hba HBa3'
  refine Hf.out.mono ?_
  rintro e w6 ⟨rfl, hD6, hm6⟩
  have HE6 := Lib.hid (HE5.out.to hm6)
  have HD6 := Lib.hid hD6
  have Hs6 := Lib.hid (show bb < w6.heap.size by have := Hs5.out; have := hm6.size; omega)
  obtain ⟨s6, hs6⟩ : ∃ s6, s6 = ({ noughts with fuse := max a1 (-1) } : DS) := ⟨_, rfl⟩
  rw [← hs6] at HD6
  have hst6 : s6.steps = 0 := by rw [hs6]; rfl
  have Htw6 := Lib.hid (show Tw s6 0 0 ∧ s6.steps ≤ 300000 * 0 from ⟨by rw [hs6]; exact tw_noughts.fuse _, by omega⟩)
  clear hD6 hm6 Hf hs6 hst6 HE5 HD5 Hs5
  go_upto_block 0 with fail
  obtain ⟨w7, hw7⟩ : ∃ w7, w7 = (w6.alloc (.cells #[.int .u64 0] 28)).alloc (.cells #[.int .u64 0] 28) := ⟨_, rfl⟩
  obtain ⟨bp, hbp⟩ : ∃ bp, bp = w6.heap.size := ⟨_, rfl⟩
  obtain ⟨bq, hbq⟩ : ∃ bq, bq = w6.heap.size + 1 := ⟨_, rfl⟩
  rw [← hw7, ← hbq, ← hbp]
  have m7 : Mv (fun _ => False) w6 w7 := by rw [hw7]; exact ((Mv.refl _ w6).alloc _).alloc _
  have HE7 := Lib.hid (HE6.out.none m7)
  have HD7 := Lib.hid (dev_turn HD6.out Htw6.out.1.calm m7 (fun _ _ e => e))
  have HP7 := Lib.hid (show Blk w7 bp 28 #[.int .u64 0] by rw [hw7, hbp]; exact (Blk.new w6 _ _).alloc _)
  have HQ7 := Lib.hid (show Blk w7 bq 28 #[.int .u64 0] by rw [hw7]; exact blk_new _ _ _ (by rw [hbq]; simp))
  have Hpq := Lib.hid (show bb < bp ∧ bp < bq by have := Hs6.out; omega)
  clear hw7 hbp hbq m7 HE6 HD6 Hs6
  go_cut [15, 16, 19, 20] from 58 to 85 (fun s15 s16 s19 s20 wx => ∃ (A : Nat → Prop) (s : DS) (x p y q : Int), s15 = .int .u64 x ∧ s16 = .int .u64 y ∧ Hid (Ap s x p y q 31) ∧ Hid (DevA wx A G 256 s) ∧ Hid (Fo w G la lb ba bb wx) ∧ Hid (Blk wx bp 28 #[.int .u64 p]) ∧ Hid (Blk wx bq 28 #[.int .u64 q]))
  case first =>
    go_wp2_with fail
    go_loopw [15, 16, 19] (fun v15 v16 v19 wr => ∃ (i : Nat) (s : DS) (x p y q : Int), v15 = .int .u64 x ∧ v16 = .int .u64 y ∧ v19 = .int .i64 (i : Int) ∧ i ≤ n ∧ i ≤ 30 ∧ Hid (0 ≤ x ∧ x ≤ i ∧ 0 ≤ y ∧ y ≤ i) ∧ Hid (Tw s x y ∧ s.steps ≤ 300000 * i) ∧ Hid (DevA wr G.own G 256 s) ∧ Hid (Fo w G la lb ba bb wr) ∧ Hid (Blk wr bp 28 #[.int .u64 p]) ∧ Hid (Blk wr bq 28 #[.int .u64 q]))
      (fun _ _ v19 _ => 30 - (intOf v19).toNat)
    case atStart => exact ⟨0, s6, 0, 0, 0, 0, rfl, rfl, rfl, Nat.zero_le _, by omega, Lib.hid (by decide), Htw6, HD7, HE7, HP7, HQ7⟩
    case round =>
      obtain ⟨i, s, x, p, y, q, rfl, rfl, rfl, hin, hi30, Hxy, htw, hdv, hen, hP, hQ⟩ := hrel
      clear Htw6 HD7 HE7 HP7 HQ7
      by_cases hgo : i < n ∧ i < 30
      · obtain ⟨hlt, hl30⟩ := hgo
        obtain ⟨ad, u, hA0, hadb, hu, hcl⟩ := Hr0.out.at_ hlt
        subst hA0
        have hu' := bools_get hu
        subst hu'
        generalize ts.getD i false = b at hcl hu
        clear hu
        have hwi := wrap_small (z := (i : Int) + 1) (by omega) (by omega)
        have hcl2 := (mv_cell hen.out.mv (by rw [block_of_add]; exact hadb) (fun e => e)).trans hcl
        have cP : wr.cell? ⟨bp, 0, none⟩ = some (.int .u64 p) := (hP.out.cell 0).trans rfl
        have fP := hP.out.frozen 0
        have hpA := hP.out.set_ 0 (.int .u64 x)
        have hqA : Blk (wr.setCell ⟨bp, 0, none⟩ (.int .u64 x)) bq 28 #[.int .u64 q] := hQ.out.far (by show bq ≠ bp; have := Hpq.out; omega) _
        have cQ : (wr.setCell ⟨bp, 0, none⟩ (.int .u64 x)).cell? ⟨bq, 0, none⟩ = some (.int .u64 q) := (hqA.cell 0).trans rfl
        have fQ := hqA.frozen 0
        have HpB : Hid (Blk ((wr.setCell ⟨bp, 0, none⟩ (.int .u64 x)).setCell ⟨bq, 0, none⟩ (.int .u64 y)) bp 28 #[.int .u64 x]) := Lib.hid (Blk.far hpA (by show bp ≠ bq; have := Hpq.out; omega) _)
        have HqB : Hid (Blk ((wr.setCell ⟨bp, 0, none⟩ (.int .u64 x)).setCell ⟨bq, 0, none⟩ (.int .u64 y)) bq 28 #[.int .u64 y]) := Lib.hid (hqA.set_ 0 (.int .u64 y))
        have HmB := Lib.hid (((Mv.refl (fun b => b = bp ∨ b = bq) wr).setCell (p := ⟨bp, 0, none⟩) (fun _ => .inl rfl) (.int .u64 x)).setCell (p := ⟨bq, 0, none⟩) (fun _ => .inr rfl) (.int .u64 y))
        have hclB : ((wr.setCell ⟨bp, 0, none⟩ (.int .u64 x)).setCell ⟨bq, 0, none⟩ (.int .u64 y)).cell? (ad.add i) = some (.bool b) := (mv_cell HmB.out (by rw [block_of_add]; have := hen.out.mv.size; omega) (by rw [block_of_add]; have := Hpq.out; have := hen.out.new; omega)).trans hcl2
        clear hpA hqA hP hQ hcl hadb hcl2
        have hcl2 := hclB
        clear hclB
        cases b
        · have hpB := HpB.out
          have hqB := HqB.out
          have cB1 : ((wr.setCell ⟨bp, 0, none⟩ (.int .u64 x)).setCell ⟨bq, 0, none⟩ (.int .u64 y)).cell? ⟨bq, 0, none⟩ = some (.int .u64 y) := (hqB.cell 0).trans rfl
          have fB1 := hqB.frozen 0
          have hC := hqB.set_ 0 (.int .u64 (y + 1))
          have HC : Hid (Blk (((wr.setCell ⟨bp, 0, none⟩ (.int .u64 x)).setCell ⟨bq, 0, none⟩ (.int .u64 y)).setCell ⟨bq, 0, none⟩ (.int .u64 (y + 1))) bq 28 #[.int .u64 (y + 1)]) := Lib.hid hC
          have HO : Hid (Blk (((wr.setCell ⟨bp, 0, none⟩ (.int .u64 x)).setCell ⟨bq, 0, none⟩ (.int .u64 y)).setCell ⟨bq, 0, none⟩ (.int .u64 (y + 1))) bp 28 #[.int .u64 x]) := Lib.hid (hpB.far (by show bp ≠ bq; have := Hpq.out; omega) _)
          have HmC := Lib.hid (HmB.out.setCell (p := ⟨bq, 0, none⟩) (fun _ => .inr rfl) (.int .u64 (y + 1)))
          have hwu : IntKind.u64.wrap (y + 1) = y + 1 := IntWalk.u64_in _ (by have := Hxy.out; omega)
          clear hpB hqB hC HpB HqB HmB
          go_wp2_with fail
          obtain ⟨wC, hwC⟩ : ∃ wC, wC = (((wr.setCell ⟨bp, 0, none⟩ (.int .u64 x)).setCell ⟨bq, 0, none⟩ (.int .u64 y)).setCell ⟨bq, 0, none⟩ (.int .u64 (y + 1))) := ⟨_, rfl⟩
          rw [← hwC] at HC HO HmC ⊢
          clear hwC cP cQ cB1 fP fQ fB1 hwu hcl2
          have HEC := Lib.hid (hen.out.go HmC.out (fun b e => .inr (by have := Hpq.out; rcases e with e | e <;> omega)))
          have HDC := Lib.hid (dev_turn hdv.out htw.out.1.calm HmC.out (fun b hb e => by have := (hen.out.own b hb).2; have := hen.out.new; have := Hpq.out; rcases e with e | e <;> omega))
          clear HmC hen hdv
          have Ht := Lib.hid (told_b (told_r 28 Try.f28 #[.pointer (some ⟨bb, 0, none⟩), .pointer (some ⟨bq, 0, none⟩)] wC G 256 (commitD 256 64 32 (psB (y + 1)) s) Try.func28 (by kernel_rfl) (by kernel_rfl) HEC.out.lt (fun v hv hs =>
            apart2 v _ G s lb bb bq (y + 1) (HEC.out.B.mv hv (fun e => e)) (HC.out.mv hv (fun e => e)) (dev_told HDC.out hv hs) htw.out.1.calm.2.2 (Blk.mv HEC.out.logB hv (fun e => e)) HEC.out.loB htw.out.1.u (by have := htw.out.2; omega) (by have := Hxy.out; omega))))
          obtain ⟨hcom, hap⟩ := htw.out.1.commB (by have := Hxy.out; omega : 0 ≤ y + 1 ∧ y + 1 < 18446744073709551616) htw.out.2
          have hst := commit_steps 256 64 32 (psB (y + 1)) s (by decide)
          have hst2 : (commitD 256 64 32 (psB (y + 1)) s).1.steps ≤ 300000 * (i + 1) := by have := htw.out.2; omega
          clear hst
          generalize commitD 256 64 32 (psB (y + 1)) s = r5 at Ht hcom hap hst2
          have Hcom := Lib.hid hcom
          have Hap := Lib.hid hap
          have Hst2 := Lib.hid hst2
          clear hcom hap hst2 htw
          refine Ht.out.mono ?_
          rintro e we ⟨k9, rfl, hk9, hDe, hme⟩
          have HEe := Lib.hid (HEC.out.to hme)
          have nown : ∀ b, bb < b → ¬ G.own b := fun b h e => by have := (HEC.out.own b e).2; have := HEC.out.new; omega
          have hPe := HO.out.mv hme (nown _ (by have := Hpq.out; omega))
          have hQe := HC.out.mv hme (nown _ (by have := Hpq.out; omega))
          have HPe := Lib.hid hPe
          have HQe := Lib.hid hQe
          have HDe := Lib.hid hDe
          have hk2 : (k9 != 0) = !r5.2 := by rw [← hk9]; rfl
          have cP : we.cell? ⟨bp, 0, none⟩ = some (.int .u64 (x)) := (hPe.cell 0).trans rfl
          have cQ : we.cell? ⟨bq, 0, none⟩ = some (.int .u64 (y + 1)) := (hQe.cell 0).trans rfl
          clear hDe hme Ht HEC HDC HC HO nown hPe hQe
          cases hb : r5.2
          · rw [hb] at hk9 hk2
            have Hlt := Lib.hid hlt
            clear Hcom hb
            go_wp2_with fail
            go_meet
            case rel => exact ⟨_, r5.1, x, x, y, y + 1, rfl, rfl, Lib.hid (Hap.out.le (by omega)), HDe, HEe, HPe, HQe⟩
          · rw [hb] at hk9 hk2
            have Htw2 := Lib.hid (Hcom.out hb)
            clear Hcom Hap hb
            go_wp2_with fail
            go_quiet (fail)
            go_wp2_with fail
            refine ⟨⟨i + 1, r5.1, x, x, y + 1, y + 1, rfl, rfl, by go_num, by omega, by omega, Lib.hid (by have := Hxy.out; omega), Lib.hid ⟨Htw2.out, Hst2.out⟩, Lib.hid (dev_turn (dev_calm HDe.out Htw2.out.calm) Htw2.out.calm ((Mv.refl _ we).drewN nq) (fun _ _ e => e)), Lib.hid (HEe.out.none ((Mv.refl _ we).drewN nq)), Lib.hid (HPe.out.drewN nq), Lib.hid (HQe.out.drewN nq)⟩, ?_⟩
            show 30 - ((i : Int) + 1).toNat < 30 - ((i : Int)).toNat
            omega
        · have hpB := HpB.out
          have hqB := HqB.out
          have cB1 : ((wr.setCell ⟨bp, 0, none⟩ (.int .u64 x)).setCell ⟨bq, 0, none⟩ (.int .u64 y)).cell? ⟨bp, 0, none⟩ = some (.int .u64 x) := (hpB.cell 0).trans rfl
          have fB1 := hpB.frozen 0
          have hC := hpB.set_ 0 (.int .u64 (x + 1))
          have HC : Hid (Blk (((wr.setCell ⟨bp, 0, none⟩ (.int .u64 x)).setCell ⟨bq, 0, none⟩ (.int .u64 y)).setCell ⟨bp, 0, none⟩ (.int .u64 (x + 1))) bp 28 #[.int .u64 (x + 1)]) := Lib.hid hC
          have HO : Hid (Blk (((wr.setCell ⟨bp, 0, none⟩ (.int .u64 x)).setCell ⟨bq, 0, none⟩ (.int .u64 y)).setCell ⟨bp, 0, none⟩ (.int .u64 (x + 1))) bq 28 #[.int .u64 y]) := Lib.hid (hqB.far (by show bq ≠ bp; have := Hpq.out; omega) _)
          have HmC := Lib.hid (HmB.out.setCell (p := ⟨bp, 0, none⟩) (fun _ => .inl rfl) (.int .u64 (x + 1)))
          have hwu : IntKind.u64.wrap (x + 1) = x + 1 := IntWalk.u64_in _ (by have := Hxy.out; omega)
          clear hpB hqB hC HpB HqB HmB
          go_wp2_with fail
          obtain ⟨wC, hwC⟩ : ∃ wC, wC = (((wr.setCell ⟨bp, 0, none⟩ (.int .u64 x)).setCell ⟨bq, 0, none⟩ (.int .u64 y)).setCell ⟨bp, 0, none⟩ (.int .u64 (x + 1))) := ⟨_, rfl⟩
          rw [← hwC] at HC HO HmC ⊢
          clear hwC cP cQ cB1 fP fQ fB1 hwu hcl2
          have HEC := Lib.hid (hen.out.go HmC.out (fun b e => .inr (by have := Hpq.out; rcases e with e | e <;> omega)))
          have HDC := Lib.hid (dev_turn hdv.out htw.out.1.calm HmC.out (fun b hb e => by have := (hen.out.own b hb).2; have := hen.out.new; have := Hpq.out; rcases e with e | e <;> omega))
          clear HmC hen hdv
          have Ht := Lib.hid (told_b (told_r 27 Try.f27 #[.pointer (some ⟨ba, 0, none⟩), .pointer (some ⟨bp, 0, none⟩)] wC G 256 (commitD 256 0 32 (psA (x + 1)) s) Try.func27 (by kernel_rfl) (by kernel_rfl) HEC.out.lt (fun v hv hs =>
            apart1 v _ G s la ba bp (x + 1) (HEC.out.A.mv hv (fun e => e)) (HC.out.mv hv (fun e => e)) (dev_told HDC.out hv hs) htw.out.1.calm.2.2 (Blk.mv HEC.out.logA hv (fun e => e)) HEC.out.loA htw.out.1.u (by have := htw.out.2; omega) (by have := Hxy.out; omega))))
          obtain ⟨hcom, hap⟩ := htw.out.1.commA (by have := Hxy.out; omega : 0 ≤ x + 1 ∧ x + 1 < 18446744073709551616) htw.out.2
          have hst := commit_steps 256 0 32 (psA (x + 1)) s (by decide)
          have hst2 : (commitD 256 0 32 (psA (x + 1)) s).1.steps ≤ 300000 * (i + 1) := by have := htw.out.2; omega
          clear hst
          generalize commitD 256 0 32 (psA (x + 1)) s = r5 at Ht hcom hap hst2
          have Hcom := Lib.hid hcom
          have Hap := Lib.hid hap
          have Hst2 := Lib.hid hst2
          clear hcom hap hst2 htw
          refine Ht.out.mono ?_
          rintro e we ⟨k9, rfl, hk9, hDe, hme⟩
          have HEe := Lib.hid (HEC.out.to hme)
          have nown : ∀ b, bb < b → ¬ G.own b := fun b h e => by have := (HEC.out.own b e).2; have := HEC.out.new; omega
          have hPe := HC.out.mv hme (nown _ (by have := Hpq.out; omega))
          have hQe := HO.out.mv hme (nown _ (by have := Hpq.out; omega))
          have HPe := Lib.hid hPe
          have HQe := Lib.hid hQe
          have HDe := Lib.hid hDe
          have hk2 : (k9 != 0) = !r5.2 := by rw [← hk9]; rfl
          have cP : we.cell? ⟨bp, 0, none⟩ = some (.int .u64 (x + 1)) := (hPe.cell 0).trans rfl
          have cQ : we.cell? ⟨bq, 0, none⟩ = some (.int .u64 (y)) := (hQe.cell 0).trans rfl
          clear hDe hme Ht HEC HDC HC HO nown hPe hQe
          cases hb : r5.2
          · rw [hb] at hk9 hk2
            have Hlt := Lib.hid hlt
            clear Hcom hb
            go_wp2_with fail
            go_meet
            case rel => exact ⟨_, r5.1, x, x + 1, y, y, rfl, rfl, Lib.hid (Hap.out.le (by omega)), HDe, HEe, HPe, HQe⟩
          · rw [hb] at hk9 hk2
            have Htw2 := Lib.hid (Hcom.out hb)
            clear Hcom Hap hb
            go_wp2_with fail
            go_quiet (fail)
            go_wp2_with fail
            refine ⟨⟨i + 1, r5.1, x + 1, x + 1, y, y, rfl, rfl, by go_num, by omega, by omega, Lib.hid (by have := Hxy.out; omega), Lib.hid ⟨Htw2.out, Hst2.out⟩, Lib.hid (dev_turn (dev_calm HDe.out Htw2.out.calm) Htw2.out.calm ((Mv.refl _ we).drewN nq) (fun _ _ e => e)), Lib.hid (HEe.out.none ((Mv.refl _ we).drewN nq)), Lib.hid (HPe.out.drewN nq), Lib.hid (HQe.out.drewN nq)⟩, ?_⟩
            show 30 - ((i : Int) + 1).toNat < 30 - ((i : Int)).toNat
            omega
      · have Hap := Lib.hid (htw.out.1.ap (p := p) (q := q) (t := 31) (by have := htw.out.2; omega))
        rcases Nat.lt_or_ge i n with hlt | hge
        · have h30 : ¬ (i : Int) < 30 := by omega
          go_wp2_with fail
          go_meet
          case rel => exact ⟨_, s, x, p, y, q, rfl, rfl, Hap, hdv, hen, hP, hQ⟩
        · have hnl : ¬ (i : Int) < (n : Int) := by omega
          go_wp2_with fail
          go_meet
          case rel => exact ⟨_, s, x, p, y, q, rfl, rfl, Hap, hdv, hen, hP, hQ⟩
  case rest =>
    obtain ⟨A, s, x, p, y, q, rfl, rfl, hap, hdv, hen, hP, hQ⟩ := hcut
    clear Htw6 HD7 HE7 HP7 HQ7
    have Hpw := Lib.hid (powerC wc A G 256 s a2 A3 m3 c3 ks hdv.out (Hr3.out.mvx hen.out.mv) Hw3.out Hm3.out)
    have nown : ∀ b, bb < b → ¬ G.own b := fun b h e => by have := (hen.out.own b e).2; have := hen.out.new; omega
    have Hnown := Lib.hid nown
    have Hno2 : Hid (¬ G.own ba ∧ ¬ G.own bb) := Lib.hid ⟨fun e => by have := (hen.out.own _ e).2; omega, fun e => by have := (hen.out.own _ e).2; have := hen.out.new; omega⟩
    clear nown
    go_wp2_with fail
    refine Hpw.out.mono ?_
    rintro e w8 ⟨rfl, hD8, hm8⟩
    have HEN := Lib.hid (show w.heap.size ≤ ba ∧ ba < bb from ⟨hen.out.new.1, hen.out.new.2.1⟩)
    have hBk := hap.out.bk (pw ks a2)
    have hst8 : (s.power (pw ks a2)).steps < 100000000 := by have := hap.out.steps; show s.steps < _; omega
    have hfu8 : (s.power (pw ks a2)).fuse = -1 := rfl
    have hde8 : (s.power (pw ks a2)).dead = false := rfl
    generalize s.power (pw ks a2) = s8 at hD8 hBk hst8 hfu8 hde8
    have Ho := Lib.hid (open_whole w8 G.own G 256 s8 0 32 hD8 hde8 (by decide) hBk.u (by omega) hfu8)
    have hst9 : (o1 s8).steps < 200000000 := by have := home_steps 256 0 32 s8 (by decide); show (runS (homeL s8.now 256 0 32) s8).1.steps < _; omega
    rw [show (runS (homeL s8.now 256 0 32) s8).1 = o1 s8 from rfl] at Ho
    have HBk := Lib.hid hBk
    have Hst9 := Lib.hid hst9
    have HBA8 := Lib.hid (hen.out.A.mv hm8 Hno2.out.1)
    have HBB8 := Lib.hid (hen.out.B.mv hm8 Hno2.out.2)
    have HP8 := Lib.hid (hP.out.mv hm8 (Hnown.out _ Hpq.out.1))
    have HQ8 := Lib.hid (hQ.out.mv hm8 (Hnown.out _ (Nat.lt_trans Hpq.out.1 Hpq.out.2)))
    have HM8 := Lib.hid (mv_none hen.out.mv hm8 (fun b hb e => by have := (hen.out.own b e).1; omega))
    have HoB := Lib.hid (show ∀ b, G.own b → w.heap.size ≤ b from fun b e => (hen.out.own b e).1)
    clear hBk hst8 hfu8 hde8 hst9 hD8 hm8 Hpw hap hdv hen hP hQ
    go_wp2_with fail
    refine Ho.out.mono ?_
    rintro e w9 ⟨l2, hl2, rfl, hL9, hD9, hm9⟩
    have hA9 := HBA8.out.mv hm9 Hno2.out.1
    have cA : w9.cell? ⟨ba, 0, none⟩ = some (.pointer (some ⟨la, 0, none⟩)) := (hA9.cell 0).trans rfl
    have fA := hA9.frozen 0
    have m10 : Mv (fun b => b = ba) w9 (w9.setCell ⟨ba, 0, none⟩ (.pointer (some ⟨l2, 0, none⟩))) := (Mv.refl (fun b => b = ba) w9).setCell (p := ⟨ba, 0, none⟩) (fun _ => rfl) _
    have hne : ∀ b, ba < b → ¬ b = ba := fun b h e => by omega
    have HA10 := Lib.hid (hA9.set_ 0 (.pointer (some ⟨l2, 0, none⟩)))
    have HB10 := Lib.hid ((HBB8.out.mv hm9 Hno2.out.2).mv m10 (hne _ HEN.out.2))
    have HP10 := Lib.hid ((HP8.out.mv hm9 (Hnown.out _ Hpq.out.1)).mv m10 (hne _ (by have := Hpq.out; have := HEN.out; omega)))
    have HQ10 := Lib.hid ((HQ8.out.mv hm9 (Hnown.out _ (Nat.lt_trans Hpq.out.1 Hpq.out.2))).mv m10 (hne _ (by have := Hpq.out; have := HEN.out; omega)))
    have HM10 := Lib.hid (mv_none (mv_none HM8.out hm9 (fun b hb e => by have := HoB.out b e; omega)) m10 (fun b hb e => by have := HEN.out; omega))
    have HD10 := Lib.hid (dev_turn hD9 HBk.out.c1 m10 (fun b e h => Hno2.out.1 (by rw [← h]; exact e)))
    clear hl2 hL9 hD9 hm9 hA9 m10 hne Ho HBA8 HBB8 HP8 HQ8 HM8
    go_wp2_with fail
    obtain ⟨wA, hwA⟩ : ∃ wA, wA = w9.setCell ⟨ba, 0, none⟩ (.pointer (some ⟨l2, 0, none⟩)) := ⟨_, rfl⟩
    rw [← hwA] at HA10 HB10 HP10 HQ10 HM10 HD10 ⊢
    clear hwA cA fA
    have Ho := Lib.hid (open_whole wA G.own G 256 (o1 s8) 64 32 HD10.out HBk.out.c1.2.2 (by decide) HBk.out.u1 (by have := Hst9.out; omega) HBk.out.f1)
    rw [show (runS (homeL (o1 s8).now 256 64 32) (o1 s8)).1 = o2 (o1 s8) from rfl] at Ho
    refine Ho.out.mono ?_
    rintro e w11 ⟨l3, hl3, rfl, hL11, hD11, hm11⟩
    have hB11 := HB10.out.mv hm11 Hno2.out.2
    have cB : w11.cell? ⟨bb, 0, none⟩ = some (.pointer (some ⟨lb, 0, none⟩)) := (hB11.cell 0).trans rfl
    have fB := hB11.frozen 0
    have m12 : Mv (fun b => b = bb) w11 (w11.setCell ⟨bb, 0, none⟩ (.pointer (some ⟨l3, 0, none⟩))) := (Mv.refl (fun b => b = bb) w11).setCell (p := ⟨bb, 0, none⟩) (fun _ => rfl) _
    have hA12 := (HA10.out.mv hm11 Hno2.out.1).mv m12 (fun e => by have := HEN.out; omega)
    have hB12 := hB11.set_ 0 (.pointer (some ⟨l3, 0, none⟩))
    have cA2 : (w11.setCell ⟨bb, 0, none⟩ (.pointer (some ⟨l3, 0, none⟩))).cell? ⟨ba, 0, none⟩ = some (.pointer (some ⟨l2, 0, none⟩)) := (hA12.cell 0).trans rfl
    have cB2 : (w11.setCell ⟨bb, 0, none⟩ (.pointer (some ⟨l3, 0, none⟩))).cell? ⟨bb, 0, none⟩ = some (.pointer (some ⟨l3, 0, none⟩)) := (hB12.cell 0).trans rfl
    have HP12 := Lib.hid ((HP10.out.mv hm11 (Hnown.out _ Hpq.out.1)).mv m12 (fun e => by have := Hpq.out; omega))
    have HQ12 := Lib.hid ((HQ10.out.mv hm11 (Hnown.out _ (Nat.lt_trans Hpq.out.1 Hpq.out.2))).mv m12 (fun e => by have := Hpq.out; omega))
    have HM12 := Lib.hid (mv_none (mv_none HM10.out hm11 (fun b hb e => by have := HoB.out b e; omega)) m12 (fun b hb e => by have := HEN.out; omega))
    have HD12 := Lib.hid (dev_turn hD11 HBk.out.c2 m12 (fun b e h => Hno2.out.2 (by rw [← h]; exact e)))
    have huv := HBk.out.uv
    have hd2 := HBk.out.c2.2.2
    generalize o2 (o1 s8) = s2 at HD12 huv hd2
    obtain ⟨k1, k2, k3, k4⟩ := huv
    have Hl0 := Lib.hid (load_ok _ G.own G 256 s2 130 HD12.out.1 (by decide) hd2)
    have Hl1 := Lib.hid (load_ok _ G.own G 256 s2 140 HD12.out.1 (by decide) hd2)
    have Hl2 := Lib.hid (load_ok _ G.own G 256 s2 131 HD12.out.1 (by decide) hd2)
    have Hl3 := Lib.hid (load_ok _ G.own G 256 s2 141 HD12.out.1 (by decide) hd2)
    rw [show (130 : Int).toNat = 130 from rfl] at Hl0
    rw [show (140 : Int).toNat = 140 from rfl] at Hl1
    rw [show (131 : Int).toNat = 131 from rfl, k3] at Hl2
    rw [show (141 : Int).toNat = 141 from rfl, k4] at Hl3
    generalize s2.now 130 = u at k1 Hl0 Hl2
    generalize s2.now 140 = v at k2 Hl1 Hl3
    have K1 := Lib.hid k1
    have K2 := Lib.hid k2
    have cP : (w11.setCell ⟨bb, 0, none⟩ (.pointer (some ⟨l3, 0, none⟩))).cell? ⟨bp, 0, none⟩ = some (.int .u64 p) := (HP12.out.cell 0).trans rfl
    have cQ : (w11.setCell ⟨bb, 0, none⟩ (.pointer (some ⟨l3, 0, none⟩))).cell? ⟨bq, 0, none⟩ = some (.int .u64 q) := (HQ12.out.cell 0).trans rfl
    clear hl3 hL11 hD11 hm11 hB11 m12 hA12 hB12 k1 k2 k3 k4 hd2 Ho HA10 HB10 HP10 HQ10 HM10 HD10 HP12 HQ12 Hst9 HBk HD12
    go_wp2_with fail
    obtain ⟨w12, hw12⟩ : ∃ w12, w12 = w11.setCell ⟨bb, 0, none⟩ (.pointer (some ⟨l3, 0, none⟩)) := ⟨_, rfl⟩
    rw [← hw12] at Hl0 Hl1 Hl2 Hl3 HM12 cP cQ ⊢
    clear hw12 cB fB cA2 cB2
    have Hfin := Lib.hid (awake6_any w12)
    refine Hl0.out.mono ?_
    rintro e wx ⟨rfl, hx⟩
    subst hx
    go_wp2_with fail
    refine Hl1.out.mono ?_
    rintro e wx ⟨rfl, hx⟩
    subst hx
    clear Hl0 Hl1
    by_cases hx : u = x
    · have kx : (u == x) = true := by simpa using hx
      by_cases hy : v = y
      · have ky : (v == y) = true := by simpa using hy
        clear hx hy
        go_wp2_with fail
        refine Hl2.out.mono ?_
        rintro e wx ⟨rfl, hx⟩
        subst hx
        go_wp2_with fail
        refine Hl3.out.mono ?_
        rintro e wx ⟨rfl, hx⟩
        subst hx
        go_wp2_with fail
        refine Hfin.out.mono ?_
        rintro e wz ⟨rfl, hmz⟩
        have HMz := Lib.hid (HM12.out.trans hmz)
        clear hmz
        go_wp2_with fail
        go_ret
        exact ⟨by simp, HMz.out⟩
      · have ky : (v == y) = false := by simpa using hy
        have kq : (v == q) = true := by rcases K2.out with h | h; exact absurd h hy; simpa using h
        clear hx hy
        go_wp2_with fail
        refine Hl2.out.mono ?_
        rintro e wx ⟨rfl, hx⟩
        subst hx
        go_wp2_with fail
        refine Hl3.out.mono ?_
        rintro e wx ⟨rfl, hx⟩
        subst hx
        go_wp2_with fail
        refine Hfin.out.mono ?_
        rintro e wz ⟨rfl, hmz⟩
        have HMz := Lib.hid (HM12.out.trans hmz)
        clear hmz
        go_wp2_with fail
        go_ret
        exact ⟨by simp, HMz.out⟩
    · have kx : (u == x) = false := by simpa using hx
      have kp : (u == p) = true := by rcases K1.out with h | h; exact absurd h hx; simpa using h
      by_cases hy : v = y
      · have ky : (v == y) = true := by simpa using hy
        clear hx hy
        go_wp2_with fail
        refine Hl2.out.mono ?_
        rintro e wx ⟨rfl, hx⟩
        subst hx
        go_wp2_with fail
        refine Hl3.out.mono ?_
        rintro e wx ⟨rfl, hx⟩
        subst hx
        go_wp2_with fail
        refine Hfin.out.mono ?_
        rintro e wz ⟨rfl, hmz⟩
        have HMz := Lib.hid (HM12.out.trans hmz)
        clear hmz
        go_wp2_with fail
        go_ret
        exact ⟨by simp, HMz.out⟩
      · have ky : (v == y) = false := by simpa using hy
        have kq : (v == q) = true := by rcases K2.out with h | h; exact absurd h hy; simpa using h
        clear hx hy
        go_wp2_with fail
        refine Hl2.out.mono ?_
        rintro e wx ⟨rfl, hx⟩
        subst hx
        go_wp2_with fail
        refine Hl3.out.mono ?_
        rintro e wx ⟨rfl, hx⟩
        subst hx
        go_wp2_with fail
        refine Hfin.out.mono ?_
        rintro e wz ⟨rfl, hmz⟩
        have HMz := Lib.hid (HM12.out.trans hmz)
        clear hmz
        go_wp2_with fail
        go_ret
        exact ⟨by simp, HMz.out⟩
end Go.Proofs.Ytdphillobnlpaaa
