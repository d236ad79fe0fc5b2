/- mark: the walk of From. -/
import Derived.Test.YtogdmmjonojdfaaMarkJ
import Derived.Deep.LoopGhost
namespace Go.Proofs.Ytogdmmjonojdfaa
open Go.RowKit
open Go.Maps (Keyed)
open Go.ChangeMaps
set_option linter.unusedVariables false
theorem asked_lt {w : World} {O : Nat → Prop} {a b c U : Nat} {out asked : List Nat} {x : Nat} (h : FSt w O a b c U out (asked ++ [x])) (hnd : asked.Nodup) (hx : x ∉ asked) : asked.length < U := by
  obtain ⟨m1, q1, g1, cq1, n1, co1, bd1, f1, A1, D1, k1⟩ := h
  have hn : (asked ++ [x]).Nodup := by
    rw [List.nodup_append]
    exact ⟨hnd, by simp, fun y hy z hz => by simp at hz; subst hz; exact fun e => hx (e ▸ hy)⟩
  have := pigeon U _ hn (fun y hy => (k1.lt y (k1.sk y hy)).1)
  simp at this
  omega
set_option maxHeartbeats 4000000 in
theorem from_any (F : FuncId) (cap : Array Value) (U : Nat) (I : (Nat → Prop) → World → List Nat → Prop) (ans : Nat → List Nat × Int) (hof : Of F cap U I ans) (hU : U ≤ 1000) (w : World) (P : Nat → Prop) (hI : I P w []) (roots : List Nat) (L : Option Addr) (k c0 : Nat) (hk : roots.length = k) (hk2 : k < 1000000)
    (hr : Reads w w.heap.size 1 L k (Ints .i64 roots)) (hL : ∀ ad, L = some ad → ad.block < w.heap.size) (hz : ∀ z ∈ roots, z < U) (most : Int) :
    Calls Try.prog 8 #[.slice L k c0, .func (.func F) #[] cap, .int .i64 most] w (FromPost roots ans most I P w) := by
  have hmm := @run_makeMap Try.prog
  have hmf : ∀ (fn : Fn) (first cap : Array Value) (w : World), (Instr.makeFunc fn first cap).run Try.prog w = .ok (.func fn first cap) w := fun _ _ _ _ => rfl
  have hm1 : ((w.alloc (.cells #[.slice none 0 0] 22)).alloc (.map #[] 0)).ownsMap Try.prog 3 boolR (w.heap.size + 1) 0 (.map []) := by
    have := World.ownsMap_made (w.alloc (.cells #[.slice none 0 0] 22)) Try.prog 3 boolR
    simpa using this
  have hIs : Maps.IsMap (.map [] : DataW Unit) := hm1.isMap
  have hb1 : Blk ((w.alloc (.cells #[.slice none 0 0] 22)).alloc (.map #[] 0)) w.heap.size 22 #[.slice none 0 0] := (Blk.new w _ _).alloc _
  obtain ⟨w2, hrun2, hm2, hg2⟩ := hm1.update (t := 42) (e := 4) keyedI Try.underlying42 (by unfold maxLen; omega) (key_int (a := 0) (by omega)) (val := .bool true) (plainElem_bool Try.underlying4 true)
  have hb2 := hb1.grown hg2 (by simp)
  have m2 : Mv (fun _ => False) w w2 := (((Mv.refl (fun _ => False) w).alloc _).alloc _).grown hg2 (fun g0 e h0 => by cases e; omega)
  have Hof := Lib.hid hof
  have HI := Lib.hid hI
  have Hk := Lib.hid hk
  have Hr := Lib.hid hr
  have Hz := Lib.hid hz
  have HL := Lib.hid hL
  have hsz2 : w.heap.size + 2 ≤ w2.heap.size := by have := hg2.size; simpa using this
  have Hm2 := Lib.hid hm2
  have Hb2 := Lib.hid hb2
  have M2 := Lib.hid m2
  clear hof hI hk hr hz hL hm1 hb1 hg2 hm2 hb2 m2
  go_enter Try.func8, Try.ntmps8
  obtain ⟨W, hWd⟩ : ∃ W, W = ((((w2.alloc (.cells #[.map (some (w.heap.size + 1))] 42)).alloc (.cells #[] 3)).alloc (.cells #[.slice (some ⟨w2.heap.size + 1, 0, none⟩) 0 0] 44)).alloc (.cells #[.pointer (some ⟨w2.heap.size + 1 + 1, 0, none⟩)] 43)) := ⟨_, rfl⟩
  have hWs : W.heap.size = w2.heap.size + 4 := by rw [hWd]; simp
  have mW : Mv (fun _ => False) w W := by rw [hWd]; exact (((M2.out.alloc _).alloc _).alloc _).alloc _
  have hF0 : FSt W (fun x => w.heap.size ≤ x ∧ x < W.heap.size) w2.heap.size w.heap.size (w2.heap.size + 1 + 1 + 1) U [] [] := by
    refine ⟨w.heap.size + 1, w2.heap.size + 1 + 1, w2.heap.size + 1, 0, 0, 0, 0 + 1, fun _ => 0, none, (DataW.map []).put (Lit.int .i64 0) (.lit (.bool true)), ⟨?_, ?_, ?_, ⟨?_, ?_⟩, ?_, ?_, ?_, ?_, by simp, fun i h1 h2 => by omega, by simp [rest], by simp, by simp, by simp, by omega, by omega, by omega, by omega, by omega, by omega, fun x hx => hx.2⟩⟩
    · rw [hWd]; exact (((Blk.new w2 _ _).alloc _).alloc _).alloc _
    · rw [hWd]; exact (((Hb2.out.alloc _).alloc _).alloc _).alloc _
    · rw [hWd]; exact blk_new _ _ _ (by simp)
    · rw [hWd]; exact (blk_new _ _ _ (by simp)).alloc _
    · refine ⟨#[], ?_, rfl, by omega, by unfold maxLen; omega, fun i hi => by omega⟩
      rw [hWd]; exact ((blk_new _ _ _ (by simp)).alloc _).alloc _
    · exact ⟨by simp [Ints], .inl ⟨rfl, rfl⟩⟩
    · intro x hx; cases hx
    · rw [hWd]; exact (((Hm2.out.alloc _).alloc _).alloc _).alloc _
    · have := keepN_put (D := .map []) (l := []) (z := 0) (fun q _ => by simp [DataW.atKey]) hIs (by omega)
      simpa using this
  have HF0 := Lib.hid hF0
  have MW := Lib.hid mW
  have HWd := Lib.hid hWd
  have HWs := Lib.hid hWs
  clear hF0 mW hWs hWd
  have Hroots : Hid (∀ ad, L = some ad → ¬ (w.heap.size ≤ ad.block ∧ ad.block < W.heap.size)) := Lib.hid (fun ad e h => by have := HL.out ad e; omega)
  obtain ⟨a, ha⟩ : ∃ a, a = w2.heap.size := ⟨_, rfl⟩
  obtain ⟨b, hb⟩ : ∃ b, b = w.heap.size := ⟨_, rfl⟩
  obtain ⟨c, hc⟩ : ∃ c, c = w2.heap.size + 1 + 1 + 1 := ⟨_, rfl⟩
  have Ha := Lib.hid ha
  have Hb := Lib.hid hb
  have Hc := Lib.hid hc
  clear ha hb hc
  go_wp2_with (first
    | (go_at_call 20; go_loud (rw [← HWd.out]); go_loud (refine (enter_any W _ _ _ _ U [] [] HF0.out hU L k c0 roots Hk.out hk2 (Hr.out.mvx MW.out) Hroots.out Hz.out).mono ?_; rintro e w3 ⟨rfl, O3, hF3, hM3, hO3⟩); go_loud (rw [← Hc.out, ← Ha.out, ← Hb.out]; rw [← Hc.out, ← Ha.out, ← Hb.out] at hF3))
    | fail)
  have hI3 : I P w3 [] := Hof.out.keep _ _ _ _ _ (Hof.out.keep _ _ _ _ _ HI.out MW.out (fun _ e => e.elim)) hM3 (fun x hx hp => by have := Hof.out.low _ _ _ HI.out x hp; omega)
  have hlo : ∀ x, O3 x → w.heap.size ≤ x := fun x hx => by
    rcases hO3 x hx with h1 | h1
    · exact h1.1
    · have := MW.out.size; omega
  have hm03 : Mv P w w3 := (MW.out.mono (S' := P) (fun _ _ e => e.elim)).trans' hM3 (fun x hx e => by omega)
  have HF3 := Lib.hid hF3
  have HI3 := Lib.hid hI3
  have Hlo := Lib.hid hlo
  have Hm03 := Lib.hid hm03
  have HPl := Lib.hid (Hof.out.low _ _ _ HI.out)
  clear hF3 hM3 hO3 hI3 hlo hm03 HF0 Hroots HI Hm2 Hb2 M2 HWd hrun2 hsz2
  go_loopg [12] (U + 1) (fun gn _ wr => ∃ (out asked : List Nat) (P' O' : Nat → Prop), Hid (FSt wr O' a b c U out asked) ∧ Hid (I P' wr asked) ∧ Hid (Fr roots ans most out asked) ∧ Hid (∀ x, O' x → w.heap.size ≤ x ∧ ¬ P' x) ∧ Hid (∀ x, P' x → P x ∨ w.heap.size ≤ x) ∧ Hid (Mv P w wr) ∧ Hid (asked.Nodup ∧ asked.length + gn = U + 1))
  case atStart => exact ⟨_, [], P, O3, HF3, HI3, Lib.hid .start, Lib.hid (fun x hx => ⟨Hlo.out x hx, fun hp => by have := HPl.out x hp; have := Hlo.out x hx; omega⟩), Lib.hid (fun x hx => .inl hx), Hm03, Lib.hid ⟨List.nodup_nil, by simp⟩⟩
  case round =>
    obtain ⟨out, asked, P', O', hF, hI, hfr, hlo, hP, hM, hcnt⟩ := hrel
    obtain ⟨m, q, g, cq, n, co, bd, f, A, D, hFS⟩ := hF.out
    have cc : wr.cell? ⟨c, 0, none⟩ = some (.pointer (some ⟨q, 0, none⟩)) := (hFS.bc.cell 0).trans rfl
    have cq1 : wr.cell? ⟨q, 0, none⟩ = some (.slice (some ⟨g, 0, none⟩) n cq) := (hFS.qs.cell.cell 0).trans rfl
    have cb : wr.cell? ⟨b, 0, none⟩ = some (.slice A out.length co) := (hFS.bb.cell 0).trans rfl
    have houtU := hFS.outU
    have hnU := hFS.nU
    have HF := Lib.hid hFS
    have Hhp := Lib.hid hFS.hp
    clear hFS
    rcases Nat.eq_zero_or_pos n with hn | hn
    · subst hn
      have Hrow := Lib.hid HF.out.row
      go_wp2_with (first
        | (go_at_call 22; refine (qlen _ _ _ _).mono ?_; rintro e w5 ⟨rfl, rfl⟩)
        | (go_at_call 24; refine (sort_row _ A out co Hrow.out (by omega)).mono ?_; rintro e w6 ⟨rfl, hr6, hm6⟩; have hB6 := HF.out.bb.mv hm6 (fun e => own_blk_ne HF.out.row HF.out.bb (by decide) e); have cb6 := (hB6.cell 0).trans (show _ = some (Value.slice A out.length co) from rfl))
        | (go_at_call 25; refine (clip_any A out.length co _ (cons_row hr6).1 (cons_row hr6).2).mono ?_; rintro e w7 ⟨rfl, rfl⟩)
        | fail)
      go_ret2
      have hrest : rest out asked = [] := by
        have := (show ((List.range 0).map f).Perm (rest out asked) from HF.out.pm).length_eq
        exact List.eq_nil_of_length_eq_zero (by simpa using this.symm)
      have hall : ∀ x ∈ out, x ∈ asked := fun x hx => by
        apply Classical.byContradiction
        intro hn
        have : (x : Int) ∈ rest out asked := rest_mem.2 ⟨x, rfl, hx, hn⟩
        rw [hrest] at this
        cases this
      have hsl : (sorted out).length = out.length := (sorted_perm out).length_eq
      have hO : ∀ x, (Value.slice A out.length co).ownBlock = some x → O' x := fun x hx => (HF.out.ne x hx).2
      exact ⟨out, asked, P', Hof.out.keep _ _ _ _ _ hI.out hm6 (fun x hx => (hlo.out x (hO x hx)).2), hM.out.trans' hm6 (fun x hx e => absurd (hlo.out x (hO x e)).1 (Nat.not_le.2 hx)), hP.out, .inl ⟨hfr.out, hall, A, sorted out, sorted_perm out, sorted_le out, by rw [hsl]; simp, by rw [hsl]; exact Reads.of_own hr6, fun ad e => (hlo.out _ (hO ad.block (by rw [e]; rfl))).1⟩⟩
    · obtain ⟨n', rfl⟩ : ∃ n', n = n' + 1 := ⟨n - 1, by omega⟩
      by_cases hmost : most < (out.length : Int)
      · go_wp2_with (first
          | (go_at_call 22; refine (qlen _ _ _ _).mono ?_; rintro e w5 ⟨rfl, rfl⟩)
          | fail)
        go_ret2
        have hmem : f 0 ∈ rest out asked := (show ((List.range (n' + 1)).map f).Perm (rest out asked) from HF.out.pm).mem_iff.1 (List.mem_map.2 ⟨0, by simp, rfl⟩)
        obtain ⟨x, -, hx, hxa⟩ := rest_mem.1 hmem
        exact ⟨out, asked, P', hI.out, hM.out, hP.out, .inr (.inl ⟨hfr.out, ⟨x, hx, hxa⟩, hmost, by simp⟩)⟩
      · have hent := Hof.out.enters
        have Hmost := Lib.hid hmost
        clear hmost
        have hlen : ¬ ((out.length : Int) > most) := by have := Hmost.out; omega
        go_wp2_with (first
          | (go_at_call 22; refine (qlen _ _ _ _).mono ?_; rintro e w5 ⟨rfl, rfl⟩)
          | (go_at_call 23; refine (heap_pop _ q g cq n' f HF.out.qs (by omega) Hhp.out).mono ?_; rintro e w5 ⟨rfl, f5, hq5, hp5, hh5, hm5⟩; obtain ⟨x, hx0, hxo, hxa, hxm, hF5, hM5⟩ := HF.out.pop hq5 hp5 hh5 hm5; have hta := assert_int (.int .i64 (x : Int)) w5; rw [hx0]; clear hq5 hp5 hh5 hm5; have hI5 := Hof.out.keep _ _ _ _ _ hI.out hM5 (fun y hy => (hlo.out y hy).2); have hxU := HF.out.lt x hxo; have HF5 := Lib.hid hF5; have HI5 := Lib.hid hI5; have HxU := Lib.hid hxU; have Hxm := Lib.hid hxm; have HM5 := Lib.hid hM5; have Hxa := Lib.hid hxa; have Hxo := Lib.hid hxo; clear hF5 hI5 hxU hxm hM5 hxa hxo hx0)
          | (refine (Hof.out.asks P' w5 asked x HI5.out (asked_lt HF5.out hcnt.out.1 Hxa.out) HxU.out.1 HxU.out.2).mono ?_; rintro e w6 ⟨L6, cp6, rfl, hr6, hL6, P6, hI6, hM6, hP6⟩; have HF6 := Lib.hid (HF5.out.mv hM6 (fun y hy ho => (hlo.out y ho).2 hy)); have Hr6 := Lib.hid hr6; have HI6 := Lib.hid hI6; have HM6 := Lib.hid hM6; have HP6 := Lib.hid hP6; have HL6 := Lib.hid (show ∀ ad, L6 = some ad → ¬ O' ad.block from fun ad e ho => by rcases hL6 ad e with h1 | h1; exact (hlo.out _ ho).2 h1; have := HF5.out.low_ _ ho; omega); clear hr6 hI6 hM6 hP6 hL6)
          | (go_at_call 20; go_loud (refine (enter_any w6 O' a b c U out (asked ++ [x]) HF6.out hU L6 _ cp6 (ans x).1 rfl (Hof.out.small x HxU.out.1).1 Hr6.out HL6.out (Hof.out.small x HxU.out.1).2).mono ?_; rintro e w7 ⟨rfl, O7, hF7, hM7, hO7⟩))
          | fail)
        · skip
          rename_i hne
          have hs1 := hM.out.size
          have hs2 := HM5.out.size
          have hs3 := HM6.out.size
          have hm6 : Mv P w w6 := (hM.out.trans' HM5.out (fun y hy e => absurd (hlo.out y e).1 (Nat.not_le.2 hy))).trans' HM6.out (fun y hy e => by
            rcases hP.out y e with h1 | h1
            · exact h1
            · omega)
          have hP6' : ∀ y, P6 y → P y ∨ w.heap.size ≤ y := fun y hy => by
            rcases HP6.out y hy with h1 | h1
            · exact hP.out y h1
            · exact .inr (by omega)
          go_ret2
          exact ⟨out, asked ++ [x], P6, HI6.out, hm6, hP6', .inr (.inr ⟨asked, x, rfl, hfr.out, Hxo.out, Hxa.out, Hxm.out, by have := Hmost.out; omega, by simpa using hne, by simp⟩)⟩
        · skip
          rename_i hne
          have hs1 := hM.out.size
          have hs2 := HM5.out.size
          have hs3 := HM6.out.size
          have hm6 : Mv P w w6 := (hM.out.trans' HM5.out (fun y hy e => absurd (hlo.out y e).1 (Nat.not_le.2 hy))).trans' HM6.out (fun y hy e => by
            rcases hP.out y e with h1 | h1
            · exact h1
            · omega)
          have hP6' : ∀ y, P6 y → P y ∨ w.heap.size ≤ y := fun y hy => by
            rcases HP6.out y hy with h1 | h1
            · exact hP.out y h1
            · exact .inr (by omega)
          have hnd : (asked ++ [x]).Nodup := by
            rw [List.nodup_append]
            exact ⟨hcnt.out.1, by simp, fun y hy z hz => by simp at hz; subst hz; exact fun e => Hxa.out (e ▸ hy)⟩
          have hcap : (asked ++ [x]).length ≤ U := by
            obtain ⟨m1, q1, g1, cq1, n1, co1, bd1, f1, A1, D1, k1⟩ := HF5.out
            exact pigeon U _ hnd (fun y hy => (k1.lt y (k1.sk y hy)).1)
          have hcap2 : asked.length + 1 ≤ U := by simpa using hcap
          have hcn := hcnt.out.2
          have hOP : ∀ y, O' y → ¬ P6 y := fun y hy hp => by
            rcases HP6.out y hp with h1 | h1
            · exact (hlo.out y hy).2 h1
            · have := HF5.out.low_ y hy; omega
          go_roundg (gk - 1)
          case measure => omega
          case rel =>
            refine ⟨_, asked ++ [x], P6, O7, Lib.hid hF7, Lib.hid (Hof.out.keep _ _ _ _ _ HI6.out hM7 hOP), Lib.hid (.step hfr.out Hxo.out Hxa.out Hxm.out (by have := Hmost.out; omega) (by simpa using hne)), Lib.hid (fun y hy => ?_), Lib.hid hP6', Lib.hid (hm6.trans' hM7 (fun y hy e => absurd (hlo.out y e).1 (Nat.not_le.2 hy))), Lib.hid ⟨hnd, by simp; omega⟩⟩
            rcases hO7 y hy with h1 | h1
            · exact ⟨(hlo.out y h1).1, hOP y h1⟩
            · exact ⟨by omega, fun hp => by have := Hof.out.low _ _ _ HI6.out y hp; omega⟩
end Go.Proofs.Ytogdmmjonojdfaa
