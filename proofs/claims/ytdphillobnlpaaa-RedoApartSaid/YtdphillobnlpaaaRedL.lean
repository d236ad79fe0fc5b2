/- redo: settle. -/
import Derived.Test.YtdphillobnlpaaaRedK
namespace Go.Proofs.Ytdphillobnlpaaa
open Go.RowKit
set_option linter.unusedVariables false
theorem one_burn {A : Nat → Prop} {G : Dv} {n : Nat} {x : St} {s : DS} {v : Value} {w w' : World} {e : Ending} (hf : s.fuse = 0) (h : RP A G n (runS [x] s) v w e w') : e = .panicked [{ v := lostV, recovered := false }] ∧ DevA w' A G n s.kill := by
  obtain ⟨h1, h2⟩ := h
  rw [runS_burn hf] at h1 h2
  rcases h1 with ⟨h1, _⟩ | ⟨_, h1⟩
  · cases h1
  · exact ⟨h1, h2⟩
theorem one_go {A : Nat → Prop} {G : Dv} {n : Nat} {x : St} {s : DS} {v : Value} {w w' : World} {e : Ending} (hf : s.fuse ≠ 0) (h : RP A G n (runS [x] s) v w e w') : e = .returned v ∧ DevA w' A G n (x.on s) := by
  obtain ⟨h1, h2⟩ := h
  rw [runS_go hf] at h1 h2
  rcases h1 with ⟨_, h1⟩ | ⟨h1, _⟩
  · exact ⟨h1, h2⟩
  · cases h1
def setL : Int → List Nat → List St
  | _, [] => [.fence]
  | last, i :: r => if ((i / 8 : Nat) : Int) = last then setL last r else .flush i :: setL ((i / 8 : Nat) : Int) r
theorem setL_len : ∀ (l : List Nat) (last : Int), (setL last l).length ≤ l.length + 1
  | [], _ => by simp [setL]
  | i :: r, last => by
    unfold setL
    split
    · have := setL_len r last; simp; omega
    · have := setL_len r ((i / 8 : Nat) : Int); rw [List.length_cons, List.length_cons]; omega
theorem own_base {w : World} {B B' : Nat} {e : TypeId} {v : Value} {n : Nat} {xs : List Value} (h : w.ownsRow B e 1 v n xs) (hB : B' ≤ B) : w.ownsRow B' e 1 v n xs := by
  refine ⟨h.1, ?_⟩
  rcases h.2 with h1 | ⟨g, cap, cur, e1, e2, e3⟩
  · exact .inl h1
  · exact .inr ⟨g, cap, cur, e1, Nat.le_trans hB e2, e3⟩
theorem own_lt {w : World} {B : Nat} {e : TypeId} {v : Value} {n : Nat} {xs : List Value} (h : w.ownsRow B e 1 v n xs) {x : Nat} (hx : v.ownBlock = some x) : B ≤ x ∧ x < w.heap.size := by
  rcases h.2 with ⟨rfl, _⟩ | ⟨g, cap, cur, rfl, e2, e3, _⟩
  · cases hx
  · cases hx
    refine ⟨e2, ?_⟩
    rcases Nat.lt_or_ge g w.heap.size with h | h
    · exact h
    · rw [Array.getElem?_eq_none h] at e3; cases e3
theorem sorted_mem {l : List Nat} {x : Nat} : x ∈ sorted l ↔ x ∈ l := (sorted_perm l).mem_iff
theorem sorted_len (l : List Nat) : (sorted l).length = l.length := (sorted_perm l).length_eq
/-- A row's block turns, or the device's. -/
def Rw (G : Dv) (v : Value) (x : Nat) : Prop := G.own x ∨ v.ownBlock = some x
set_option maxRecDepth 100000 in
set_option maxHeartbeats 4000000 in
theorem settle_any (w : World) (A : Nat → Prop) (G : Dv) (n : Nat) (s : DS) (lg at_ words B : Nat) (A1 : Option Addr) (k c : Nat) (zs : List Nat) (hD : DevA w A G n s) (hd : s.dead = false) (hl : Lg w lg G at_ words) (hlo : ¬ G.own lg)
    (hk : zs.length = k) (hrow : w.ownsRow B 3 1 (.slice A1 k c) k (Ints .i64 zs)) (hA : ∀ x, (Value.slice A1 k c).ownBlock = some x → A x ∧ ¬ G.own x) (hk1 : k < 100000) (hz : ∀ z ∈ zs, z < n) (hs : s.steps + k < 900000000) :
    Calls Try.prog 41 #[.pointer (some ⟨lg, 0, none⟩), .slice A1 k c] w fun e w' => RP A G n (runS (setL (-1) (sorted zs)) s) (.tuple #[]) w e w' ∧ Mv (Rw G (.slice A1 k c)) w w' := by
  have hn6 : n ≤ 65536 := hD.1.2.2.2.2.2.1.2.1
  subst hk
  have hsort := sort_row w A1 zs c (own_base hrow (Nat.zero_le _)) (by omega)
  have Hsort := Lib.hid hsort
  have HD := Lib.hid hD
  have Hd := Lib.hid hd
  have Hl := Lib.hid hl
  have Hlo := Lib.hid hlo
  have HA := Lib.hid hA
  have Hz := Lib.hid (show ∀ z ∈ sorted zs, z < n from fun z hz' => hz z (sorted_mem.1 hz'))
  have Hs := Lib.hid hs
  have Hlr := Lib.hid (own_blk_ne hrow hl (by decide))
  have hsl := Lib.hid (sorted_len zs)
  clear hD hd hl hlo hrow hA hz hs hsort
  generalize zs.length = k at hk1 hsl Hs HA Hlr Hsort ⊢
  generalize sorted zs = ys at hsl Hz Hsort ⊢
  go_enter Try.func41, Try.ntmps41
  go_wp2_with (first
    | (go_at_call 50; refine Hsort.out.mono ?_; rintro e w2 ⟨rfl, h1, h2⟩; have H1 := Lib.hid h1; have H2 := Lib.hid h2; clear h1 h2)
    | fail)
  have HD2 := Lib.hid (HD.out.keep H2.out (fun b e _ => (HA.out b e).1) (fun b e e' => (HA.out b e').2 e))
  have Hl2 := Lib.hid (Blk.mv Hl.out H2.out (fun e => Hlr.out e))
  clear HD Hsort
  go_loopw [4, 12] (fun v4 v12 wr => ∃ (last : Int) (i : Nat) (cur : DS), v4 = .int .i64 last ∧ v12 = .int .i64 (i : Int) ∧ i ≤ k ∧ Hid (DevA wr A G n cur) ∧ Hid (cur.dead = false) ∧ Hid (runS (setL (-1) ys) s = runS (setL last (ys.drop i)) cur) ∧ Hid (cur.steps ≤ s.steps + i) ∧ Hid (Mv G.own w2 wr))
    (fun _ v12 _ => k - (intOf v12).toNat)
  case atStart => exact ⟨-1, 0, s, rfl, rfl, Nat.zero_le _, HD2, Hd, Lib.hid (by simp), Lib.hid (by simp), Lib.hid (Mv.refl _ _)⟩
  case round =>
    obtain ⟨last, i, cur, rfl, rfl, hi, hD, hdd, hrun, hst, hm⟩ := hrel
    have Hlw := Lib.hid (Blk.mv Hl2.out hm.out Hlo.out)
    have c0 := Lg.c0 Hlw.out
    rcases Nat.lt_or_ge i k with hlt | hge
    · have hlx : i < ys.length := by rw [hsl.out]; exact hlt
      obtain ⟨ad, u, hA1, hadb, hu, hcl⟩ := (Reads.of_own H1.out).at_ hlt
      have hnown : ¬ G.own ad.block := by
        have := HA.out ad.block (by rw [hA1]; rfl)
        exact this.2
      subst hA1
      have hu' : u = .int .i64 ((ys[i] : Nat) : Int) := by simpa [Ints, hlx] using hu.symm
      subst hu'
      have hc1 := (mv_cell hm.out (p := ad.add i) (by rw [block_of_add]; exact hadb) (by rw [block_of_add]; exact hnown)).trans hcl
      have hdr := Lib.hid (List.drop_eq_getElem_cons hlx)
      have hzn := Hz.out ys[i] (List.getElem_mem hlx)
      generalize ys[i] = z at hc1 hdr hzn
      obtain ⟨z8, hz8⟩ : ∃ z8, z8 = z / 8 := ⟨_, rfl⟩
      have ez : (z : Int) / 8 = (z8 : Int) := by omega
      have hwq : (z : Int).tdiv 8 = (z8 : Int) := by rw [Int.tdiv_eq_ediv_of_nonneg (by omega)]; exact ez
      have hwi : IntKind.i64.wrap ((i : Int) + 1) = (i : Int) + 1 := IntWalk.i64_in _ (by omega)
      have Hz8 := Lib.hid hz8
      clear hz8 hcl hu hlx
      by_cases e : (z8 : Int) = last
      · have hb : ((z8 : Int) != last) = false := by simp [e]
        have He := Lib.hid e
        clear e
        go_wp2_with fail
        refine ⟨⟨last, i + 1, cur, rfl, by go_num, by omega, hD, hdd, Lib.hid ?_, Lib.hid (by have := hst.out; omega), hm⟩, ?_⟩
        · rw [hrun.out, hdr.out]
          conv => lhs; rw [setL, if_pos (by rw [← Hz8.out]; exact He.out)]
        · show k - ((i : Int) + 1).toNat < k - ((i : Int)).toNat
          omega
      · have hb : ((z8 : Int) != last) = true := by simp [e]
        have Hrun2 : Hid (runS (setL (-1) ys) s = runS (.flush z :: setL (z8 : Int) (ys.drop (i + 1))) cur) := by
          rw [hrun.out, hdr.out]
          show runS (setL last (z :: ys.drop (i + 1))) cur = _
          conv => lhs; rw [setL, if_neg (by rw [← Hz8.out]; exact e)]
          rw [← Hz8.out]
        have Hfl := Lib.hid (flushR wr A G n cur z hD.out hdd.out (by have := hst.out; have := Hs.out; omega) hzn)
        clear e
        by_cases hf : cur.fuse = 0
        · have Hf := Lib.hid hf
          clear hf
          go_wp2_with (first
            | (go_at_call 11; refine Hfl.out.mono ?_; rintro e w4 ⟨h3, h5⟩; obtain ⟨rfl, h4⟩ := one_burn Hf.out h3; have H4 := Lib.hid h4; have H5 := Lib.hid h5; clear h3 h4 h5)
            | fail)
          simp only [bodyPost]
          refine ⟨trivial, ⟨?_, ?_⟩, ?_⟩
          · rw [Hrun2.out, runS_burn Hf.out]
            exact .inr ⟨rfl, rfl⟩
          · rw [Hrun2.out, runS_burn Hf.out]
            exact H4.out
          · exact ((H2.out.mono (fun _ _ e => .inr e)).trans' hm.out (fun _ _ e => .inl e)).trans' H5.out (fun _ _ e => .inl e)
        · have Hf := Lib.hid hf
          clear hf
          go_wp2_with (first
            | (go_at_call 11; refine Hfl.out.mono ?_; rintro e w4 ⟨h3, h5⟩; obtain ⟨rfl, h4⟩ := one_go Hf.out h3; have H4 := Lib.hid h4; have H5 := Lib.hid h5; clear h3 h4 h5)
            | fail)
          refine ⟨⟨(z8 : Int), i + 1, St.on (.flush z) cur, rfl, by go_num, by omega, H4, Lib.hid (by rw [St.on_dead]; exact hdd.out), Lib.hid (by rw [Hrun2.out, runS_go Hf.out]), Lib.hid (by rw [St.on_steps]; have := hst.out; omega), Lib.hid (hm.out.trans H5.out)⟩, ?_⟩
          show k - ((i : Int) + 1).toNat < k - ((i : Int)).toNat
          omega
    · have Hrun2 : Hid (runS (setL (-1) ys) s = runS [.fence] cur) := by
        rw [hrun.out, List.drop_of_length_le (by rw [hsl.out]; exact hge)]
        exact Lib.hid rfl
      have Hfe := Lib.hid (fenceR wr A G n cur hD.out hdd.out (by have := hst.out; have := Hs.out; omega))
      by_cases hf : cur.fuse = 0
      · have Hf := Lib.hid hf
        clear hf
        go_wp2_with (first
          | (go_at_call 12; refine Hfe.out.mono ?_; rintro e w4 ⟨h3, h5⟩; obtain ⟨rfl, h4⟩ := one_burn Hf.out h3; have H4 := Lib.hid h4; have H5 := Lib.hid h5; clear h3 h4 h5)
          | fail)
        simp only [bodyPost]
        refine ⟨trivial, ⟨?_, ?_⟩, ?_⟩
        · rw [Hrun2.out, runS_burn Hf.out]
          exact .inr ⟨rfl, rfl⟩
        · rw [Hrun2.out, runS_burn Hf.out]
          exact H4.out
        · exact ((H2.out.mono (fun _ _ e => .inr e)).trans' hm.out (fun _ _ e => .inl e)).trans' H5.out (fun _ _ e => .inl e)
      · have Hf := Lib.hid hf
        clear hf
        go_wp2_with (first
          | (go_at_call 12; refine Hfe.out.mono ?_; rintro e w4 ⟨h3, h5⟩; obtain ⟨rfl, h4⟩ := one_go Hf.out h3; have H4 := Lib.hid h4; have H5 := Lib.hid h5; clear h3 h4 h5)
          | fail)
        go_end0
        refine ⟨⟨?_, ?_⟩, ?_⟩
        · rw [Hrun2.out, runS_go Hf.out]
          exact .inl ⟨rfl, rfl⟩
        · rw [Hrun2.out, runS_go Hf.out]
          exact H4.out
        · exact ((H2.out.mono (fun _ _ e => .inr e)).trans' hm.out (fun _ _ e => .inl e)).trans' H5.out (fun _ _ e => .inl e)
end Go.Proofs.Ytdphillobnlpaaa
