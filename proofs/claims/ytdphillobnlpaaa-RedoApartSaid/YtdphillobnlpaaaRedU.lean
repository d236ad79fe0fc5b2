/- redo: Commit. -/
import Derived.Test.YtdphillobnlpaaaRedT
namespace Go.Proofs.Ytdphillobnlpaaa
open Go.RowKit
set_option linter.unusedVariables false
attribute [local go_sem] Oper.semAt_some
theorem WR.le {w : World} {B B' : Nat} {A : Option Addr} {ps : List (Int × Int)} (h : WR w B A ps) (hB : B ≤ B') : WR w B' A ps := fun i hi => by
  obtain ⟨ad, e, h1, h2, h3⟩ := h i hi
  exact ⟨ad, e, Nat.lt_of_lt_of_le h1 hB, h2, h3⟩
def preL (at_ : Nat) (kp : List (Int × Int)) : List St := putL at_ 0 kp ++ (setL (-1) (sorted (places at_ kp.length)) ++ sealL at_ kp.length)
def commitR (n at_ words : Nat) (kp : List (Int × Int)) (s : DS) : DS × Bool :=
  if kp = [] then (s, true) else if (runS (preL at_ kp) s).2 = true then runS (homeL (runS (preL at_ kp) s).1.now n at_ words) (runS (preL at_ kp) s).1 else runS (preL at_ kp) s
def commitV (n at_ words : Nat) (ps : List (Int × Int)) : Int := if (ps.any fun p => badB n at_ words p.1) = true then 1 else if (words - 16) / 2 < ps.length then 5 else 0
def commitD (n at_ words : Nat) (ps : List (Int × Int)) (s : DS) : DS × Bool := if commitV n at_ words ps = 0 then commitR n at_ words (kpW ps.reverse) s else (s, true)
set_option maxRecDepth 100000 in
theorem back_any (A0 : Option Addr) (k c0 : Nat) (w : World) : Calls Try.prog 39 #[.slice A0 k c0] w fun e w' => e = .returned (.func (.func 49) #[] #[.pointer (some ⟨w.heap.size, 0, none⟩)]) ∧ w' = w.alloc (.cells #[.slice A0 k c0] 30) := by
  go_enter Try.func39, Try.ntmps39
  go_wp2
  go_ret
  exact ⟨rfl, rfl⟩
/-- Where the slice's box lies, and the row of the writes. -/
def RB (Bs : Nat) (A0 : Option Addr) (k : Nat) (b : Nat) : Prop := b = Bs ∨ (0 < k ∧ ∃ ad, A0 = some ad ∧ b = ad.block)
theorem commitD_no {n at_ words : Nat} {ps : List (Int × Int)} {s : DS} (h : commitV n at_ words ps ≠ 0) : commitD n at_ words ps s = (s, true) := if_neg h
set_option maxRecDepth 100000 in
set_option maxHeartbeats 4000000 in
theorem commit_any (w : World) (A : Nat → Prop) (G : Dv) (n : Nat) (s : DS) (lg at_ words : Nat) (A0 : Option Addr) (c0 : Nat) (ps : List (Int × Int)) (k : Nat) (hk : ps.length = k) (hk1 : k ≤ 1000000) (hD : DevA w A G n s) (hd : s.dead = false) (hl : Lg w lg G at_ words) (hlo : ¬ G.own lg)
    (hw : 16 ≤ words ∧ at_ + words ≤ n) (hv : ∀ j, j < n → 0 ≤ s.now j ∧ s.now j < 18446744073709551616) (hs : s.steps < 600000000) (hr : WR w w.heap.size A0 ps) (hA0 : ∀ ad, A0 = some ad → ¬ G.own ad.block) (hz : ∀ p ∈ ps, 0 ≤ p.2 ∧ p.2 < 18446744073709551616) :
    Calls Try.prog 13 #[.pointer (some ⟨lg, 0, none⟩), .slice A0 k c0] w fun e w' => RP A G n (commitD n at_ words ps s) (.int .i64 (commitV n at_ words ps)) w e w' ∧ Mv G.own w w' := by
  have hn6 : n ≤ 65536 := hD.1.2.2.2.2.2.1.2.1
  have Hr := Lib.hid hr
  have HD := Lib.hid hD
  have Hl := Lib.hid hl
  have Hw := Lib.hid hw
  have Hd := Lib.hid hd
  have Hlo := Lib.hid hlo
  have Hv := Lib.hid hv
  have Hs := Lib.hid hs
  have HA0 := Lib.hid hA0
  have Hz := Lib.hid hz
  have Hk := Lib.hid hk
  clear hk hr hD hl hw hd hlo hv hs hA0 hz
  refine calls_marks (n := 5) Try.func13 rfl ?_
  simp only [Try.ntmps13, List.size_toArray, List.length_cons, List.length_nil, Nat.reduceAdd, Nat.reduceSub, Array.replicate_succ, Array.replicate_zero, List.push_toArray, List.append_toArray, List.nil_append, List.cons_append]
  refine wpK_seq (wpK_wp ?_)
  go_wp2_with fail
  obtain ⟨w1, hw1⟩ : ∃ w1, w1 = w.alloc (.cells #[.pointer (some ⟨lg, 0, none⟩)] 24) := ⟨_, rfl⟩
  rw [← hw1]
  have Hb1 := Lib.hid (show Blk w1 w.heap.size 24 #[.pointer (some ⟨lg, 0, none⟩)] by rw [hw1]; exact blk_new w _ _ rfl)
  have Hm1 := Lib.hid (show Mv (fun _ => False) w w1 by rw [hw1]; exact (Mv.refl _ w).alloc _)
  have Hs1 : Hid (w1.heap.size = w.heap.size + 1) := Lib.hid (by rw [hw1]; simp)
  clear hw1
  have Hl1 := Lib.hid (Blk.mv Hl.out Hm1.out (fun e => e))
  have Hc := Lib.hid (contains_any w1 A G n s lg at_ words w.heap.size A0 c0 ps k Hk.out hk1 ((Hr.out.mv (Nat.le_refl _) Hm1.out (fun _ _ e => e)).le (by rw [Hs1.out]; omega)) (HD.out.keep Hm1.out (fun _ e => e.elim) (fun _ _ e => e)) Hl1.out Hb1.out ⟨by have := Hw.out; omega, by have := Hw.out; omega⟩)
  refine wpK_seq (wpK_wp ?_)
  by_cases hany : (ps.any fun p => badB n at_ words p.1) = true
  · have HV := Lib.hid (show commitV n at_ words ps = 1 by unfold commitV; rw [if_pos hany])
    rw [hany] at Hc
    clear hany
    go_wp2_with fail
    refine Hc.out.mono ?_
    rintro e w2 ⟨rfl, h2⟩
    have M2 := Lib.hid (Hm1.out.trans h2)
    clear h2
    go_wp2_with fail
    refine ⟨_, results_tmp rfl _ _ _, ⟨⟨.inl ⟨?_, ?_⟩, ?_⟩, ?_⟩⟩
    · rw [commitD_no (by rw [HV.out]; decide)]
    · rw [HV.out]; rfl
    · rw [commitD_no (by rw [HV.out]; decide)]
      exact HD.out.keep M2.out (fun _ e => e.elim) (fun _ _ e => e)
    · exact M2.out.mono (fun _ _ e => e.elim)
  have hno : (ps.any fun p => badB n at_ words p.1) = false := by simpa using hany
  have Hno := Lib.hid hno
  rw [hno] at Hc
  clear hany hno
  go_wp2_with fail
  refine Hc.out.mono ?_
  rintro e w2 ⟨rfl, h2⟩
  have M2 := Lib.hid (Hm1.out.trans h2)
  have Hb2 := Lib.hid (Hb1.out.mv h2 (fun e => e))
  clear h2 Hc Hl1
  have Hl2 := Lib.hid (Blk.mv Hl.out M2.out (fun e => e))
  have Hms := Lib.hid (most_any Hl2.out ⟨Hw.out.1, by have := Hw.out; omega⟩)
  have cb2 := Hb2.out.cell 0
  simp only [List.getElem?_toArray, List.getElem?_cons_zero] at cb2
  obtain ⟨mo, hmo⟩ : ∃ mo, (words - 16) / 2 = mo := ⟨_, rfl⟩
  rw [hmo] at Hms
  by_cases hbig : mo < k
  · have bb : decide (mo < k) = true := by simp; exact hbig
    have HV := Lib.hid (show commitV n at_ words ps = 5 by unfold commitV; rw [Hno.out, Hk.out, hmo, if_neg (by decide), if_pos hbig])
    clear hbig
    go_wp2_with fail
    refine wpK_seq (wpK_wp ?_)
    go_wp2_with (first
      | (go_at_call 22; refine Hms.out.mono ?_; rintro e w3 ⟨rfl, rfl⟩)
      | fail)
    refine ⟨_, results_tmp rfl _ _ _, ⟨⟨.inl ⟨?_, ?_⟩, ?_⟩, ?_⟩⟩
    · rw [commitD_no (by rw [HV.out]; decide)]
    · rw [HV.out]; rfl
    · rw [commitD_no (by rw [HV.out]; decide)]
      exact HD.out.keep M2.out (fun _ e => e.elim) (fun _ _ e => e)
    · exact M2.out.mono (fun _ _ e => e.elim)
  have bb : decide (mo < k) = false := by simp; omega
  have HV := Lib.hid (show commitV n at_ words ps = 0 by unfold commitV; rw [Hno.out, Hk.out, hmo, if_neg (by decide), if_neg hbig])
  have Hkm := Lib.hid (show k ≤ (words - 16) / 2 by omega)
  clear hbig hmo
  go_wp2_with fail
  refine wpK_seq (wpK_wp ?_)
  go_wp2_with (first
    | (go_at_call 22; refine Hms.out.mono ?_; rintro e w3 ⟨rfl, rfl⟩)
    | fail)
  have hmm := @run_makeMap Try.prog
  refine wpK_seq (wpK_wp ?_)
  go_wp2_with fail
  clear hmm
  refine wpK_seq (wpK_wp ?_)
  go_wp2_with fail
  refine wpK_seq (wpK_wp ?_)
  go_wp2_with fail
  refine wpK_seq ?_
  refine wpK_seq (wpK_wp ?_)
  go_wp2_with fail
  refine (back_any _ _ _ _).mono ?_
  rintro e w4 ⟨rfl, rfl⟩
  go_wp2_with fail
  obtain ⟨wr, hwr⟩ : ∃ wr, wr = ((((w3.alloc (.map #[] 0)).alloc (.cells #[.map (some w3.heap.size)] 67)).alloc (.cells #[.slice none 0 0] 22)).alloc (.cells #[.int .i64 0] 3)).alloc (.cells #[.slice A0 k c0] 30) := ⟨_, rfl⟩
  rw [← hwr]
  have Mr : Hid (Mv (fun _ => False) w3 wr) := Lib.hid (by rw [hwr]; exact (((((Mv.refl _ w3).alloc _).alloc _).alloc _).alloc _).alloc _)
  have Fm : Hid (wr.ownsMap Try.prog 3 boolR w3.heap.size 0 (.map [])) := Lib.hid (by rw [hwr]; exact ((((World.ownsMap_made w3 Try.prog 3 boolR).alloc _).alloc _).alloc _).alloc _)
  have Fs : Hid (Blk wr (w3.heap.size + 1) 67 #[.map (some w3.heap.size)]) := Lib.hid (by rw [hwr]; exact Blk.mv (S := fun _ => False) (blk_new (w3.alloc (.map #[] 0)) _ _ (by simp)) ((((Mv.refl _ _).alloc _).alloc _).alloc _) (fun e => e))
  have Fw : Hid (Blk wr (w3.heap.size + 1 + 1) 22 #[.slice none 0 0]) := Lib.hid (by rw [hwr]; exact Blk.mv (S := fun _ => False) (blk_new ((w3.alloc (.map #[] 0)).alloc (.cells #[.map (some w3.heap.size)] 67)) _ _ (by simp)) (((Mv.refl _ _).alloc _).alloc _) (fun e => e))
  have Fn : Hid (Blk wr (w3.heap.size + 1 + 1 + 1) 3 #[.int .i64 0]) := Lib.hid (by rw [hwr]; exact Blk.mv (S := fun _ => False) (blk_new (((w3.alloc (.map #[] 0)).alloc (.cells #[.map (some w3.heap.size)] 67)).alloc (.cells #[.slice none 0 0] 22)) _ _ (by simp)) ((Mv.refl _ _).alloc _) (fun e => e))
  have Fb : Hid (Blk wr (w3.heap.size + 1 + 1 + 1 + 1) 30 #[.slice A0 k c0]) := Lib.hid (by rw [hwr]; exact blk_new _ _ _ (by simp))
  have Fz : Hid (wr.heap.size = w3.heap.size + 1 + 1 + 1 + 1 + 1) := Lib.hid (by rw [hwr]; simp)
  have Fl : Hid (Blk wr w.heap.size 24 #[.pointer (some ⟨lg, 0, none⟩)]) := Lib.hid (Hb2.out.mv Mr.out (fun e => e))
  have M0 : Hid (Mv (fun _ => False) w wr) := Lib.hid (M2.out.trans Mr.out)
  have Mz : Hid (w.heap.size < w3.heap.size) := Lib.hid Hb2.out.lt
  clear hwr Mr M2 Hb2 Hl2 Hms cb2
  generalize w3.heap.size = Mb at Fm Fs Fw Fn Fb Fz Mz ⊢
  have HG := Lib.hid HD.out.own_lt2
  have D0 := Lib.hid (HD.out.grown M0.out (fun _ e => e.elim) (fun _ _ e => e))
  have Wr := Lib.hid (Hr.out.mv (Nat.le_refl _) M0.out (fun _ _ e => e))
  have HGr : Hid (∀ b, G.own b → b < wr.heap.size) := Lib.hid (fun b e => by
    have := HG.out b e
    have := M0.out.size
    omega)
  have HMb : Hid (Mb < wr.heap.size ∧ Mb + 1 + 1 < wr.heap.size ∧ Mb + 1 + 1 + 1 < wr.heap.size) := Lib.hid (by rw [Fz.out]; omega)
  have HRS : Hid (∀ b, RB (Mb + 1 + 1 + 1 + 1) A0 k b → ¬ (G.own b ∨ b = Mb ∨ b = Mb + 1 + 1 ∨ b = Mb + 1 + 1 + 1)) := Lib.hid (by
    rintro b (rfl | ⟨hk0, ad, e, rfl⟩) h
    · have := Mz.out
      rcases h with h | h | h | h
      · have := HG.out _ h
        omega
      all_goals omega
    · obtain ⟨ad', e', h1, _⟩ := Wr.out 0 (by rw [Hk.out]; exact hk0)
      have := Mz.out
      rw [e] at e'
      cases e'
      rcases h with h | h | h | h
      · exact HA0.out _ e h
      all_goals omega)
  have HRB : Hid (∀ b, RB (Mb + 1 + 1 + 1 + 1) A0 k b → b < wr.heap.size) := Lib.hid (by
    rintro b (rfl | ⟨hk0, ad, e, rfl⟩)
    · rw [Fz.out]; omega
    · obtain ⟨ad', e', h1, _⟩ := Wr.out 0 (by rw [Hk.out]; exact hk0)
      have := M0.out.size
      rw [e] at e'
      cases e'
      omega)
  have HnS : Hid (∀ b, w.heap.size ≤ b → (b ≠ Mb ∧ b ≠ Mb + 1 + 1 ∧ b ≠ Mb + 1 + 1 + 1) → ¬ (G.own b ∨ b = Mb ∨ b = Mb + 1 + 1 ∨ b = Mb + 1 + 1 + 1)) := Lib.hid (fun b h1 h2 e => by
    rcases e with e | e | e | e
    · have := HG.out b e
      omega
    · exact h2.1 e
    · exact h2.2.1 e
    · exact h2.2.2 e)
  have HMw := Lib.hid (Nat.le_of_lt Mz.out)
  have Hlw := Lib.hid (show lg < w.heap.size from Blk.lt Hl.out)
  have HlS : Hid (¬ (G.own lg ∨ lg = Mb ∨ lg = Mb + 1 + 1 ∨ lg = Mb + 1 + 1 + 1)) := Lib.hid (fun e => by
    have := Hlw.out
    have := HMw.out
    rcases e with e | e | e | e
    · exact Hlo.out e
    all_goals omega)
  have HKf : Hid (∀ b (o : Obj), (G.own b ∨ b = Mb ∨ b = Mb + 1 + 1 ∨ b = Mb + 1 + 1 + 1) → wr.heap.size ≤ b → ∀ W : World, W.heap[b]? = some o → o.isCells = true) := Lib.hid (fun b o e h W _ => by
    exfalso
    have := HMb.out
    rcases e with e | e | e | e
    · have := HGr.out b e
      omega
    all_goals omega)
  have HmvD : Hid (∀ (W : World) (o : Obj), Mv (fun b => G.own b ∨ b = Mb ∨ b = Mb + 1 + 1 ∨ b = Mb + 1 + 1 + 1) wr W → ∀ D, wr.heap.size ≤ D → Mv G.own w (W.putObj D o)) := Lib.hid (fun W o hm D hDl => by
    refine ((M0.out.mono (fun _ _ e => e.elim)).trans' hm (fun b hb e => ?_)).trans' (S' := fun b => b = D) ((Mv.refl _ W).grown (grownBy_putObj' _ D _) (fun g e _ => by cases e; rfl)) (fun b hb e => ?_)
    · have := HMw.out
      rcases e with e | e | e | e
      · exact e
      all_goals omega
    · have := M0.out.size
      omega)
  refine wpK_block (wpK_range (n := 5) ⟨_, Try.func13⟩ (gf := 49) (lb := #[.pointer (some ⟨Mb + 1 + 1 + 1 + 1, 0, none⟩)]) rfl (enters_of Try.func49 (by kernel_rfl) rfl) (encs := fun x => #[Wv x]) (fun _ => rfl)
    (Kp := KeepR (RB (Mb + 1 + 1 + 1 + 1) A0 k)) (S := fun xs => xs = ps.reverse) (Ok := fun pre x => pre ++ [x] <+: ps.reverse) ?seq KeepR.trans ?keep
    (fun pre W => ∃ cur A3 k3 c3 Ax D, CI wr W A G n at_ Mb (Mb + 1 + 1) (Mb + 1 + 1 + 1) s pre cur A3 k3 c3 Ax D)
    (fun ch W => ch = [{ v := lostV, recovered := false }] ∧ ∃ cur, runS (putL at_ 0 (kpW ps.reverse)) s = (cur, false) ∧ DevA W A G n cur ∧ Mv (fun b => G.own b ∨ b = Mb ∨ b = Mb + 1 + 1 ∨ b = Mb + 1 + 1 + 1) wr W) ?own ?start ?round ?done ?panic)
  case seq =>
    intro l J Jp W1 hJp hB hY h0
    have hM := Mv.of_below hB (fun _ => False)
    refine back1_in Fence.wide (5 + 1) trivial rfl (by omega) l (Mb + 1 + 1 + 1 + 1) (RB (Mb + 1 + 1 + 1 + 1) A0 k) A0 c0 ps (by rw [Hk.out]; exact hk1) J Jp hJp hY W1 ⟨.inl rfl, ?_, ?_⟩ h0
    · have := ((Fb.out.mv hM (fun e => e)).cell 0).trans rfl
      rw [Hk.out]
      exact this
    · intro i hi
      obtain ⟨ad, e, h1, h2, h3⟩ := Wr.out.mv M0.out.size hM (fun _ _ e => e) i hi
      exact ⟨ad, e, .inr ⟨by have := Hk.out; omega, ad, e, rfl⟩, h2, by rw [← add_next]; exact h3⟩
  case keep =>
    intro W l o o' hl hlo hc
    have hR := HRB.out
    exact fun p hp => World.cell?_of_block (w := W) (World.putObj_heap_other (fun e => by have := hR _ hp; omega))
  case own =>
    rintro pre X Y row ⟨cur, A3, k3, c3, Ax, D, h⟩ hg hr
    refine ⟨cur, A3, k3, c3, Ax, D, h.far ((Mv.refl (fun b => row = some b) X).grown hg (fun g e _ => e)) (fun b e => hr b e) (fun b e => ?_) ?_⟩
    · have := HG.out b e
      have := M0.out.size
      omega
    · rw [Fz.out]; omega
  case start =>
    refine ⟨s, none, 0, 0, _, _, ⟨D0.out, fun b e => .inl e, ?_, World.ownsRow_nil _ _ _ _, fun x e => (by cases e), rfl, Fw.out, Fn.out, Fm.out, keepD_nil, rfl, Mv.refl _ _⟩⟩
    have := Mz.out
    have := Fz.out
    exact ⟨.inr (by omega), .inr (by omega), .inr (by omega)⟩
  case round =>
    rintro l pre x W hl hlt ⟨cur, A3, k3, c3, Ax, D, hI⟩ hpre
    obtain ⟨z, v⟩ := x
    have HI := Lib.hid hI
    have Hpre := Lib.hid hpre
    clear hI hpre
    unfold Wv
    gi_wp2_with fail
    have MA : Mv (fun _ => False) W (W.alloc (.cells #[.int .i64 z, .int .u64 v] 32)) := (Mv.refl _ W).alloc _
    refine ⟨keepsFrom_mv MA (fun _ _ e => e.elim), KeepR.of_mv MA (fun b hb => ?_), fun r r' hlr => ?_⟩
    · refine ⟨?_, fun e => e⟩
      have h1 := HI.out.mv.size
      have h2 := HRB.out b hb
      omega
    have HI2 := Lib.hid ((HI.out.far MA (fun _ e => e.elim) HGr.out HMb.out).far (S := fun b => b = l) (W' := (W.alloc (.cells #[.int .i64 z, .int .u64 v] 32)).putObj l (.loop r')) ((Mv.refl _ _).grown (grownBy_putObj' _ l _) (fun g e _ => by cases e; rfl)) (fun b e => by subst e; exact ⟨hl, _, hlr, rfl⟩) HGr.out HMb.out)
    have Hx := Lib.hid (show Blk ((W.alloc (.cells #[.int .i64 z, .int .u64 v] 32)).putObj l (.loop r')) W.heap.size 32 #[.int .i64 z, .int .u64 v] from Blk.mv (S := fun b => b = l) (blk_new W _ _ rfl) ((Mv.refl _ _).grown (grownBy_putObj' _ l _) (fun g e _ => by cases e; rfl)) (fun e => by omega))
    have Hxb := Lib.hid (show wr.heap.size ≤ W.heap.size from HI.out.mv.size)
    clear hlr MA HI hl hlt
    generalize (W.alloc (.cells #[.int .i64 z, .int .u64 v] 32)).putObj l (.loop r') = Y at HI2 Hx ⊢
    generalize W.heap.size = xb at Hx Hxb ⊢
    have hmemx : (z, v) ∈ ps := by
      have := Hpre.out.subset (List.mem_append_right pre (List.mem_singleton.2 rfl))
      exact List.mem_reverse.1 this
    have hbadx : badB n at_ words z = false := by
      have := Hno.out
      rw [List.any_eq_false] at this
      simpa using this _ hmemx
    obtain ⟨q, hq, hqn⟩ : ∃ q : Nat, z = (q : Int) ∧ q < n := by
      unfold badB at hbadx
      simp at hbadx
      exact ⟨z.toNat, by omega, by omega⟩
    subst hq
    have Hvx := Lib.hid (Hz.out _ hmemx)
    have hlen : k3 < k := by
      have h1 := kpW_len pre
      have h2 := Hpre.out.length_le
      have h3 := HI2.out.len
      have h4 := Hk.out
      simp at h2
      omega
    have hlk := keep_look HI2.out.map HI2.out.keep q (by omega)
    have c5 : Y.cell? ⟨Mb + 1, 0, none⟩ = some (.map (some Mb)) := ((Fs.out.mv HI2.out.mv (HnS.out _ (by have := HMw.out; omega) (by omega))).cell 0).trans rfl
    have cx0 : Y.cell? ⟨xb, 0, none⟩ = some (.int .i64 (q : Int)) := (Hx.out.cell 0).trans rfl
    clear hmemx hbadx
    by_cases hin : (q : Int) ∈ (kpW pre).map Prod.fst
    · have Hin := Lib.hid hin
      rw [decide_eq_true hin] at hlk
      clear hin
      gi_wp2_with fail
      exact ⟨KeepsFrom.refl _ _, KeepR.refl _ _, cur, A3, k3, c3, Ax, D, HI2.out.same Hin.out⟩
    · have Hin := Lib.hid hin
      rw [decide_eq_false hin] at hlk
      clear hin
      have hwq : (Lit.int .i64 (q : Int)).wf = true := by simp only [Lit.wf, IntKind.min, IntKind.max, IntKind.signed, IntKind.bits, Bool.and_eq_true, decide_eq_true_eq, if_true]; omega
      have Hwq := Lib.hid hwq
      have Hlx := Lib.hid (show Lg Y lg G at_ words from Blk.mv (Blk.mv Hl.out M0.out (fun e => e)) HI2.out.mv HlS.out)
      have HFl := Lib.hid (Fl.out.mv HI2.out.mv (HnS.out _ (Nat.le_refl _) (by have := HMw.out; have := Mz.out; omega)))
      have hp8 : at_ + 8 + 2 * k3 + 1 < n := by have := Hkm.out; have := Hw.out; omega
      obtain ⟨p, hp⟩ : ∃ p, at_ + 8 + 2 * k3 = p := ⟨_, rfl⟩
      have Hp := Lib.hid hp
      have HpL := Lib.hid (fun w5 (h : Lg w5 lg G at_ words) => (show Calls Try.prog 40 #[.pointer (some ⟨lg, 0, none⟩), .int .i64 (k3 : Int)] w5 fun e w' => e = .returned (.int .i64 (p : Int)) ∧ w' = w5 by rw [← hp]; exact place_any k3 h (by have := Hw.out; omega) (by have := Hkm.out; have := Hw.out; omega)))
      rw [hp] at hp8
      clear hp
      have hwu : IntKind.u64.wrap (q : Int) = (q : Int) := IntWalk.u64_in _ (by omega)
      have hwp : IntKind.i64.wrap ((p : Int) + 1) = ((p + 1 : Nat) : Int) := by rw [IntWalk.i64_in _ (by omega)]; omega
      have hwk : IntKind.i64.wrap ((k3 : Int) + 1) = ((k3 + 1 : Nat) : Int) := by rw [IntWalk.i64_in _ (by omega)]; omega
      have Hst := Lib.hid (show cur.steps < 700000000 ∧ cur.dead = false by
        have h1 := runS_steps (putL at_ 0 (kpW pre)) s
        have h2 := runS_dead (putL at_ 0 (kpW pre)) s
        rw [HI2.out.run, putL_len] at h1
        rw [HI2.out.run] at h2
        have h3 := Hs.out
        have h4 := HI2.out.len
        have h5 := Hkm.out
        have h6 := Hw.out
        exact ⟨by simp at h1; omega, (h2 rfl).trans Hd.out⟩)
      gi_wp2_with (first
        | (gi_at_mapUpdate; refine wpListIn_mapUpdate_own Y rfl _ _ _ 67 rfl 3 4 keyedI Try.underlying67 boolR Mb k3 D rfl HI2.out.map (by unfold maxLen; omega) _ _ (.int .i64 (q : Int)) rfl rfl (Maps.keyOf_int_mk Try.underlying3 hwq) (.lit (.bool true)) [] (plainElem_bool Try.underlying4 true) ?_; intro w5 hown5 hg5; have Hown5 := Lib.hid hown5; have Hg5 := Lib.hid hg5; have M5 := Lib.hid (show Mv (fun b => b = Mb) Y w5 from (Mv.refl _ Y).grown hg5 (fun g e _ => by cases e; rfl)); have c2 : w5.cell? ⟨w.heap.size, 0, none⟩ = some (.pointer (some ⟨lg, 0, none⟩)) := ((HFl.out.mv M5.out (by have := Mz.out; omega)).cell 0).trans rfl; have c7 : w5.cell? ⟨Mb + 1 + 1 + 1, 0, none⟩ = some (.int .i64 (k3 : Int)) := ((HI2.out.nb.mv M5.out (by omega)).cell 0).trans rfl; have L5 := Lib.hid (show Lg w5 lg G at_ words from Blk.mv Hlx.out M5.out (by have := Hlw.out; have := HMw.out; omega)); clear hown5 hg5)
        | fail)
      refine ⟨trivial, (callsR (HpL.out _ L5.out)).mono ?_⟩
      rintro e w6 ⟨rfl, rfl⟩
      gi_wp2_with fail
      have D5 := Lib.hid (HI2.out.dev.keep M5.out (fun b e _ => e ▸ HI2.out.ax.2.2) (fun b e e' => by have := HG.out b e; have := Mz.out; omega))
      have cx0' : w6.cell? ⟨xb, 0, none⟩ = some (.int .i64 (q : Int)) := ((Hx.out.mv M5.out (by have := Hxb.out; have := HMb.out; omega)).cell 0).trans rfl
      have cL := Lg.c0 L5.out
      have SS := Lib.hid (storeR w6.drew Ax G n cur p (q : Int) (D5.out.drewN 1) Hst.out.2 (by have := Hst.out; omega) (by omega))
      by_cases hf : cur.fuse = 0
      · have Hf := Lib.hid hf
        clear hf
        refine region_round l 8 (by rintro ⟨_, _, h⟩; exact h) rfl (by kernel_rfl) (by kernel_rfl) ?_
        simp only [List.take_succ_cons, List.take_zero, List.drop_succ_cons, List.drop_zero]
        repeat still_step
        refine wpStill_nil ?_
        change wpList _ _ _ _ _ w6.drew
        go_wp2_with (first
          | (go_at_call 10; refine SS.out.mono ?_; rintro e w7 ⟨h3, h5⟩; obtain ⟨rfl, h4⟩ := one_burn Hf.out h3; have H4 := Lib.hid h4; have H5 := Lib.hid h5; clear h3 h4 h5)
          | fail)
        have MX : Mv (fun b => G.own b ∨ b = Mb ∨ b = Mb + 1 + 1 ∨ b = Mb + 1 + 1 + 1) Y w7 := (M5.out.mono (fun b _ e => .inr (.inl e))).trans' (((Mv.refl _ w6).drew).trans H5.out) (fun b _ e => .inl e)
        exact ⟨rfl, keepsFrom_mv MX (fun b o e h => HKf.out b o e h _), rfl, cur.kill, HI2.out.burn0 Hin.out Hpre.out Hf.out, H4.out.less HI2.out.sub HD.out.ownA, HI2.out.mv.trans MX⟩
      · have Hf := Lib.hid hf
        clear hf
        refine region_round l 8 (by rintro ⟨_, _, h⟩; exact h) rfl (by kernel_rfl) (by kernel_rfl) ?_
        simp only [List.take_succ_cons, List.take_zero, List.drop_succ_cons, List.drop_zero]
        repeat still_step
        refine wpStill_nil ?_
        change wpList _ _ _ _ _ w6.drew
        go_wp2_with (first
          | (go_at_call 10; refine SS.out.mono ?_; rintro e w7 ⟨h3, h5⟩; obtain ⟨rfl, h4⟩ := one_go Hf.out h3; have D7 := Lib.hid h4; have M7 := Lib.hid (((Mv.refl G.own w6).drew).trans h5); clear h3 h4 h5)
          | fail)
        clear SS cL c2 c7 c5 cx0 cx0'
        have nG : ∀ b, w.heap.size ≤ b → ¬ G.own b := fun b h e => by have := HG.out b e; omega
        have NG := Lib.hid nG
        clear nG
        have L7 := Lib.hid (Blk.mv L5.out M7.out Hlo.out)
        have cL := Lg.c0 L7.out
        have c2 : w7.cell? ⟨w.heap.size, 0, none⟩ = some (.pointer (some ⟨lg, 0, none⟩)) := (((HFl.out.mv M5.out (by have := Mz.out; omega)).mv M7.out (NG.out _ (Nat.le_refl _))).cell 0).trans rfl
        have cx1 : w7.cell? ⟨xb, 1, none⟩ = some (.int .u64 v) := (((Hx.out.mv M5.out (by have := Hxb.out; have := HMb.out; omega)).mv M7.out (NG.out _ (by have := Hxb.out; have := M0.out.size; omega))).cell 1).trans rfl
        have SS := Lib.hid (storeR w7.drew Ax G n ((St.store p (q : Int)).on cur) (p + 1) v (D7.out.drewN 1) Hst.out.2 (by have := Hst.out; show cur.steps + 1 < _; omega) hp8)
        gi_wp2_with fail
        by_cases hf2 : ((St.store p (q : Int)).on cur).fuse = 0
        · have Hf2 := Lib.hid hf2
          clear hf2
          refine region_round l 8 (by rintro ⟨_, _, h⟩; exact h) rfl (by kernel_rfl) (by kernel_rfl) ?_
          simp only [List.take_succ_cons, List.take_zero, List.drop_succ_cons, List.drop_zero]
          repeat still_step
          refine wpStill_nil ?_
          change wpList _ _ _ _ _ w7.drew
          go_wp2_with (first
            | (go_at_call 10; refine SS.out.mono ?_; rintro e w8 ⟨h3, h5⟩; obtain ⟨rfl, h4⟩ := one_burn Hf2.out h3; have H4 := Lib.hid h4; have H5 := Lib.hid h5; clear h3 h4 h5)
            | fail)
          have MX : Mv (fun b => G.own b ∨ b = Mb ∨ b = Mb + 1 + 1 ∨ b = Mb + 1 + 1 + 1) Y w8 := ((M5.out.mono (fun b _ e => .inr (.inl e))).trans' M7.out (fun b _ e => .inl e)).trans' (((Mv.refl _ w7).drew).trans H5.out) (fun b _ e => .inl e)
          have Hb := HI2.out.burn1 (x := ((q : Int), v)) Hin.out Hpre.out Hf.out (by rw [Hp.out]; exact Hf2.out)
          rw [Hp.out] at Hb
          exact ⟨rfl, keepsFrom_mv MX (fun b o e h => HKf.out b o e h _), rfl, _, Hb, H4.out.less HI2.out.sub HD.out.ownA, HI2.out.mv.trans MX⟩
        · have Hf2 := Lib.hid hf2
          clear hf2
          refine region_round l 8 (by rintro ⟨_, _, h⟩; exact h) rfl (by kernel_rfl) (by kernel_rfl) ?_
          simp only [List.take_succ_cons, List.take_zero, List.drop_succ_cons, List.drop_zero]
          repeat still_step
          refine wpStill_nil ?_
          change wpList _ _ _ _ _ w7.drew
          go_wp2_with (first
            | (go_at_call 10; refine SS.out.mono ?_; rintro e w8 ⟨h3, h5⟩; obtain ⟨rfl, h4⟩ := one_go Hf2.out h3; have D8 := Lib.hid h4; have M8 := Lib.hid (((Mv.refl G.own w7).drew).trans h5); clear h3 h4 h5)
            | fail)
          clear SS cL c2 cx1
          have HOB := Lib.hid (fun x (hx : (Value.slice A3 k3 c3).ownBlock = some x) => (own_lt HI2.out.row hx).1)
          have HROW := Lib.hid (own_mvx (own_mvx (own_mvx HI2.out.row M5.out (fun x hx e => by have := HOB.out x hx; have := HMb.out; omega)) M7.out (fun x hx e => by have := HOB.out x hx; have := HGr.out x e; omega)) M8.out (fun x hx e => by have := HOB.out x hx; have := HGr.out x e; omega))
          have Hw8 := Lib.hid (show wr.heap.size ≤ w8.heap.size from Nat.le_trans HI2.out.mv.size (Nat.le_trans M5.out.size (Nat.le_trans M7.out.size M8.out.size)))
          have B6 := Lib.hid (((HI2.out.wb.mv M5.out (by omega)).mv M7.out (NG.out _ (by have := Mz.out; omega))).mv M8.out (NG.out _ (by have := Mz.out; omega)))
          have B7 := Lib.hid (((HI2.out.nb.mv M5.out (by omega)).mv M7.out (NG.out _ (by have := Mz.out; omega))).mv M8.out (NG.out _ (by have := Mz.out; omega)))
          have c6 := (B6.out.cell 0).trans rfl
          obtain ⟨i0, hi0, hz0', hz1, hz2⟩ := info_parts infoI
          apply wpIn_seq_k
          intro _ _
          refine region_plain l (by rintro ⟨_, _, h⟩; exact h) rfl ?_
          go_wp2_with (first
            | (at_builtin; refine wpList_pushZ w8 rfl (.tmp 50) (.tmp 52) 22 rfl wr.heap.size 3 i0 .i64 8 Try.underlying22 hi0 hz0' hz1 hz2 A3 k3 c3 _ rfl HROW.out (p : Int) 1 rfl (by unfold maxLen; omega) (by omega) Hw8.out ?_; intro g cp w9 hown9 hg9 hs9 hat9; have Hown9 := Lib.hid hown9; have Hg9 := Lib.hid hg9; have Hat9 := Lib.hid hat9; have Hs9 := Lib.hid hs9; have M9 := Lib.hid ((Mv.refl (fun b => (Value.slice A3 k3 c3).ownBlock = some b) w8).grown hg9 (fun g e _ => e)); have B69 := Lib.hid (B6.out.mv M9.out (fun e => by have := HOB.out _ e; have := HMb.out; omega)); have c69 := (B69.out.cell 0).trans rfl; have f69 := B69.out.frozen 0; clear hown9 hg9 hs9 hat9)
            | fail)
          obtain ⟨wA, hwA⟩ : ∃ wA, wA = w9.setCell ⟨Mb + 1 + 1, 0, none⟩ (.slice (some ⟨g, 0, none⟩) (k3 + 1) cp) := ⟨_, rfl⟩
          rw [← hwA]
          have B7A := Lib.hid (show Blk wA (Mb + 1 + 1 + 1) 3 #[.int .i64 (k3 : Int)] by rw [hwA]; exact Blk.far (B7.out.mv M9.out (fun e => by have := HOB.out _ e; have := HMb.out; omega)) (show Mb + 1 + 1 + 1 ≠ Mb + 1 + 1 by omega) _)
          have HwA := Lib.hid hwA
          clear hwA
          have c7A := (B7A.out.cell 0).trans rfl
          have f7A := B7A.out.frozen 0
          refine region_plain l (by rintro ⟨_, _, h⟩; exact h) rfl ?_
          go_wp2_with fail
          have hst := HI2.out.step (w5 := w6) (w6 := w8) (w7 := w9) (w8 := wA) (D' := D) (q := q) (g := g) (cp := cp) (v := v) (fun b e => by have := HG.out b e; have := Mz.out; omega) ⟨by omega, by omega, HMb.out.2.2⟩ Hin.out Hwq.out Hf.out (by rw [Hp.out]; exact Hf2.out) rfl Hown5.out Hg5.out (by rw [Hp.out]; exact D8.out) (M7.out.trans M8.out) (by rw [Hp.out]; exact Hown9.out) Hg9.out Hat9.out HwA.out rfl
          have mA : Mv (fun b => b = Mb + 1 + 1) w9 wA := by rw [HwA.out]; exact (Mv.refl (fun b => b = Mb + 1 + 1) w9).setCell (p := ⟨Mb + 1 + 1, 0, none⟩) (fun _ => rfl) _
          have mB : Mv (fun b => b = Mb + 1 + 1 + 1) wA (wA.setCell ⟨Mb + 1 + 1 + 1, 0, none⟩ (.int .i64 ((k3 : Int) + 1))) := (Mv.refl (fun b => b = Mb + 1 + 1 + 1) wA).setCell (p := ⟨Mb + 1 + 1 + 1, 0, none⟩) (fun _ => rfl) _
          have MX : Mv (fun b => (G.own b ∨ b = Mb ∨ b = Mb + 1 + 1 ∨ b = Mb + 1 + 1 + 1) ∨ (Value.slice A3 k3 c3).ownBlock = some b) Y (wA.setCell ⟨Mb + 1 + 1 + 1, 0, none⟩ (.int .i64 ((k3 : Int) + 1))) :=
            (((((M5.out.mono (fun b _ e => .inl (.inr (.inl e)))).trans' M7.out (fun b _ e => .inl (.inl e))).trans' M8.out (fun b _ e => .inl (.inl e))).trans' M9.out (fun b _ e => .inr e)).trans' mA (fun b _ e => .inl (.inr (.inr (.inl e))))).trans' mB (fun b _ e => .inl (.inr (.inr (.inr e))))
          refine ⟨keepsFrom_mv MX (fun b o e h ho => ?_), KeepR.of_mv MX (fun b hb => ⟨?_, ?_⟩), _, _, _, _, _, _, hst⟩
          · rcases e with e | e
            · exact HKf.out b o e h _ ho
            · cases hc : o.isCells with
              | true => rfl
              | false => exact absurd e (own_cells HI2.out.row (S := fun b => b = b ∧ ∃ o : Obj, Y.heap[b]? = some o ∧ o.isCells = false) (fun b e => e.2) b e ⟨rfl, o, ho, hc⟩).elim
          · have := HRB.out b hb
            have := HI2.out.mv.size
            omega
          · rintro (e | e)
            · exact HRS.out b hb e
            · have := HRB.out b hb
              have := HOB.out b e
              omega
  case panic =>
    rintro D ch W hDl ⟨rfl, cur, hrun, hdev, hm⟩ hdef
    refine ⟨by simp, .inl ⟨_, _, rfl, run_takeDeferred hdef, ?_⟩⟩
    have hkp : kpW ps.reverse ≠ [] := fun e => by rw [e] at hrun; simp [putL, runS] at hrun
    have hc : commitD n at_ words ps s = (cur, false) := by
      unfold commitD commitR
      rw [if_pos HV.out, if_neg hkp]
      have : runS (preL at_ (kpW ps.reverse)) s = (cur, false) := by
        unfold preL
        rw [runS_append, hrun]
        rfl
      rw [this]
      rfl
    refine ⟨?_, ?_⟩
    · rw [hc]
      exact ⟨.inr ⟨rfl, rfl⟩, hdev.row (S := fun b => b = D) ((Mv.refl _ W).grown (grownBy_putObj' _ D _) (fun g e _ => by cases e; rfl)) (fun b e => by subst e; exact ⟨_, hdef, rfl⟩) (fun b e e' => by have := HGr.out b e; omega)⟩
    · exact HmvD.out W _ hm D hDl
  case done =>
    rintro D xs W hDl rfl ⟨cur, A3, k3, c3, Ax, DD, hI⟩ hdef
    have HI := Lib.hid hI
    have Hdef := Lib.hid hdef
    have HDl := Lib.hid hDl
    clear hI hdef hDl
    refine wpK_wp ?_
    have c7 : W.cell? ⟨Mb + 1 + 1 + 1, 0, none⟩ = some (.int .i64 (k3 : Int)) := (HI.out.nb.cell 0).trans rfl
    by_cases hk0 : k3 = 0
    · have Hk0 := Lib.hid hk0
      have c70 : W.cell? ⟨Mb + 1 + 1 + 1, 0, none⟩ = some (.int .i64 0) := by rw [c7, hk0]; rfl
      clear hk0 c7
      go_wp2_with fail
      refine ⟨by simp, .inl ⟨_, _, rfl, run_takeDeferred Hdef.out, _, results_tmp rfl _ _ _, ?_⟩⟩
      have hkp : kpW ps.reverse = [] := List.eq_nil_of_length_eq_zero (HI.out.len.trans Hk0.out)
      have hcs : cur = s := by
        have := HI.out.run
        rw [hkp] at this
        simp [putL, runS] at this
        exact this.symm
      have hc : commitD n at_ words ps s = (s, true) := by
        unfold commitD commitR
        rw [if_pos HV.out, if_pos hkp]
      refine ⟨?_, ?_⟩
      · rw [hc, HV.out]
        exact ⟨.inl ⟨rfl, rfl⟩, (hcs ▸ HI.out.dev.less HI.out.sub HD.out.ownA).row (S := fun b => b = D) ((Mv.refl _ W).grown (grownBy_putObj' _ D _) (fun g e _ => by cases e; rfl)) (fun b e => by subst e; exact ⟨_, Hdef.out, rfl⟩) (fun b e e' => by have := HGr.out b e; have := HDl.out; omega)⟩
      · exact HmvD.out W _ HI.out.mv D HDl.out
    · have b0 : ((k3 : Int) == 0) = false := by simp [hk0]
      have Hk0 := Lib.hid hk0
      clear hk0
      have HFl := Lib.hid (Fl.out.mv HI.out.mv (HnS.out _ (Nat.le_refl _) (by have := HMw.out; have := Mz.out; omega)))
      have c2 := (HFl.out.cell 0).trans rfl
      have c6 := (HI.out.wb.cell 0).trans rfl
      have HLg := Lib.hid (show Lg W lg G at_ words from Blk.mv (Blk.mv Hl.out M0.out (fun e => e)) HI.out.mv HlS.out)
      have hk3k : k3 ≤ (words - 16) / 2 := by
        have h1 := kpW_len ps.reverse
        have h2 := HI.out.len
        have h3 := Hk.out
        have h4 := Hkm.out
        simp at h1
        omega
      have Hk3 := Lib.hid hk3k
      have HOB := Lib.hid (fun x (hx : (Value.slice A3 k3 c3).ownBlock = some x) => (own_lt HI.out.row hx).1)
      have HSn := Lib.hid (show ∀ b, Rw G (.slice A3 k3 c3) b → G.own b ∨ wr.heap.size ≤ b from fun b e => e.elim .inl (fun e => .inr (HOB.out b e)))
      have NR : Hid (∀ b, ¬ G.own b → b < wr.heap.size → ¬ Rw G (.slice A3 k3 c3) b) := Lib.hid (fun b h1 h2 e => e.elim h1 (fun e => by have := HOB.out b e; omega))
      have HRD : Hid (¬ Rw G (.slice A3 k3 c3) D) := Lib.hid (fun e => by
        rcases e with e | e
        · have := HGr.out _ e
          have := HDl.out
          omega
        · exact own_cells HI.out.row (S := fun b => b = D) (fun b e => by subst e; exact ⟨_, Hdef.out, rfl⟩) D e rfl)
      have Hst := Lib.hid (show cur.steps < 601000000 ∧ cur.dead = false by
        have h1 := runS_steps (putL at_ 0 (kpW ps.reverse)) s
        have h2 := runS_dead (putL at_ 0 (kpW ps.reverse)) s
        rw [HI.out.run, putL_len] at h1
        rw [HI.out.run] at h2
        have h3 := Hs.out
        have h4 := HI.out.len
        have h6 := Hw.out
        exact ⟨by simp at h1; omega, (h2 rfl).trans Hd.out⟩)
      have Hse := Lib.hid (settle_any W Ax G n cur lg at_ words wr.heap.size A3 k3 c3 (places at_ k3) HI.out.dev Hst.out.2 HLg.out Hlo.out (places_len at_ k3) HI.out.row (fun x hx => ⟨HI.out.own x hx, fun e => by have := HOB.out x hx; have := HGr.out x e; omega⟩) (by have := Hw.out; omega) (fun z hz => by
        unfold places at hz
        obtain ⟨j, hj, rfl⟩ := List.mem_map.1 hz
        have := List.mem_range.1 hj
        have := Hw.out
        omega) (by have := Hst.out.1; have := Hw.out; omega))
      obtain ⟨LL, hLL⟩ : ∃ LL, setL (-1) (sorted (places at_ k3)) = LL := ⟨_, rfl⟩
      rw [hLL] at Hse
      have Hrun : Hid (runS (preL at_ (kpW ps.reverse)) s = runS (LL ++ sealL at_ k3) cur) := Lib.hid (by
        unfold preL
        rw [runS_append, HI.out.run, if_pos rfl, HI.out.len, hLL])
      have Hlen : Hid (LL.length ≤ k3 + 1) := Lib.hid (by
        rw [← hLL]
        refine Nat.le_trans (setL_len _ _) ?_
        rw [sorted_len, places_len]
        omega)
      have hkp : kpW ps.reverse ≠ [] := fun e => by
        have := HI.out.len
        rw [e] at this
        exact Hk0.out this.symm
      have Hc : Hid (commitD n at_ words ps s = if (runS (LL ++ sealL at_ k3) cur).2 = true then runS (homeL (runS (LL ++ sealL at_ k3) cur).1.now n at_ words) (runS (LL ++ sealL at_ k3) cur).1 else runS (LL ++ sealL at_ k3) cur) := Lib.hid (by
        unfold commitD commitR
        rw [if_pos HV.out, if_neg hkp, Hrun.out])
      have Hbd : Hid (∀ x ∈ preL at_ (kpW ps.reverse), StOk x) := Lib.hid (by
        intro x hx
        unfold preL at hx
        rcases List.mem_append.1 hx with hx | hx
        · refine putL_ok at_ 0 _ (fun p hp => ?_) x hx
          have hp2 := List.mem_reverse.1 (kpW_mem p hp)
          have hb := Hno.out
          rw [List.any_eq_false] at hb
          have hb2 := hb p hp2
          have hb3 : badB n at_ words p.1 = false := by simpa using hb2
          unfold badB at hb3
          simp at hb3
          exact ⟨by omega, Hz.out p hp2⟩
        · rcases List.mem_append.1 hx with hx | hx
          · exact setL_ok _ _ x hx
          · exact sealL_ok at_ (by rw [HI.out.len]; have := Hw.out; omega) x hx)
      have HbD := Lib.hid (runS_bd _ s Hbd.out Hv.out)
      rw [Hrun.out] at HbD
      clear hLL hkp Hbd Hrun
      go_wp2_with fail
      refine Hse.out.mono ?_
      rintro e w5 ⟨⟨h3, h4⟩, h5⟩
      have D5 := Lib.hid h4
      have M5 := Lib.hid h5
      have c2 : w5.cell? ⟨w.heap.size, 0, none⟩ = some (.pointer (some ⟨lg, 0, none⟩)) := ((HFl.out.mv h5 (NR.out _ (fun e => by have := HG.out _ e; omega) Fl.out.lt)).cell 0).trans rfl
      have c7 : w5.cell? ⟨Mb + 1 + 1 + 1, 0, none⟩ = some (.int .i64 (k3 : Int)) := ((HI.out.nb.mv h5 (NR.out _ (fun e => by have := HG.out _ e; have := Mz.out; omega) HMb.out.2.2)).cell 0).trans rfl
      have L5 := Lib.hid (show Lg w5 lg G at_ words from Blk.mv HLg.out h5 (NR.out _ Hlo.out (by have := Hlw.out; have := M0.out.size; omega)))
      have Hd5 := Lib.hid ((h5.block D (Array.getElem?_eq_some_iff.1 Hdef.out).1 HRD.out).trans Hdef.out)
      have HM5 : Hid (Mv (fun b => G.own b ∨ b = Mb ∨ b = Mb + 1 + 1 ∨ b = Mb + 1 + 1 + 1) wr w5) := Lib.hid (HI.out.mv.trans' h5 (fun b hb e => (HSn.out b e).elim .inl (fun h => by omega)))
      clear h4 h5 Hse
      have HGD : Hid (¬ G.own D) := Lib.hid (fun e => by have := HGr.out _ e; have := HDl.out; omega)
      rcases h3 with ⟨hr, rfl⟩ | ⟨hr, hp⟩
      · have hst := runS_steps LL cur
        have Hstp := Lib.hid (show (runS LL cur).1.steps < 602000000 by have := Hst.out; have := Hlen.out; have := Hw.out; omega)
        have Hdd := Lib.hid ((runS_dead LL cur hr).trans Hst.out.2)
        rw [runS_append, if_pos hr] at Hc HbD
        clear hr hst
        generalize (runS LL cur).1 = d5 at D5 Hstp Hdd Hc HbD
        have Hsl := Lib.hid (seal_any w5 Ax G n d5 lg at_ words k3 D5.out Hdd.out L5.out Hlo.out (by have := Hw.out; omega) (by have := Hw.out; omega) (by have := Hstp.out; omega))
        go_wp2_with fail
        refine Hsl.out.mono ?_
        rintro e w6 ⟨⟨h3, h4⟩, h5⟩
        have D6 := Lib.hid h4
        have c2 : w6.cell? ⟨w.heap.size, 0, none⟩ = some (.pointer (some ⟨lg, 0, none⟩)) := by
          have hne : ¬ G.own w.heap.size := fun e => by have := HG.out _ e; omega
          exact (mv_cell h5 (p := ⟨w.heap.size, 0, none⟩) (by have := HM5.out.size; have := Fl.out.lt; show w.heap.size < _; omega) hne).trans c2
        have L6 := Lib.hid (show Lg w6 lg G at_ words from Blk.mv L5.out h5 Hlo.out)
        have Hd6 := Lib.hid ((h5.block D (Array.getElem?_eq_some_iff.1 Hd5.out).1 HGD.out).trans Hd5.out)
        have HM6 := Lib.hid (HM5.out.trans' h5 (fun b _ e => .inl e))
        clear h4 h5 Hsl
        rcases h3 with ⟨hr, rfl⟩ | ⟨hr, hp⟩
        · have hst := runS_steps (sealL at_ k3) d5
          have Hstp6 := Lib.hid (show (runS (sealL at_ k3) d5).1.steps < 603000000 by have := Hstp.out; simp [sealL] at hst ⊢; omega)
          have Hdd6 := Lib.hid ((runS_dead (sealL at_ k3) d5 hr).trans Hdd.out)
          rw [if_pos hr] at Hc
          clear hr hst
          generalize (runS (sealL at_ k3) d5).1 = d6 at D6 Hstp6 Hdd6 Hc HbD
          have Hho := Lib.hid (home_any w6 Ax G n d6 lg at_ words D6.out Hdd6.out L6.out Hlo.out Hw.out HbD.out (by have := Hstp6.out; omega))
          go_wp2_with fail
          refine Hho.out.mono ?_
          rintro e w7 ⟨⟨h3, h4⟩, h5⟩
          have D7 := Lib.hid h4
          have Hd7 := Lib.hid ((h5.block D (Array.getElem?_eq_some_iff.1 Hd6.out).1 HGD.out).trans Hd6.out)
          have HM7 := Lib.hid (HM6.out.trans' h5 (fun b _ e => .inl e))
          clear h4 h5 Hho
          rcases h3 with ⟨hr, rfl⟩ | ⟨hr, hp⟩
          · have Hr7 := Lib.hid hr
            clear hr
            go_wp2_with fail
            refine ⟨by simp, .inl ⟨_, _, rfl, run_takeDeferred Hd7.out, _, results_tmp rfl _ _ _, ?_⟩⟩
            refine ⟨?_, HmvD.out w7 _ HM7.out D HDl.out⟩
            rw [Hc.out, HV.out]
            exact ⟨.inl ⟨Hr7.out, rfl⟩, (D7.out.less HI.out.sub HD.out.ownA).row (S := fun b => b = D) ((Mv.refl _ w7).grown (grownBy_putObj' _ D _) (fun g e _ => by cases e; rfl)) (fun b e => by subst e; exact ⟨_, Hd7.out, rfl⟩) (fun b e e' => HGD.out (e' ▸ e))⟩
          · unfold Panics at hp
            subst hp
            have Hr7 := Lib.hid hr
            clear hr
            go_wp2_with fail
            refine ⟨by simp, .inl ⟨_, _, rfl, run_takeDeferred Hd7.out, ?_⟩⟩
            refine ⟨?_, HmvD.out w7 _ HM7.out D HDl.out⟩
            rw [Hc.out]
            exact ⟨.inr ⟨Hr7.out, rfl⟩, (D7.out.less HI.out.sub HD.out.ownA).row (S := fun b => b = D) ((Mv.refl _ w7).grown (grownBy_putObj' _ D _) (fun g e _ => by cases e; rfl)) (fun b e => by subst e; exact ⟨_, Hd7.out, rfl⟩) (fun b e e' => HGD.out (e' ▸ e))⟩
        · unfold Panics at hp
          subst hp
          have Hr6 := Lib.hid hr
          rw [if_neg (by rw [hr]; decide)] at Hc
          clear hr
          go_wp2_with fail
          refine ⟨by simp, .inl ⟨_, _, rfl, run_takeDeferred Hd6.out, ?_⟩⟩
          refine ⟨?_, HmvD.out w6 _ HM6.out D HDl.out⟩
          rw [Hc.out]
          exact ⟨.inr ⟨Hr6.out, rfl⟩, (D6.out.less HI.out.sub HD.out.ownA).row (S := fun b => b = D) ((Mv.refl _ w6).grown (grownBy_putObj' _ D _) (fun g e _ => by cases e; rfl)) (fun b e => by subst e; exact ⟨_, Hd6.out, rfl⟩) (fun b e e' => HGD.out (e' ▸ e))⟩
      · unfold Panics at hp
        subst hp
        have Hr5 := Lib.hid hr
        have e1 : runS (LL ++ sealL at_ k3) cur = runS LL cur := by rw [runS_append, if_neg (by rw [hr]; decide)]
        rw [e1, if_neg (by rw [hr]; decide)] at Hc
        clear hr
        go_wp2_with fail
        refine ⟨by simp, .inl ⟨_, _, rfl, run_takeDeferred Hd5.out, ?_⟩⟩
        refine ⟨?_, HmvD.out w5 _ HM5.out D HDl.out⟩
        rw [Hc.out]
        exact ⟨.inr ⟨Hr5.out, rfl⟩, (D5.out.less HI.out.sub HD.out.ownA).row (S := fun b => b = D) ((Mv.refl _ w5).grown (grownBy_putObj' _ D _) (fun g e _ => by cases e; rfl)) (fun b e => by subst e; exact ⟨_, Hd5.out, rfl⟩) (fun b e e' => HGD.out (e' ▸ e))⟩
end Go.Proofs.Ytdphillobnlpaaa
