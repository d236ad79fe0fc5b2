/- redo: the number of writes is set (the second half of Commit, the end of home). -/
import Derived.Test.YtdphillobnlpaaaRedL
import Derived.StillTailTactics
namespace Go.Proofs.Ytdphillobnlpaaa
open Go.RowKit
set_option linter.unusedVariables false
theorem DevA.drewN {w : World} {A : Nat → Prop} {G : Dv} {n : Nat} {s : DS} (h : DevA w A G n s) (m : Nat) : DevA (w.drewN m) A G n s := h.keep (S := fun _ => False) ((Mv.refl _ w).drewN m) (fun _ e => e.elim) (fun _ _ e => e)
/-- .. with fewer blocks that turn. -/
theorem DevA.less {w : World} {A A' : Nat → Prop} {G : Dv} {n : Nat} {s : DS} (h : DevA w A' G n s) (hA : ∀ b, A b → A' b) (hG : ∀ b, G.own b → A b) : DevA w A G n s :=
  ⟨h.1.mv (Mv.refl (fun _ => False) w) (fun _ _ e => e.elim) (fun b _ e => hA b e) ⟨hG _ (.inl rfl), hG _ (.inr (.inl rfl)), hG _ (.inr (.inr (.inl rfl))), hG _ (.inr (.inr (.inr rfl)))⟩ (fun _ _ e => e), fun b e => h.2 b (hA b e)⟩
theorem DevA.ownA {w : World} {A : Nat → Prop} {G : Dv} {n : Nat} {s : DS} (h : DevA w A G n s) : ∀ b, G.own b → A b := by
  obtain ⟨_, _, _, _, ⟨h1, h2, h3, h4⟩, _⟩ := h.1
  rintro b (rfl | rfl | rfl | rfl)
  · exact h1
  · exact h2
  · exact h3
  · exact h4
/-- .. with all the new blocks that came by an alloc. -/
theorem DevA.allocd {w : World} {A : Nat → Prop} {G : Dv} {n : Nat} {s : DS} (h : DevA w A G n s) (o : Obj) : DevA (w.alloc o) (fun b => A b ∨ b = w.heap.size) G n s :=
  DevA.more h.1 ((Mv.refl (fun _ => False) w).alloc o) (fun b hb e => e.elim id (fun e => by omega)) (fun b e => by rcases e with e | e; have := h.2 b e; simp; omega; simp; omega) (fun b e => .inl (h.ownA b e))
def sealL (at_ : Nat) (v : Int) : List St := [.store at_ v, .flush at_, .fence]
theorem sort_one (x : Nat) : sorted [x] = [x] := by simp [sorted]
theorem seal_eq (at_ : Nat) (v : Int) : St.store at_ v :: setL (-1) (sorted [at_]) = sealL at_ v := by
  have e : ¬ ((at_ / 8 : Nat) : Int) = -1 := by omega
  rw [sort_one, sealL, setL, if_neg e, setL]
theorem own_one (w : World) (x : Nat) : (w.alloc (.cells #[.int .i64 (x : Int)] 3)).ownsRow w.heap.size 3 1 (.slice (some ⟨w.heap.size, 0, none⟩) 1 1) 1 (Ints .i64 [x]) :=
  ⟨by simp [Ints], .inr ⟨w.heap.size, 1, #[.int .i64 (x : Int)], rfl, Nat.le_refl _, blk_new w 3 _ rfl, Nat.le_refl _, by unfold maxLen; omega, rfl, by simp [Ints]⟩⟩
theorem DevA.own_lt2 {w : World} {A : Nat → Prop} {G : Dv} {n : Nat} {s : DS} (h : DevA w A G n s) : ∀ b, G.own b → b < w.heap.size := fun b e => h.2 b (h.ownA b e)
set_option maxRecDepth 100000 in
set_option maxHeartbeats 4000000 in
theorem seal_any (w : World) (A : Nat → Prop) (G : Dv) (n : Nat) (s : DS) (lg at_ words m : Nat) (hD : DevA w A G n s) (hd : s.dead = false) (hl : Lg w lg G at_ words) (hlo : ¬ G.own lg) (hat : at_ < n) (hm : m ≤ 65536) (hs : s.steps < 800000000) :
    Calls Try.prog 42 #[.pointer (some ⟨lg, 0, none⟩), .int .i64 (m : Int)] w fun e w' => RP A G n (runS (sealL at_ (m : Int)) s) (.tuple #[]) w e w' ∧ Mv G.own w w' := by
  have HD := Lib.hid hD
  have Hl := Lib.hid hl
  have Hlo := Lib.hid hlo
  have Hd := Lib.hid hd
  have Hs := Lib.hid hs
  have c0 := hl.c0
  have c1 := hl.c1
  have hw : IntKind.u64.wrap (m : Int) = (m : Int) := IntWalk.u64_in _ (by omega)
  have Hst := Lib.hid (storeR w.drew A G n s at_ (m : Int) (hD.drewN 1) hd (by omega) hat)
  clear hD hl hlo hd hs
  by_cases hf : s.fuse = 0
  · have Hf := Lib.hid hf
    clear hf
    go_enter Try.func42, Try.ntmps42
    go_wp2_with fail
    go_still_tail 10, (by kernel_rfl)
    change wpList _ _ _ _ _ w.drew
    go_wp2_with (first
      | (go_at_call 10; refine Hst.out.mono ?_; rintro e w4 ⟨h3, h5⟩; obtain ⟨rfl, h4⟩ := one_burn Hf.out h3; have H4 := Lib.hid h4; have H5 := Lib.hid h5; clear h3 h4 h5)
      | fail)
    simp only [bodyPost]
    refine ⟨trivial, ⟨?_, ?_⟩, ?_⟩
    · unfold sealL
      rw [runS_burn Hf.out]
      exact .inr ⟨rfl, rfl⟩
    · unfold sealL
      rw [runS_burn Hf.out]
      exact H4.out
    · exact ((Mv.refl _ w).drew).trans H5.out
  · have Hf := Lib.hid hf
    clear hf
    go_enter Try.func42, Try.ntmps42
    go_wp2_with fail
    go_still_tail 10, (by kernel_rfl)
    change wpList _ _ _ _ _ w.drew
    go_wp2_with (first
      | (go_at_call 10; refine Hst.out.mono ?_; rintro e w4 ⟨h3, h5⟩; obtain ⟨rfl, h4⟩ := one_go Hf.out h3; have H4 := Lib.hid h4; have H5 := Lib.hid h5; have Hl4 := Lib.hid (Blk.mv Hl.out (((Mv.refl _ w).drew).trans h5) Hlo.out); have d1 := Lg.c1 Hl4.out; clear h3 h4 h5)
      | fail)
    have hset := settle_any (w4.alloc (.cells #[.int .i64 (at_ : Int)] 3)) (fun b => A b ∨ b = w4.heap.size) G n ((St.store at_ (m : Int)).on s) lg at_ words w4.heap.size (some ⟨w4.heap.size, 0, none⟩) 1 1 [at_] (H4.out.allocd _) ((St.on_dead _ _).trans Hd.out) (Blk.mv Hl4.out ((Mv.refl (fun _ => False) w4).alloc _) (fun e => e)) Hlo.out rfl (own_one w4 at_) (fun x hx => by cases hx; exact ⟨.inr rfl, fun e => Nat.lt_irrefl _ (H4.out.own_lt2 _ e)⟩) (by omega) (by simp; exact hat) (by rw [St.on_steps]; have := Hs.out; omega)
    refine hset.mono ?_
    have hrun : runS (sealL at_ (m : Int)) s = runS (setL (-1) (sorted [at_])) ((St.store at_ (m : Int)).on s) := by rw [← seal_eq, runS_go Hf.out]
    have Hrun := Lib.hid hrun
    have Hm4 := Lib.hid ((((Mv.refl G.own w).drew).trans H5.out).alloc (.cells #[.int .i64 (at_ : Int)] 3))
    clear hset hrun
    rintro e w5 ⟨⟨h3, h4⟩, h5⟩
    have H45 := Lib.hid (h4.less (A := A) (fun b e => .inl e) HD.out.ownA)
    have H55 : Hid (Mv G.own w w5) := Lib.hid (Hm4.out.trans' h5 (fun b hb e => by
      rcases e with e | e
      · exact e
      · cases e
        exact absurd (show w4.heap.size < w.heap.size from hb) (Nat.not_lt.2 H5.out.size)))
    clear h4 h5
    rcases h3 with ⟨hr, rfl⟩ | ⟨hr, hp⟩
    · have Hr := Lib.hid hr
      clear hr
      go_wp2_with fail
      go_end0
      exact ⟨⟨.inl ⟨by rw [Hrun.out]; exact Hr.out, rfl⟩, by rw [Hrun.out]; exact H45.out⟩, H55.out⟩
    · unfold Panics at hp
      subst hp
      have Hr := Lib.hid hr
      clear hr
      go_wp2_with fail
      simp only [bodyPost]
      exact ⟨trivial, ⟨.inr ⟨by rw [Hrun.out]; exact Hr.out, rfl⟩, by rw [Hrun.out]; exact H45.out⟩, H55.out⟩
end Go.Proofs.Ytdphillobnlpaaa
