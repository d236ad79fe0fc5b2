/- redo: the law's tells. -/
import Derived.Test.YtdphillobnlpaaaRedZ
namespace Go.Proofs.Ytdphillobnlpaaa
open Go.RowKit
set_option linter.unusedVariables false
def tB (now f : Nat → Int) (i : Nat) : Bool := decide (∀ j, j < i → 64 ≤ j → now j = f j)
theorem tB_succ (now f : Nat → Int) (i : Nat) (hi : 64 ≤ i) : tB now f (i + 1) = (tB now f i && (now i == f i)) := by
  unfold tB
  rw [show (now i == f i) = decide (now i = f i) from rfl, ← Bool.decide_and]
  refine decide_eq_decide.2 ⟨fun h => ⟨fun j h1 h2 => h j (by omega) h2, h i (by omega) hi⟩, fun h j h1 h2 => ?_⟩
  rcases Nat.lt_or_ge j i with h3 | h3
  · exact h.1 j h3 h2
  · rw [show j = i by omega]; exact h.2
theorem tB_zero (now f : Nat → Int) : tB now f 64 = true := by
  unfold tB
  exact decide_eq_true (fun j h1 h2 => by omega)
/-- What the closure of tells holds. -/
structure Tl (w0 : World) (A : Nat → Prop) (G : Dv) (s : DS) (f : Nat → Int) (fO fD fW : Nat) (b : Bool) (w : World) : Prop where
  dev : DevA w A G 256 s
  pO : Blk w fO 4 #[.bool b]
  pD : Blk w fD 23 #[.pointer (some ⟨G.d, 0, none⟩)]
  pW : Blk w fW 40 (words .u64 256 f)
  aO : A fO
  oO : ¬ G.own fO
  mv : Mv (fun x => x = fO) w0 w
section
variable {w0 w w' : World} {A : Nat → Prop} {G : Dv} {s : DS} {f : Nat → Int} {fO fD fW : Nat} {b : Bool}
theorem Tl.drew (h : Tl w0 A G s f fO fD fW b w) : Tl w0 A G s f fO fD fW b w.drew :=
  ⟨h.dev.drewN 1, h.pO, h.pD, h.pW, h.aO, h.oO, h.mv.drewN 1⟩
theorem Tl.set (h : Tl w0 A G s f fO fD fW b w) (hOD : fO ≠ fD) (hOW : fO ≠ fW) (b' : Bool) : Tl w0 A G s f fO fD fW b' (w.setCell ⟨fO, 0, none⟩ (.bool b')) := by
  have hm : Mv (fun x => x = fO) w (w.setCell ⟨fO, 0, none⟩ (.bool b')) := (Mv.refl (fun x => x = fO) w).setCell (p := ⟨fO, 0, none⟩) (fun _ => rfl) _
  exact ⟨h.dev.keep hm (fun b e _ => by subst e; exact h.aO) (fun b hb e => by subst e; exact h.oO hb), h.pO.set_ 0 _, h.pD.mv hm (fun e => hOD e.symm), h.pW.mv hm (fun e => hOW e.symm), h.aO, h.oO, h.mv.trans hm⟩
end
set_option maxRecDepth 100000 in
set_option maxHeartbeats 8000000 in
theorem tells1 (w0 : World) (A : Nat → Prop) (G : Dv) (s : DS) (f : Nat → Int) (fO fD fW : Nat) (hd : s.dead = false) (h : Tl w0 A G s f fO fD fW true w0) (hOD : fO ≠ fD) (hOW : fO ≠ fW) :
    Calls Try.prog 46 #[.pointer (some ⟨fO, 0, none⟩), .pointer (some ⟨fD, 0, none⟩), .pointer (some ⟨fW, 0, none⟩)] w0 fun e w' => e = .returned (.tuple #[]) ∧ Blk w' fO 4 #[.bool (tB s.now f 256)] ∧ Mv (fun x => x = fO) w0 w' := by
  have H := Lib.hid h
  have Hd := Lib.hid hd
  have HOD := Lib.hid hOD
  have HOW := Lib.hid hOW
  clear h hd hOD hOW
  go_enter Try.func46, Try.ntmps46
  go_wp2_with fail
  go_loopw [3] (fun v3 wr => ∃ k : Nat, v3 = .int .i64 (k : Int) ∧ 64 ≤ k ∧ k ≤ 256 ∧ Hid (Tl w0 A G s f fO fD fW (tB s.now f k) wr))
    (fun v3 _ => 256 - (intOf v3).toNat)
  case atStart => exact ⟨64, rfl, by omega, by omega, by rw [tB_zero]; exact H⟩
  case round =>
    obtain ⟨k, rfl, hk64, hk, hL⟩ := hrel
    have hbs := Lib.hid (tB_succ s.now f k hk64)
    have hwi := wrap_small (z := (k : Int) + 1) (by omega) (by omega)
    by_cases hlt : k < 256
    · have cD : wr.cell? ⟨fD, 0, none⟩ = some (.pointer (some ⟨G.d, 0, none⟩)) := (hL.out.pD.cell 0).trans rfl
      have cX : wr.cell? ⟨fW, k, none⟩ = some (.int .u64 (f k)) := (hL.out.pW.cell k).trans (words_get _ _ _ hlt)
      have fO0 := hL.out.pO.frozen 0
      have hkk : (k : Int) < 256 := by omega
      have hk0 : (0 : Int) ≤ (k : Int) := by omega
      generalize hb : tB s.now f k = b at hL hbs
      have cO : wr.cell? ⟨fO, 0, none⟩ = some (.bool b) := (hL.out.pO.cell 0).trans rfl
      clear hb
      cases b
      · rw [Bool.false_and] at hbs
        have hLs := Lib.hid ((hL.out.set HOD.out HOW.out false).drew)
        have hLn : Hid (Tl w0 A G s f fO fD fW (tB s.now f (k + 1)) (wr.setCell ⟨fO, 0, none⟩ (.bool false)).drew) := by rw [hbs.out]; exact hLs
        clear hLs hbs H HOD HOW
        generalize f k = v at cX
        go_wp2_with fail
        go_region
        go_wp2_with fail
        go_roundw
        case rel => exact ⟨k + 1, by go_num, by omega, by omega, hLn⟩
        case measure => simp [intOf]; omega
      · rw [Bool.true_and] at hbs
        have hLs := Lib.hid ((hL.out.set HOD.out HOW.out (s.now k == f k)).drew)
        have hld := Lib.hid (load_ok wr.drew A G 256 s (k : Int) (hL.out.dev.drewN 1).1 (by omega) Hd.out)
        rw [Int.toNat_natCast] at hld
        have hld : Hid (Calls Try.prog 14 #[.pointer (some ⟨G.d, 0, none⟩), .int .i64 (k : Int)] wr.drew fun e w' => e = .returned (.int .u64 (s.now k)) ∧ w' = wr.drew) := Lib.hid (hld.out.mono (fun _ _ h => ⟨h.1, h.2.symm⟩))
        have hLn : Hid (Tl w0 A G s f fO fD fW (tB s.now f (k + 1)) (wr.setCell ⟨fO, 0, none⟩ (.bool (s.now k == f k))).drew) := by rw [hbs.out]; exact hLs
        clear hLs hbs H HOD HOW
        generalize f k = v at cX hLn
        go_wp2_with fail
        go_still_tail 10, (by kernel_rfl)
        still_call hld.out
        repeat still_step
        refine wpStill_nil ?_
        change wpList _ _ _ _ _ wr.drew
        go_wp2_with fail
        go_roundw
        case rel => exact ⟨k + 1, by go_num, by omega, by omega, hLn⟩
        case measure => simp [intOf]; omega
    · have e := Lib.hid (show k = 256 by omega)
      rw [e.out] at hL
      go_wp2_with fail
      go_end0
      exact ⟨rfl, hL.out.pO, hL.out.mv⟩
set_option maxRecDepth 100000 in
set_option maxHeartbeats 8000000 in
theorem tells_any (w : World) (A : Nat → Prop) (G : Dv) (s : DS) (f : Nat → Int) (hD : DevA w A G 256 s) (hd : s.dead = false) (hway : ∀ j, s.way j = none) :
    Calls Try.prog 19 #[.pointer (some ⟨G.d, 0, none⟩), .agg (words .u64 256 f)] w fun e w' => e = .returned (.bool (tB s.now f 256)) ∧ Mv (fun _ => False) w w' := by
  have hmf : ∀ (fn : Fn) (first cap : Array Value) (w : World), (Instr.makeFunc fn first cap).run Try.prog w = .ok (.func fn first cap) w := fun _ _ _ _ => rfl
  have HD := Lib.hid hD
  have Hd := Lib.hid hd
  have Hway := Lib.hid hway
  clear hD hd hway
  go_enter Try.func19, Try.ntmps19
  go_wp2_with fail
  obtain ⟨w2, hw2⟩ : ∃ w2, w2 = ((w.alloc (.cells #[.pointer (some ⟨G.d, 0, none⟩)] 23)).alloc (.cells (words .u64 256 f) 40)).alloc (.cells #[.bool true] 4) := ⟨_, rfl⟩
  rw [← hw2]
  have m2 : Mv (fun _ => False) w w2 := by rw [hw2]; exact (((Mv.refl _ w).alloc _).alloc _).alloc _
  have bD : Blk w2 w.heap.size 23 #[.pointer (some ⟨G.d, 0, none⟩)] := by rw [hw2]; exact ((Blk.new w _ _).alloc _).alloc _
  have bW : Blk w2 (w.heap.size + 1) 40 (words .u64 256 f) := by rw [hw2]; exact (blk_new _ _ _ (by simp)).alloc _
  have bO : Blk w2 (w.heap.size + 1 + 1) 4 #[.bool true] := by rw [hw2]; exact blk_new _ _ _ (by simp)
  have s2 : w2.heap.size = w.heap.size + 3 := by rw [hw2]; simp
  clear hw2
  have hD2 := HD.out.keep m2 (fun _ e => e.elim) (fun _ _ e => e)
  have hown : ∀ b, G.own b → b < w.heap.size := HD.out.own_lt2
  have Ht := tellR 0 46 Try.f46 #[.pointer (some ⟨w.heap.size + 1 + 1, 0, none⟩), .pointer (some ⟨w.heap.size, 0, none⟩), .pointer (some ⟨w.heap.size + 1, 0, none⟩)] w2 (fun b => b = w.heap.size + 1 + 1)
    (fun w' => Blk w' (w.heap.size + 1 + 1) 4 #[.bool (tB s.now f 256)]) Try.func46 (by kernel_rfl) (by kernel_rfl) (fun b e => by omega)
    (fun v hv hs => (tells1 v (fun b => G.own b ∨ b = w.heap.size + 1 + 1) G s f (w.heap.size + 1 + 1) w.heap.size (w.heap.size + 1) Hd.out
      ⟨DevA.rebase (hD2.keep hv (fun _ e => e.elim) (fun _ _ e => e)).1 Hway.out (fun b e => .inl e) (fun b e => by rcases e with e | e; have := hown b e; omega; omega),
        bO.mv hv (fun e => e), bD.mv hv (fun e => e), bW.mv hv (fun e => e), .inr rfl, fun e => by have := hown _ e; omega, Mv.refl _ v⟩ (by omega) (by omega)))
  refine Ht.mono ?_
  rintro e w3 ⟨rfl, w4, hQ, m24, m3⟩
  clear Ht
  have b3 := hQ.mv m3 (by omega)
  have c3 : w3.cell? ⟨w.heap.size + 1 + 1, 0, none⟩ = some (.bool (tB s.now f 256)) := (b3.cell 0).trans rfl
  have M3 := Lib.hid (mv_none (mv_none m2 m24 (fun b hb e => by omega)) m3 (fun b hb e => by omega))
  clear hQ m24 m3 b3 m2 bD bW bO s2 hD2 hown HD
  generalize hb : tB s.now f 256 = b at c3
  cases b
  · go_wp2_with fail
    go_ret
    exact ⟨by simp [hb], M3.out⟩
  · go_wp2_with fail
    go_ret
    exact ⟨by simp [hb], M3.out⟩
end Go.Proofs.Ytdphillobnlpaaa
