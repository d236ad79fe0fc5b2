/- NvmApart: the law's walk. -/
import Derived.Test.YtfiajonbekfcfaaNvmU
namespace Go.Proofs.Ytfiajonbekfcfaa
open Go.RowKit
set_option linter.unusedVariables false
set_option maxRecDepth 100000 in
set_option maxHeartbeats 8000000 in
theorem apartW (a1 : Option Addr) (len1 cap1 : Nat) (z1 : List Int) (a2 : Option Addr) (len2 cap2 : Nat) (z2 : List Int) (a3 : Option Addr) (len3 cap3 : Nat) (z3 : List Int) (w : World) (w1 : IsRow .i64 w a1 len1 cap1 z1) (w2 : IsRow .i64 w a2 len2 cap2 z2) (w3 : IsRow .i64 w a3 len3 cap3 z3) :
    Calls Try.prog 8 #[.slice a1 len1 cap1, .slice a2 len2 cap2, .slice a3 len3 cap3] w fun e w' => e = .returned (.bool true) ∧ Below w.heap.size w w' := by
  have hmf : ∀ (fn : Fn) (first cap : Array Value) (w : World), (Instr.makeFunc fn first cap).run Try.prog w = .ok (.func fn first cap) w := fun _ _ _ _ => rfl
  obtain ⟨r1, hz1, hl1, -, -⟩ := isrow_rd w1
  obtain ⟨r2, hz2, hl2, -, -⟩ := isrow_rd w2
  obtain ⟨r3, hz3, hl3, -, hw3⟩ := isrow_rd w3
  have R1 := Lib.hid r1
  have R2 := Lib.hid r2
  have R3 := Lib.hid r3
  have Hw3 := Lib.hid hw3
  clear w1 w2 w3 r1 r2 r3 hw3
  go_enter Try.func8, Try.ntmps8
  go_wp2_with fail
  refine (new_any _ 32 (by decide)).mono ?_
  rintro e w3 ⟨G, rfl, hF, hD, hM⟩
  have hs0 := hM.size
  simp at hs0
  have bA3 : Blk w3 w.heap.size 22 #[.slice a1 len1 cap1] := Blk.mv (((Blk.new w _ _).alloc _).alloc _) hM (fun e => e)
  have bB3 : Blk w3 (w.heap.size + 1) 22 #[.slice a2 len2 cap2] := Blk.mv ((blk_new _ _ _ (by simp)).alloc _) hM (fun e => e)
  have bK3 : Blk w3 (w.heap.size + 1 + 1) 22 #[.slice a3 len3 cap3] := Blk.mv (blk_new _ _ _ (by simp)) hM (fun e => e)
  have bD4 := Blk.new w3 23 #[.pointer (some ⟨G.d, 0, none⟩)]
  go_wp2_with fail
  obtain ⟨F1, F2, F3, F4⟩ := hF
  simp at F1 F2 F3 F4
  have hap := hD.apart
  have own2 : ∀ b, G.own b → w.heap.size + 3 ≤ b ∧ b < w3.heap.size := fun b e => by rcases e with rfl | rfl | rfl | rfl <;> exact ⟨by omega, by omega⟩
  have hb3 : Below w.heap.size w w3 := ((((Below.refl _ w).alloc (Nat.le_refl _) _).alloc (by simp) _).alloc (by simp; omega) _).trans (hM.below (by simp; omega) (fun b e => e.elim))
  refine (tellR 0 28 Try.f28 _ _ (Iv w.heap.size (w3.heap.size + 2)) (fun w' => Blk w' (w3.heap.size + 1) 4 #[.bool true] ∧ Blk w' w3.heap.size 23 #[.pointer (some ⟨G.d, 0, none⟩)] ∧ ∃ (A2 : Nat → Prop) (s : DS), (∀ b, Iv w.heap.size (w3.heap.size + 4) b → A2 b) ∧ DevA w' A2 G 32 s ∧ 1 ≤ s.steps) Try.func28 (by kernel_rfl) (by kernel_rfl) ?hS ?h).mono ?_
  case hS => intro b e; have := e.2; simp; omega
  case h =>
    intro v hv hs
    have m5 : Mv (fun _ => False) w3 v := Mv.trans' (((Mv.refl (fun _ => False) w3).alloc _) |>.alloc _) hv (fun _ _ e => e.elim)
    have hbv : Below w.heap.size w v := hb3.trans (m5.below (by omega) (fun b e => e.elim))
    have hsz := hv.size
    simp at hsz hs
    refine (apart1 v w.heap.size (w3.heap.size + 2) (w3.heap.size + 4) G w.heap.size w3.heap.size (w.heap.size + 1) (w.heap.size + 1 + 1) (w3.heap.size + 1) a1 a2 a3 len1 cap1 len2 cap2 len3 cap3 (z1.take len1) (z2.take len2) (z3.take len3) ?_ (R1.out.below hbv) (R2.out.below hbv) (R3.out.below hbv) Hw3.out (by omega) (by omega) hl1 hl2 hl3).mono ?_
    · exact ⟨DevA.rebase (hD.mv m5 (fun _ _ e => e.elim) (A' := G.own) (fun _ _ e => e) hD.2.2.2.2.1 (fun _ _ e => e)) (fun _ => rfl) (fun b e => by have := own2 b e; exact ⟨by omega, by omega⟩) (fun b e => by have := e.2; omega),
        bA3.mv m5 (fun e => e), ⟨by omega, by omega⟩, fun e => by have := own2 _ e; omega,
        Blk.mv (bD4.alloc _) hv (fun e => e), ⟨by omega, by omega⟩, fun e => by have := own2 _ e; omega,
        bB3.mv m5 (fun e => e), ⟨by omega, by omega⟩, fun e => by have := own2 _ e; omega,
        bK3.mv m5 (fun e => e), ⟨by omega, by omega⟩, fun e => by have := own2 _ e; omega,
        Blk.mv (blk_new _ _ _ (by simp)) hv (fun e => e), ⟨by omega, by omega⟩, fun e => by have := own2 _ e; omega,
        by omega, by omega, by omega, fun b e => by have := own2 b e; exact ⟨by omega, by omega⟩, by omega, Mv.refl _ _⟩
    · rintro e w' ⟨he, hO, hD', hm, hs⟩
      exact ⟨he, ⟨hO, hD', hs⟩, hm⟩
  rintro e w6 ⟨rfl, w5, ⟨hO, hD5, A2, s, hA2, hA5, hst⟩, hM5, hM6⟩
  have hw5 : Below w.heap.size w w5 := (hb3.trans ((((Mv.refl (fun _ => False) w3).alloc _) |>.alloc _).below (by omega) (fun b e => e.elim))).trans (hM5.below (by simp; omega) (fun b e => e.1))
  have hw6 := Lib.hid (hw5.trans (hM6.below hw5.size (fun b e => by subst e; simp; omega)))
  have o6 : w6.cell? ⟨w3.heap.size + 1, 0, none⟩ = some (.bool true) := ((hO.mv hM6 (by simp)).cell 0).trans rfl
  have d6 : w6.cell? ⟨w3.heap.size, 0, none⟩ = some (.pointer (some ⟨G.d, 0, none⟩)) := ((hD5.mv hM6 (by simp; omega)).cell 0).trans rfl
  have hA6 := Lib.hid (hA5.keep hM6 (fun b e _ => by subst e; exact hA2 _ (by simp; exact ⟨by omega, by omega⟩)) (fun b hb e => by have := own2 b hb; subst e; simp at this; omega))
  have hge : ¬ s.steps < 1 := by omega
  have hge2 : decide (s.steps ≥ 1) = true := by simp; omega
  clear hM5 hM6 hO hD5 hA5 hw5 hb3 hD hM bA3 bB3 bK3 bD4 R1 R2 R3 hA2
  go_wp2_with fail
  refine (steps_any w6 _ G 32 s hA6.out.1).mono ?_
  rintro e w7 ⟨rfl, rfl⟩
  go_wp2_with fail
  refine (awake_any w6).mono ?_
  rintro e w8 ⟨rfl, hb9⟩
  have Hb9 := Lib.hid (hw6.out.trans (hb9.mono hw6.out.size))
  clear hb9
  go_wp2_with fail
  go_ret
  exact ⟨by simp, Hb9.out⟩
end Go.Proofs.Ytfiajonbekfcfaa
