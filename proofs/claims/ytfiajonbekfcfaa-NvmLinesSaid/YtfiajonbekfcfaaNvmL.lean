/- NvmLines: the law's walk. -/
import Derived.Test.YtfiajonbekfcfaaNvmK
namespace Go.Proofs.Ytfiajonbekfcfaa
open Go.RowKit
set_option linter.unusedVariables false
set_option maxRecDepth 100000 in
set_option maxHeartbeats 8000000 in
theorem linesW (a0 : Int) (a1 : Option Addr) (len1 cap1 : Nat) (z1 : List Int) (a2 : Option Addr) (len2 cap2 : Nat) (z2 : List Int) (w : World) (w1 : IsRow .i64 w a1 len1 cap1 z1) (w2 : IsRow .i64 w a2 len2 cap2 z2) :
    Calls Try.prog 3 #[.int .i64 a0, .slice a1 len1 cap1, .slice a2 len2 cap2] w fun e w' => e = .returned (.bool true) ∧ Below w.heap.size w w' := by
  have hmf : ∀ (fn : Fn) (first cap : Array Value) (w : World), (Instr.makeFunc fn first cap).run Try.prog w = .ok (.func fn first cap) w := fun _ _ _ _ => rfl
  obtain ⟨r1, hz1, hl1, -, -⟩ := isrow_rd w1
  obtain ⟨r2, hz2, hl2, -, -⟩ := isrow_rd w2
  obtain ⟨N, hN, hm⟩ := mask a0 63 (by decide)
  have hm' : bits .and .i64 a0 63 = (N : Int) := hm
  have R1 := Lib.hid r1
  have R2 := Lib.hid r2
  clear hm w1 w2 r1 r2
  go_enter Try.func3, Try.ntmps3
  go_wp2_with fail
  refine (new_any _ 64 (by decide)).mono ?_
  rintro e w3 ⟨G, rfl, hF, hD, hM⟩
  have hs0 := hM.size
  simp at hs0
  have bA3 : Blk w3 w.heap.size 3 #[.int .i64 a0] := Blk.mv (((Blk.new w _ _).alloc _).alloc _) hM (fun e => e)
  have bB3 : Blk w3 (w.heap.size + 1) 22 #[.slice a1 len1 cap1] := Blk.mv ((blk_new _ _ _ (by simp)).alloc _) hM (fun e => e)
  have bH3 : Blk w3 (w.heap.size + 1 + 1) 22 #[.slice a2 len2 cap2] := Blk.mv (blk_new _ _ _ (by simp)) hM (fun e => e)
  have bD4 := Blk.new w3 23 #[.pointer (some ⟨G.d, 0, none⟩)]
  have bA4 := bA3.alloc (.cells #[.pointer (some ⟨G.d, 0, none⟩)] 23)
  have cA4 : (w3.alloc (.cells #[.pointer (some ⟨G.d, 0, none⟩)] 23)).cell? ⟨w.heap.size, 0, none⟩ = some (.int .i64 a0) := (bA4.cell 0).trans rfl
  have fA4 := bA4.frozen 0
  go_wp2_with fail
  obtain ⟨F1, F2, F3, F4⟩ := hF
  simp at F1 F2 F3 F4
  have hap := hD.apart
  have own : ∀ b, G.own b → Iv w.heap.size (w3.heap.size + 4) b := fun b e => by rcases e with rfl | rfl | rfl | rfl <;> exact ⟨by omega, by omega⟩
  have own2 : ∀ b, G.own b → w.heap.size + 3 ≤ b ∧ b < w3.heap.size := fun b e => by rcases e with rfl | rfl | rfl | rfl <;> exact ⟨by omega, by omega⟩
  have hb3 : Below w.heap.size w w3 := ((((Below.refl _ w).alloc (Nat.le_refl _) _).alloc (by simp) _).alloc (by simp; omega) _).trans (hM.below (by simp; omega) (fun b e => e.elim))
  refine (tellR 0 11 Try.f11 _ _ (Iv w.heap.size (w3.heap.size + 4)) (fun w' => Blk w' (w3.heap.size + 1 + 1 + 1) 4 #[.bool true]) Try.func11 (by kernel_rfl) (by kernel_rfl) ?hS ?h).mono ?_
  case hS => intro b e; have := e.2; simp; omega
  case h =>
    intro v hv hs
    have m5 : Mv (fun b => b = w.heap.size) w3 v := Mv.trans' (((((Mv.refl (fun b => b = w.heap.size) w3).alloc _).setCell (p := ⟨w.heap.size, 0, none⟩) (fun _ => rfl) _).alloc _ |>.alloc _ |>.alloc _)) hv (fun _ _ e => e.elim)
    have hd3 : DevA w3 (Iv w.heap.size w3.heap.size) G 64 noughts := DevA.rebase hD (fun _ => rfl) (fun b e => by have := own2 b e; exact ⟨by omega, by omega⟩) (fun b e => e.2)
    have hdv := hd3.keep m5 (fun b e _ => ⟨by omega, by omega⟩) (fun b hb e => by have := own2 b hb; omega)
    have hbv : Below w.heap.size w v := hb3.trans (m5.below (by omega) (fun b e => by omega))
    have hsz := hv.size
    simp at hsz
    refine lines1 v w.heap.size (w3.heap.size + 4) G (w.heap.size + 1) w3.heap.size (w3.heap.size + 1 + 1) w.heap.size (w3.heap.size + 1) (w.heap.size + 1 + 1) (w3.heap.size + 1 + 1 + 1) a1 a2 len1 cap1 len2 cap2 N (z1.take len1) (z2.take len2) ?_ ?_ ?_ ?_ ?_ hl1 hl2
    · exact ⟨DevA.rebase hdv.1 (fun _ => rfl) own (fun b e => by have := e.2; omega),
        Blk.mv bB3 m5 (by omega), ⟨by omega, by omega⟩, fun e => by have := own2 _ e; omega,
        Blk.mv ((((bD4.far (p := ⟨w.heap.size, 0, none⟩) (by show w3.heap.size ≠ w.heap.size; omega) _).alloc _).alloc _).alloc _) hv (fun e => e), ⟨by omega, by omega⟩, fun e => by have := own2 _ e; omega,
        Blk.mv ((blk_new _ _ _ (by simp)).alloc _) hv (fun e => e), ⟨by omega, by omega⟩, fun e => by have := own2 _ e; omega,
        Blk.mv ((((bA4.set_ 0 _).alloc _).alloc _).alloc _) hv (fun e => e), ⟨by omega, by omega⟩, fun e => by have := own2 _ e; omega,
        Blk.mv (((blk_new _ _ _ (by simp)).alloc _).alloc _) hv (fun e => e), ⟨by omega, by omega⟩, fun e => by have := own2 _ e; omega,
        Blk.mv bH3 m5 (by omega), ⟨by omega, by omega⟩, fun e => by have := own2 _ e; omega,
        Blk.mv (blk_new _ _ _ (by simp)) hv (fun e => e), ⟨by omega, by omega⟩, fun e => by have := own2 _ e; omega, by omega, by omega, Mv.refl _ _⟩
    · exact R1.out.below hbv
    · exact R2.out.below hbv
    · omega
    · omega
  rintro e w6 ⟨rfl, w5, hO, hM5, hM6⟩
  have hw5 : Below w.heap.size w w5 := (hb3.trans (((((Mv.refl (fun b => b = w.heap.size) w3).alloc _).setCell (p := ⟨w.heap.size, 0, none⟩) (fun _ => rfl) _).alloc _ |>.alloc _ |>.alloc _).below (by omega) (fun b e => by omega))).trans (hM5.below (by simp; omega) (fun b e => e.1))
  have hw6 := Lib.hid (hw5.trans (hM6.below hw5.size (fun b e => by subst e; simp; omega)))
  have o6 : w6.cell? ⟨w3.heap.size + 1 + 1 + 1, 0, none⟩ = some (.bool true) := ((hO.mv hM6 (by simp)).cell 0).trans rfl
  clear hM5 hM6 hO hw5 hb3 hD hM bA3 bB3 bH3 bD4 bA4 cA4 fA4 R1 R2
  go_wp2_with fail
  refine (awake_any w6).mono ?_
  rintro e w7 ⟨rfl, hb7⟩
  have Hb7 := Lib.hid (hw6.out.trans (hb7.mono hw6.out.size))
  clear hb7
  go_wp2_with fail
  go_ret
  exact ⟨by simp, Hb7.out⟩
end Go.Proofs.Ytfiajonbekfcfaa
