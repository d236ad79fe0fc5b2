/- mark's queue: its methods, and heap's calls of them. -/
import Derived.Test.YtogdmmjonojdfaaMarkA
namespace Go.Proofs.Ytogdmmjonojdfaa
open Go.RowKit
set_option linter.unusedVariables false

/-- The queue at q: n numbers f at the head of block g. -/
structure Qs (w : World) (q g c n : Nat) (f : Nat → Int) : Prop where
  cell : Blk w q 44 #[.slice (some ⟨g, 0, none⟩) n c]
  row : IRow w g c n f
theorem Qs.drewN {w : World} {q g c n : Nat} {f : Nat → Int} (h : Qs w q g c n f) (m : Nat) : Qs (w.drewN m) q g c n f := ⟨h.cell, h.row⟩
theorem Qs.ne {w : World} {q g c n : Nat} {f : Nat → Int} (h : Qs w q g c n f) : q ≠ g := h.row.ne_ h.cell (by decide)

theorem isnan (x : Int) (w : World) : Calls Try.prog 53 #[.int .i64 x] w (fun e w' => e = .returned (.bool false) ∧ w' = w) := by
  go_enter Try.func53, Try.ntmps53
  go_wp2_with fail
  go_ret
  simp
theorem less_int (x y : Int) (w : World) : Calls Try.prog 42 #[.int .i64 x, .int .i64 y] w (fun e w' => e = .returned (.bool (decide (x < y))) ∧ w' = w) := by
  go_enter Try.func42, Try.ntmps42
  go_wp2_with (go_at_call 53; refine (isnan _ _).mono ?_; rintro e w' ⟨rfl, rfl⟩)
  go_ret
  simp
theorem qless (w : World) (q g c n : Nat) (f : Nat → Int) (h : Qs w q g c n f) (i j : Nat) (hi : i < n) (hj : j < n) :
    Calls Try.prog 72 #[.slice (some ⟨g, 0, none⟩) n c, .int .i64 i, .int .i64 j] w (fun e w' => e = .returned (.bool (decide (f i < f j))) ∧ ∃ m, w' = w.drewN m) := by
  have h1 : ∀ m, (w.drewN m).cell? ⟨g, i, none⟩ = some (.int .i64 (f i)) := fun m => (h.drewN m).row.cell hi
  have h2 : ∀ m, (w.drewN m).cell? ⟨g, j, none⟩ = some (.int .i64 (f j)) := fun m => (h.drewN m).row.cell hj
  clear h
  go_enter Try.func72, Try.ntmps72
  go_wp2_with fail
  have Hl : Hid (∀ m, Calls Try.prog 42 #[.int .i64 (f i), .int .i64 (f j)] (w.drewN m) fun e w' => e = .returned (.bool (decide (f i < f j))) ∧ ∃ m', w' = w.drewN m') := Lib.hid (fun m => (less_int (f i) (f j) (w.drewN m)).mono (by rintro e w' ⟨rfl, rfl⟩; exact ⟨rfl, _, rfl⟩))
  go_quiet (first | (go_at_call 42; exact Hl.out _))
  go_wp2_with fail
  go_ret
  exact ⟨by simp, _, rfl⟩
theorem qlen (w : World) (A : Option Addr) (n c : Nat) : Calls Try.prog 22 #[.slice A n c] w (fun e w' => e = .returned (.int .i64 n) ∧ w' = w) := by
  go_enter Try.func22, Try.ntmps22
  go_wp2_with fail
  go_ret
  simp
theorem qswap (w : World) (q g c n : Nat) (f : Nat → Int) (h : Qs w q g c n f) (i j : Nat) (hi : i < n) (hj : j < n) :
    Calls Try.prog 75 #[.slice (some ⟨g, 0, none⟩) n c, .int .i64 i, .int .i64 j] w (fun e w' => e = .returned (.tuple #[]) ∧ Qs w' q g c n (upd (upd f i (f j)) j (f i)) ∧ Mv (fun b => b = g) w w') := by
  have h1 : ∀ m, (w.drewN m).cell? ⟨g, i, none⟩ = some (.int .i64 (f i)) := fun m => (h.drewN m).row.cell hi
  have h2 : ∀ m, (w.drewN m).cell? ⟨g, j, none⟩ = some (.int .i64 (f j)) := fun m => (h.drewN m).row.cell hj
  have Hh := Lib.hid h
  clear h
  go_enter Try.func75, Try.ntmps75
  have f1 : ∀ m, (w.drewN m).frozen? ⟨g, i, none⟩ = false := fun m => (Hh.out.drewN m).row.frozen i
  have f2 : ∀ m, (w.drewN m).frozen? ⟨g, j, none⟩ = false := fun m => (Hh.out.drewN m).row.frozen j
  go_wp2_with fail
  have d1 : w.drew.cell? ⟨g, i, none⟩ = some (.int .i64 (f i)) := h1 1
  have d2 : w.drew.cell? ⟨g, j, none⟩ = some (.int .i64 (f j)) := h2 1
  have e1 : w.drew.frozen? ⟨g, i, none⟩ = false := f1 1
  have e2 : w.drew.frozen? ⟨g, j, none⟩ = false := f2 1
  have R1 := (Hh.out.row.set_ i (f j))
  have s1 : (w.setCell ⟨g, i, none⟩ (.int .i64 (f j))).cell? ⟨g, j, none⟩ = some (.int .i64 (upd f i (f j) j)) := R1.cell hj
  have s2 : (w.setCell ⟨g, i, none⟩ (.int .i64 (f j))).frozen? ⟨g, j, none⟩ = false := R1.frozen j
  clear h1 h2 f1 f2 R1
  go_region
  go_end0
  have hQ := Hh.out
  have m1 : Mv (fun b => b = g) w ((w.setCell ⟨g, i, none⟩ (.int .i64 (f j))).setCell ⟨g, j, none⟩ (.int .i64 (f i))).drew := ((((Mv.refl (fun b => b = g) w).setCell (p := ⟨g, i, none⟩) (fun _ => rfl) _).setCell (p := ⟨g, j, none⟩) (fun _ => rfl) _).drew)
  exact ⟨rfl, ⟨hQ.cell.mv m1 hQ.ne, ((hQ.row.set_ i (f j)).set_ j (f i))⟩, m1⟩
theorem infoI : (Try.prog.info? 3).map (fun i => (i.zero, i.size, i.bytes)) = some (some (.int .i64 0), 1, 8) := by kernel_rfl
theorem assert_int (v : Value) (w : World) : (Instr.typeAssert (.iface 3 v) 20 3 true).run Try.prog w = .ok (.tuple #[v, .bool true]) w := by kernel_rfl
theorem wrap_small {z : Int} (h1 : -9223372036854775808 ≤ z) (h2 : z < 9223372036854775808) : IntKind.i64.wrap z = z := IntWalk.i64_in _ (by omega)
theorem qpush (w : World) (q g c n : Nat) (f : Nat → Int) (h : Qs w q g c n f) (hn : n < 1000000) (x : Int) :
    Calls Try.prog 74 #[.pointer (some ⟨q, 0, none⟩), .iface 3 (.int .i64 x)] w (fun e w' => e = .returned (.tuple #[]) ∧ ∃ g' c', Qs w' q g' c' (n + 1) (upd f n x) ∧ (g' = g ∨ w.heap.size ≤ g') ∧ Mv (fun b => b = q ∨ b = g) w w') := by
  obtain ⟨i0, hi, hz0, hz1, hz2⟩ := info_parts infoI
  have c1 : w.cell? ⟨q, 0, none⟩ = some (.slice (some ⟨g, 0, none⟩) n c) := (h.cell.cell 0).trans rfl
  have Hh := Lib.hid h
  have hown := h.row.own 0 (Nat.zero_le _)
  have hta := assert_int (.int .i64 x) w
  clear h
  go_enter Try.func74, Try.ntmps74
  go_wp2_with (at_builtin; refine wpList_pushZ w rfl (.tmp 15) (.tmp 17) 44 rfl 0 3 i0 .i64 8 Try.underlying44 hi hz0 hz1 hz2 (some ⟨g, 0, none⟩) n c _ rfl hown x 1 rfl (by unfold maxLen; omega) (by omega) (Nat.zero_le _) ?_; intro g' c' w1 hown1 hgrow1 hsz1 hg1; have hB1 := Hh.out.cell.grown hgrow1 (fun e => Hh.out.ne (Option.some.inj e)); have k1 : w1.cell? ⟨q, 0, none⟩ = some (.slice (some ⟨g, 0, none⟩) n c) := (hB1.cell 0).trans rfl; have k2 : w1.frozen? ⟨q, 0, none⟩ = false := hB1.frozen 0; have Hown := Lib.hid hown1; have Hgrow := Lib.hid hgrow1; have Hg := Lib.hid hg1; have HB := Lib.hid hB1; clear hown hown1 hgrow1 hg1 hB1)
  go_end0
  rw [range_push] at Hown
  obtain ⟨b, e1, -, hr⟩ := IRow.of_own Hown.out (by omega)
  injection e1 with e1
  injection e1 with e1
  subst e1
  have m1 : Mv (fun b => b = q ∨ b = g) w w1 := (Mv.refl _ w).grown Hgrow.out (fun g0 e _ => .inr (Option.some.inj e).symm)
  have hne : q ≠ g' := hr.ne_ HB.out (by decide)
  refine ⟨rfl, g', c', ⟨HB.out.set_ 0 _, ?_⟩, ?_, m1.setCell (p := ⟨q, 0, none⟩) (fun _ => .inl rfl) _⟩
  · exact hr.mv ((Mv.refl (fun b => b = q) w1).setCell (p := ⟨q, 0, none⟩) (fun _ => rfl) _) (fun e => hne e.symm)
  · rcases Hg.out with e | e
    · exact .inl (Option.some.inj e).symm
    · exact .inr e
theorem qpop (w : World) (q g c n : Nat) (f : Nat → Int) (h : Qs w q g c n f) (hn : 0 < n) (hb : n < 1000000) :
    Calls Try.prog 73 #[.pointer (some ⟨q, 0, none⟩)] w (fun e w' => e = .returned (.iface 3 (.int .i64 (f (n - 1)))) ∧ Qs w' q g c (n - 1) f ∧ Mv (fun b => b = q) w w') := by
  have c1 : w.cell? ⟨q, 0, none⟩ = some (.slice (some ⟨g, 0, none⟩) n c) := (h.cell.cell 0).trans rfl
  have c2 : w.frozen? ⟨q, 0, none⟩ = false := h.cell.frozen 0
  have c3 : w.cell? ⟨g, n - 1, none⟩ = some (.int .i64 (f (n - 1))) := h.row.cell (by omega)
  have hcap := h.row.cap
  have hw := wrap_small (z := (n : Int) - 1) (by omega) (by omega)
  have Hh := Lib.hid h
  clear h
  go_enter Try.func73, Try.ntmps73
  go_wp2_with fail
  go_ret
  have m1 : Mv (fun b => b = q) w (w.setCell ⟨q, 0, none⟩ (.slice (some ⟨g, 0, none⟩) (n - 1) c)) := (Mv.refl (fun b => b = q) w).setCell (p := ⟨q, 0, none⟩) (fun _ => rfl) _
  have hr := Hh.out.row.mv m1 (fun e => Hh.out.ne e.symm)
  obtain ⟨cs, r1, r2, r3, r4, r5⟩ := hr
  exact ⟨by simp, ⟨Hh.out.cell.set_ 0 _, cs, r1, r2, by omega, r4, fun i hi => r5 i (by omega)⟩, m1⟩
end Go.Proofs.Ytogdmmjonojdfaa
