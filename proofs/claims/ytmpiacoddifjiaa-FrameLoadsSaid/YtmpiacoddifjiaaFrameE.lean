/- The walk of awake. -/
import Derived.Test.YtmpiacoddifjiaaFrameD
import Derived.Lib.SlBytesConst
namespace Go.Proofs.Ytmpiacoddifjiaa
open Go.RowKit
set_option linter.unusedVariables false
def AwPost (w : World) (e : Ending) (w' : World) : Prop := e = .returned (.bool true) ∧ Below w.heap.size w w'
theorem feed0 (B G : Nat) (l m : List Nat) (S : Option Addr) (k sc : Nat) (w : World) (hb : ∀ i, l.getD i 0 < 256) (hbm : ∀ i, m.getD i 0 < 256) (hl : l.length + k ≤ 10000000) (hB : B ≤ w.heap.size)
    (hf : Frm w B G l 0 false) (hr : Reads w w.heap.size 1 S k (Ints .u8 m)) :
    Calls Try.prog 11 #[.pointer (some ⟨G, 0, none⟩), .slice S k sc] w fun e w' => e = .returned (.tuple #[]) ∧ Frm w' B G (l ++ m) 0 false ∧ Below B w w' := by
  refine (feed_any B G l m 0 false S k sc w hb hbm hl (by decide) hB hf hr).mono ?_
  rintro e w' ⟨h1, h2, h3⟩
  have e1 : stl (l ++ m) 0 false = l ++ m := by simp [stl, skp]
  have e2 : stn (l ++ m) 0 false = 0 := by simp [stn, skn]
  rw [e1, e2] at h2
  exact ⟨h1, h2, h3⟩
theorem line0 (B G : Nat) (l : List Nat) (w : World) (hb : ∀ i, l.getD i 0 < 256) (hl : l.length ≤ 10000000) (hB : B ≤ w.heap.size) (hf : Frm w B G l 0 false) :
    Calls Try.prog 12 #[.pointer (some ⟨G, 0, none⟩)] w fun e w' => Ln2 B G l e w' ∧ Below B w w' := by
  refine (line_any B G l 0 false w hb hl (by decide) hB hf).mono ?_
  rintro e w' ⟨_, h2, h3⟩
  have e1 : stl l 0 false = l := by simp [stl, skp]
  have e2 : str l 0 false = true := by simp [str, stb, stn, skn]
  have := h2 e2
  rw [e1] at this
  exact ⟨this, h3⟩
theorem lt3 {x y z : Nat} (hx : x < 256) (hy : y < 256) (hz : z < 256) : ∀ i, [x, y, z].getD i 0 < 256 := by
  intro i
  match i with
  | 0 => exact hx
  | 1 => exact hy
  | 2 => exact hz
  | i + 3 => simp
theorem mark_reads (w : World) (e : TypeId) (l : List Nat) (n : Nat) (fr : Nat × Nat) (hl : l.length = n) (C : Array Value) (hC : C = (Ints .u8 l).toArray) : Reads (w.alloc (.cells C e fr)) (w.alloc (.cells C e fr)).heap.size 1 (some ⟨w.heap.size, 0, none⟩) n (Ints .u8 l) := by
  subst hC
  refine ⟨by rw [Ints_length]; omega, fun _ => ⟨_, rfl, by simp, fun j u hu => ?_⟩⟩
  rw [addr_row, World.cell?_alloc_mark, List.getElem?_toArray]
  exact hu
theorem ln_a : lineS [97, 10, 98] = [97] ∧ lineO [97, 10, 98] = true ∧ lineE [97, 10, 98] = 0 ∧ lfi [97, 10, 98] = 1 := by decide +kernel
theorem ln_b : lineS [98] = [] ∧ lineO [98] = false ∧ lineE [98] = 0 ∧ lfi [98] = 1 := by decide +kernel
theorem str_a : strB [97] = ⟨#[97]⟩ := by decide
theorem lineA (B G : Nat) (w : World) (hB : B ≤ w.heap.size) (hf : Frm w B G [97, 10, 98] 0 false) :
    Calls Try.prog 12 #[.pointer (some ⟨G, 0, none⟩)] w fun e w' => e = .returned (.tuple #[.string ⟨#[97]⟩, .bool true, .int .i64 0]) ∧ Frm w' B G [98] 0 false ∧ Below B w w' := by
  refine (line0 B G _ w (lt3 (by decide) (by decide) (by decide)) (by decide) hB hf).mono ?_
  rintro e w' ⟨⟨h1, _, _, h4⟩, h5⟩
  obtain ⟨a1, a2, a3, a4⟩ := ln_a
  rw [a1, a2, a3, str_a] at h1
  rw [a4] at h4
  exact ⟨h1, h4 (by decide), h5⟩
theorem lineB (B G : Nat) (w : World) (hB : B ≤ w.heap.size) (hf : Frm w B G [98] 0 false) :
    Calls Try.prog 12 #[.pointer (some ⟨G, 0, none⟩)] w fun e w' => e = .returned (.tuple #[.string ⟨#[]⟩, .bool false, .int .i64 0]) ∧ Frm w' B G [98] 0 false ∧ Below B w w' := by
  refine (line0 B G _ w (one_lt (by decide)) (by decide) hB hf).mono ?_
  rintro e w' ⟨⟨h1, h2, _, _⟩, h5⟩
  obtain ⟨a1, a2, a3, a4⟩ := ln_b
  rw [a1, a2, a3] at h1
  rw [a4] at h2
  exact ⟨h1, h2 rfl (by decide), h5⟩
set_option maxRecDepth 100000 in
set_option maxHeartbeats 1000000 in
theorem awake_any (w : World) : Calls Try.prog 9 #[] w (AwPost w) := by
  have kc := fun (w : World) (C : Array Value) (n c : Nat) => Lib.run_convert_bytes_const (P := Try.prog) w 26 5 C n c Try.underlying26 Try.underlying5
  go_enter Try.func9, Try.ntmps9
  go_wp2_with fail
  refine (new_any w.heap.size w (Nat.le_refl _)).mono ?_
  rintro e w1 ⟨rfl, hf1, hb1⟩
  have Hf1 := Lib.hid hf1
  have Hb1 := Lib.hid hb1
  clear hf1 hb1
  go_wp2_with fail
  have hsz1 := Hb1.out.size
  refine (feed0 w.heap.size w.heap.size [] [97, 10, 98] _ 3 3 _ (by simp) (lt3 (by decide) (by decide) (by decide)) (by decide) (by simp; omega) (Hf1.out.alloc _) (mark_reads w1 5 [97, 10, 98] 3 (3, 4) rfl _ rfl)).mono ?_
  rintro e w2 ⟨rfl, hf2, hb2⟩
  have Hf2 := Lib.hid hf2
  have Hb2 := Lib.hid ((Hb1.out.alloc hsz1 _).trans hb2)
  clear hf2 hb2
  go_wp2_with fail
  refine (lineA w.heap.size w.heap.size w2 Hb2.out.size Hf2.out).mono ?_
  rintro e w3 ⟨rfl, hf3, hb3⟩
  have Hf3 := Lib.hid hf3
  have Hb3 := Lib.hid (Hb2.out.trans hb3)
  clear hf3 hb3
  go_wp2_with fail
  refine (lineB w.heap.size w.heap.size w3 Hb3.out.size Hf3.out).mono ?_
  rintro e w4 ⟨rfl, hf4, hb4⟩
  have Hf4 := Lib.hid hf4
  have Hb4 := Lib.hid (Hb3.out.trans hb4)
  clear hf4 hb4
  go_wp2_with fail
  refine (waiting_any w.heap.size w.heap.size [98] 0 false w4 Hf4.out).mono ?_
  rintro e w5 ⟨rfl, rfl⟩
  go_wp2_with fail
  go_ret
  exact ⟨rfl, Hb4.out⟩
end Go.Proofs.Ytmpiacoddifjiaa
