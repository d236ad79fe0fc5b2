/- The contract of Copy. -/
import Derived.Test.YtfiajonbekfcfaaNvmR
import Derived.Maps.Ext
import Derived.Deep.RegionWith
import Derived.Deep.Cut
namespace Go.Proofs.Ytfiajonbekfcfaa
open Go.RowKit
open Go.Maps (Keyed)
open Go.ChangeMaps
set_option linter.unusedVariables false
theorem word_one {n : Nat} {f : Nat → Int} : ∀ u ∈ (List.range n).map (fun j => Value.int .u64 (f (0 + j))), u.oneCell' = true := by
  intro u hu
  simp at hu
  obtain ⟨_, _, rfl⟩ := hu
  rfl
/-- Before the lines are copied: the new device's blocks. -/
structure Mid (w : World) (G' : Dv) (n : Nat) (s : DS) (W : World) : Prop where
  b : Blk W G'.d 51 #[.slice (some ⟨G'.n, 0, none⟩) n G'.cn, .slice (some ⟨G'.l, 0, none⟩) n G'.cl, .map (some G'.m), .int .i64 s.steps, .int .i64 s.fuse, .bool s.dead]
  rn : Row W G'.n G'.cn n s.now
  rl : Row W G'.l G'.cl n s.last
  mp : IsMp W G'.m
  ne : G'.n ≠ G'.l
  new : ∀ x, G'.own x → w.heap.size ≤ x ∧ x < W.heap.size
  mv : Mv (fun _ => False) w W
theorem mid_fin {w X : World} {n : Nat} {s : DS} {c n' l' m' cn' cl' : Nat} {x0 x1 x2 : Value} (hb : Blk X c 51 #[x0, x1, x2, .int .i64 s.steps, .int .i64 s.fuse, .bool s.dead]) (hn : Row X n' cn' n s.now) (hl : Row X l' cl' n s.last) (hm : IsMp X m') (hne : n' ≠ l')
    (hnew : w.heap.size ≤ c ∧ w.heap.size ≤ n' ∧ w.heap.size ≤ l' ∧ w.heap.size ≤ m') (hmv : Mv (fun _ => False) w X) :
    Mid w ⟨c, n', l', m', cn', cl'⟩ n s (((X.setCell ⟨c, 0, none⟩ (.slice (some ⟨n', 0, none⟩) n cn')).setCell ⟨c, 1, none⟩ (.slice (some ⟨l', 0, none⟩) n cl')).setCell ⟨c, 2, none⟩ (.map (some m'))) := by
  have hM : Mv (fun b => b = c) X (((X.setCell ⟨c, 0, none⟩ (.slice (some ⟨n', 0, none⟩) n cn')).setCell ⟨c, 1, none⟩ (.slice (some ⟨l', 0, none⟩) n cl')).setCell ⟨c, 2, none⟩ (.map (some m'))) :=
    (((Mv.refl (fun b => b = c) X).setCell (p := ⟨c, 0, none⟩) (fun _ => rfl) _).setCell (p := ⟨c, 1, none⟩) (fun _ => rfl) _).setCell (p := ⟨c, 2, none⟩) (fun _ => rfl) _
  have hmc : m' ≠ c := by
    rintro rfl
    unfold Blk at hb
    unfold IsMp at hm
    rw [hm] at hb
    cases hb
  have hlm : m' < X.heap.size := lt_of_block hm
  have hsz := hM.size
  refine ⟨((hb.set_ 0 _).set_ 1 _).set_ 2 _, hn.mv hM (fun e => hn.ne_ hb (by decide) e.symm), hl.mv hM (fun e => hl.ne_ hb (by decide) e.symm), (hM.block m' hlm hmc).trans hm, hne, fun x hx => ?_, hmv.trans' hM (fun b hb' e => by omega)⟩
  have h1 := hb.lt
  have h2 := hn.lt
  have h3 := hl.lt
  rcases hx with rfl | rfl | rfl | rfl
  · exact ⟨hnew.1, Nat.lt_of_lt_of_le h1 hsz⟩
  · exact ⟨hnew.2.1, Nat.lt_of_lt_of_le h2 hsz⟩
  · exact ⟨hnew.2.2.1, Nat.lt_of_lt_of_le h3 hsz⟩
  · exact ⟨hnew.2.2.2, Nat.lt_of_lt_of_le hlm hsz⟩
theorem mid_gen {w w3 W : World} {n : Nat} {s : DS} {c n' l' m' cn' cl' : Nat} {cs : Array Value} (h3 : Mv (fun _ => False) w w3) (hM : Mv (fun b => b = c) w3 W) (hb0 : Blk w3 c 51 cs) (hc : c = w.heap.size)
    (hb : Blk W c 51 #[.slice (some ⟨n', 0, none⟩) n cn', .slice (some ⟨l', 0, none⟩) n cl', .map (some m'), .int .i64 s.steps, .int .i64 s.fuse, .bool s.dead]) (hn : Row w3 n' cn' n fun j => s.now (0 + j)) (hl : Row w3 l' cl' n fun j => s.last (0 + j)) (hm : IsMp W m') (hne : n' ≠ l')
    (h1 : w.heap.size ≤ n') (h2 : w.heap.size ≤ l') (h4 : w.heap.size ≤ m') : Mid w ⟨c, n', l', m', cn', cl'⟩ n s W := by
  have l1 := hn.lt
  have l2 := hl.lt
  have l3 := hb.lt
  have l4 : m' < W.heap.size := lt_of_block hm
  have hsz := hM.size
  refine ⟨hb, (hn.mv hM (fun e => hn.ne_ hb0 (by decide) e.symm)).congr (fun i _ => by rw [Nat.zero_add]), (hl.mv hM (fun e => hl.ne_ hb0 (by decide) e.symm)).congr (fun i _ => by rw [Nat.zero_add]), hm, hne, fun x hx => ?_, h3.trans' hM (fun b hb' e => by omega)⟩
  rcases hx with e | e | e | e
  · rw [show x = c from e]; exact ⟨by omega, l3⟩
  · rw [show x = n' from e]; exact ⟨h1, Nat.lt_of_lt_of_le l1 hsz⟩
  · rw [show x = l' from e]; exact ⟨h2, Nat.lt_of_lt_of_le l2 hsz⟩
  · rw [show x = m' from e]; exact ⟨h4, l4⟩
theorem mp_set {w : World} {g : Nat} (h : IsMp w g) {c i : Nat} {v : Value} (hc : g ≠ c) : IsMp (w.setCell ⟨c, i, none⟩ v) g := (Below.heap_setCell w ⟨c, i, none⟩ v g hc).trans h
theorem mid_a {w w3 : World} {n : Nat} {s : DS} {c n' l' m' cn' cl' : Nat} {x0 x1 x2 : Value} (h3 : Mv (fun _ => False) w w3) (hb0 : Blk w3 c 51 #[x0, x1, x2, .int .i64 s.steps, .int .i64 s.fuse, .bool s.dead]) (hc : c = w.heap.size) (hn : Row w3 n' cn' n fun j => s.now (0 + j)) (hl : Row w3 l' cl' n fun j => s.last (0 + j)) (hm : IsMp w3 m') (hmc : m' ≠ c) (hne : n' ≠ l')
    (h1 : w.heap.size ≤ n') (h2 : w.heap.size ≤ l') (h4 : w.heap.size ≤ m') : Mid w ⟨c, n', l', m', cn', cl'⟩ n s ((((((w3).setCell ⟨c, 0, none⟩ (.slice (some ⟨n', 0, none⟩) n cn'))).setCell ⟨c, 1, none⟩ (.slice (some ⟨l', 0, none⟩) n cl'))).setCell ⟨c, 2, none⟩ (.map (some m'))) :=
  mid_gen h3 (((((((Mv.refl (fun b => b = c) w3).setCell (p := ⟨c, 0, none⟩) (fun _ => rfl) _)).setCell (p := ⟨c, 1, none⟩) (fun _ => rfl) _)).setCell (p := ⟨c, 2, none⟩) (fun _ => rfl) _)) hb0 hc (((hb0.set_ 0 _).set_ 1 _).set_ 2 _) hn hl (mp_set (mp_set (mp_set hm hmc) hmc) hmc) hne h1 h2 h4
theorem mid_b {w w3 : World} {n : Nat} {s : DS} {c n' l' cn' cl' : Nat} {x0 x1 x2 : Value} (h3 : Mv (fun _ => False) w w3) (hb0 : Blk w3 c 51 #[x0, x1, x2, .int .i64 s.steps, .int .i64 s.fuse, .bool s.dead]) (hc : c = w.heap.size) (hn : Row w3 n' cn' n fun j => s.now (0 + j)) (hl : Row w3 l' cl' n fun j => s.last (0 + j)) (hmc : w3.heap.size ≠ c) (hne : n' ≠ l')
    (h1 : w.heap.size ≤ n') (h2 : w.heap.size ≤ l') (h4 : w.heap.size ≤ w3.heap.size) : Mid w ⟨c, n', l', w3.heap.size, cn', cl'⟩ n s ((((((w3.alloc (.map #[] 0)).setCell ⟨c, 0, none⟩ (.slice (some ⟨n', 0, none⟩) n cn'))).setCell ⟨c, 1, none⟩ (.slice (some ⟨l', 0, none⟩) n cl'))).setCell ⟨c, 2, none⟩ (.map (some w3.heap.size))) :=
  mid_gen h3 ((((((((Mv.refl (fun b => b = c) w3).alloc _).setCell (p := ⟨c, 0, none⟩) (fun _ => rfl) _)).setCell (p := ⟨c, 1, none⟩) (fun _ => rfl) _)).setCell (p := ⟨c, 2, none⟩) (fun _ => rfl) _)) hb0 hc ((((hb0.alloc _).set_ 0 _).set_ 1 _).set_ 2 _) hn hl (mp_set (mp_set (mp_set (mp_new w3 rfl) hmc) hmc) hmc) hne h1 h2 h4
theorem mid_c {w w3 : World} {n : Nat} {s : DS} {c n' l' cn' cl' : Nat} {x0 x1 x2 : Value} (h3 : Mv (fun _ => False) w w3) (hb0 : Blk w3 c 51 #[x0, x1, x2, .int .i64 s.steps, .int .i64 s.fuse, .bool s.dead]) (hc : c = w.heap.size) (hn : Row w3 n' cn' n fun j => s.now (0 + j)) (hl : Row w3 l' cl' n fun j => s.last (0 + j)) (hmc : w3.heap.size ≠ c) (hne : n' ≠ l')
    (h1 : w.heap.size ≤ n') (h2 : w.heap.size ≤ l') (h4 : w.heap.size ≤ w3.heap.size) : Mid w ⟨c, n', l', w3.heap.size, cn', cl'⟩ n s (((((((w3).setCell ⟨c, 0, none⟩ (.slice (some ⟨n', 0, none⟩) n cn'))).alloc (.map #[] 0)).setCell ⟨c, 1, none⟩ (.slice (some ⟨l', 0, none⟩) n cl'))).setCell ⟨c, 2, none⟩ (.map (some w3.heap.size))) :=
  mid_gen h3 ((((((((Mv.refl (fun b => b = c) w3).setCell (p := ⟨c, 0, none⟩) (fun _ => rfl) _)).alloc _).setCell (p := ⟨c, 1, none⟩) (fun _ => rfl) _)).setCell (p := ⟨c, 2, none⟩) (fun _ => rfl) _)) hb0 hc ((((hb0.set_ 0 _).alloc _).set_ 1 _).set_ 2 _) hn hl (mp_set (mp_set (mp_new _ (by simp [World.setCell])) hmc) hmc) hne h1 h2 h4
theorem mid_d {w w3 : World} {n : Nat} {s : DS} {c n' l' cn' cl' : Nat} {x0 x1 x2 : Value} (h3 : Mv (fun _ => False) w w3) (hb0 : Blk w3 c 51 #[x0, x1, x2, .int .i64 s.steps, .int .i64 s.fuse, .bool s.dead]) (hc : c = w.heap.size) (hn : Row w3 n' cn' n fun j => s.now (0 + j)) (hl : Row w3 l' cl' n fun j => s.last (0 + j)) (hmc : w3.heap.size ≠ c) (hne : n' ≠ l')
    (h1 : w.heap.size ≤ n') (h2 : w.heap.size ≤ l') (h4 : w.heap.size ≤ w3.heap.size) : Mid w ⟨c, n', l', w3.heap.size, cn', cl'⟩ n s (((((((w3).setCell ⟨c, 0, none⟩ (.slice (some ⟨n', 0, none⟩) n cn'))).setCell ⟨c, 1, none⟩ (.slice (some ⟨l', 0, none⟩) n cl'))).alloc (.map #[] 0)).setCell ⟨c, 2, none⟩ (.map (some w3.heap.size))) :=
  mid_gen h3 ((((((((Mv.refl (fun b => b = c) w3).setCell (p := ⟨c, 0, none⟩) (fun _ => rfl) _)).setCell (p := ⟨c, 1, none⟩) (fun _ => rfl) _)).alloc _).setCell (p := ⟨c, 2, none⟩) (fun _ => rfl) _)) hb0 hc ((((hb0.set_ 0 _).set_ 1 _).alloc _).set_ 2 _) hn hl (mp_set (mp_new _ (by simp [World.setCell])) hmc) hne h1 h2 h4
theorem mp_own {w : World} {g : Nat} (h : IsMp w g) : w.ownsMap Try.prog 3 lineR g 0 (.map []) := ⟨#[], 0, h, ⟨by simp, MapKept.stamped_empty 0, by simp⟩, Nat.le_refl _, rfl⟩
theorem mp_mv {S : Nat → Prop} {w w' : World} {g : Nat} (h : IsMp w g) (hm : Mv S w w') (hg : ¬ S g) : IsMp w' g := (hm.block g (lt_of_block h) hg).trans h
/-- The copy stands. -/
theorem copy_fin {w W0 W : World} {A : Nat → Prop} {G G' : Dv} {n bd cnt : Nat} {s : DS} {D D' : DataW Unit} {left : Lit → Bool} (h : DevA w A G n s) (hL : Lines w A n D s.way) (hD : Maps.size D ≤ s.steps.toNat) (hMid : Mid w G' n s W0) (hM : Mv (fun b => b = G'.m) W0 W)
    (hown : W.ownsMap Try.prog 3 lineR G'.m bd D') (hA : Maps.Agree D' D left) (hl : ∀ k, left k = false) (hbd : bd + cnt ≤ Maps.size D) :
    DevA W (fun b => A b ∨ G'.own b) G n s ∧ DevA W (fun b => A b ∨ G'.own b) G' n s ∧ (∀ x, G'.own x → w.heap.size ≤ x) ∧ Mv (fun _ => False) w W := by
  have hM2 : Mv (fun _ => False) w W := hMid.mv.trans' hM (fun b hb e => by have := hMid.new b (by subst e; exact .inr (.inr (.inr rfl))); omega)
  have hsz := hM.size
  have hA' : ∀ b, (A b ∨ G'.own b) → b < W.heap.size := fun b e => by
    rcases e with e | e
    · have := h.2 b e; have := hM2.size; omega
    · have := (hMid.new b e).2; omega
  have ne1 : G'.d ≠ G'.m := fun e => by have := hMid.b; have := hMid.mp; unfold Blk at *; unfold IsMp at *; simp_all
  have ne2 : G'.n ≠ G'.m := fun e => by
    obtain ⟨cs, hb, _⟩ := hMid.rn
    have := hMid.mp
    unfold Blk at hb
    unfold IsMp at this
    rw [e, this] at hb
    cases hb
  have ne3 : G'.l ≠ G'.m := fun e => by
    obtain ⟨cs, hb, _⟩ := hMid.rl
    have := hMid.mp
    unfold Blk at hb
    unfold IsMp at this
    rw [e, this] at hb
    cases hb
  have hhas : ∀ k, Maps.has D' k = Maps.has D k := fun k => by rw [hA.1 k, hl k]; simp
  refine ⟨DevA.more h.1 hM2 (fun b hb e => by rcases e with e | e; exact e; have := (hMid.new b e).1; omega) hA' (fun b e => .inl (h.own_in b e)), ⟨⟨hMid.b.mv hM ne1, hMid.rn.mv hM ne2, hMid.rl.mv hM ne3, hMid.ne, ⟨.inr (.inl rfl), .inr (.inr (.inl rfl)), .inr (.inr (.inr (.inl rfl))), .inr (.inr (.inr (.inr rfl)))⟩, h.1.2.2.2.2.2.1, D', hown.mono (by omega), ⟨fun q hq => ?_, fun i hi hx => hL.2 i hi (by rw [← hhas]; exact hx)⟩⟩, hA'⟩, fun x hx => (hMid.new x hx).1, hM2⟩
  have hq' := hq
  rw [hhas] at hq
  obtain ⟨k, b, e1, hk, hb, hn, hat, c, f, hf, hv⟩ := hL.1 q hq
  refine ⟨k, b, e1, hk, Nat.lt_of_lt_of_le hb hM2.size, fun e => ?_, fun z => by rw [hA.2 _ z hq']; exact hat z, c, f, hf.mv hM2 (fun e => e), hv⟩
  rcases e with e | e
  · exact hn e
  · have := (hMid.new b e).1; omega
def CopyPost (A : Nat → Prop) (G : Dv) (n : Nat) (s : DS) (w : World) (e : Ending) (w' : World) : Prop :=
  ∃ G', e = .returned (.pointer (some ⟨G'.d, 0, none⟩)) ∧ DevA w' (fun b => A b ∨ G'.own b) G n s ∧ DevA w' (fun b => A b ∨ G'.own b) G' n s ∧ (∀ x, G'.own x → w.heap.size ≤ x) ∧ Mv (fun _ => False) w w'
set_option maxRecDepth 100000 in
set_option maxHeartbeats 60000000 in
theorem copy_any (w : World) (A : Nat → Prop) (G : Dv) (n : Nat) (s : DS) (h : DevA w A G n s) (hs : s.steps < 1000000000) :
    Calls Try.prog 29 #[.pointer (some ⟨G.d, 0, none⟩)] w (CopyPost A G n s w) := by
  have h' := Lib.hid h
  have hn := h.1.2.2.2.2.2.1
  have hap := Lib.hid h.1.apart
  have c0 : w.cell? ⟨G.d, 0, none⟩ = some (.slice (some ⟨G.n, 0, none⟩) n G.cn) := (h.1.1.cell 0).trans rfl
  have c1 : w.cell? ⟨G.d, 1, none⟩ = some (.slice (some ⟨G.l, 0, none⟩) n G.cl) := (h.1.1.cell 1).trans rfl
  have c2 : w.cell? ⟨G.d, 2, none⟩ = some (.map (some G.m)) := (h.1.1.cell 2).trans rfl
  have c3 : w.cell? ⟨G.d, 3, none⟩ = some (.int .i64 s.steps) := (h.1.1.cell 3).trans rfl
  have c4 : w.cell? ⟨G.d, 4, none⟩ = some (.int .i64 s.fuse) := (h.1.1.cell 4).trans rfl
  have c5 : w.cell? ⟨G.d, 5, none⟩ = some (.bool s.dead) := (h.1.1.cell 5).trans rfl
  have n0 : n ≤ 65536 := hn.2.1
  have n8 : 8 ≤ n := hn.1
  have hmm := @run_makeMap Try.prog
  have Hcn : Hid (∀ W, Below w.heap.size w W → Calls Try.prog 34 #[.slice (some ⟨G.n, 0, none⟩) n G.cn] W (Cl64 n ((List.range n).map fun j => Value.int .u64 (s.now (0 + j))) W.heap.size W)) :=
    Lib.hid (fun W hW => clone64 ⟨G.n, 0, none⟩ n G.cn _ W.heap.size W (by omega) (Nat.le_refl _) ((h.1.2.1.mv (Mv.of_below hW (fun _ => False)) (fun e => e)).reads 0 n (by omega)) word_one)
  have Hcl : Hid (∀ W, Below w.heap.size w W → Calls Try.prog 34 #[.slice (some ⟨G.l, 0, none⟩) n G.cl] W (Cl64 n ((List.range n).map fun j => Value.int .u64 (s.last (0 + j))) W.heap.size W)) :=
    Lib.hid (fun W hW => clone64 ⟨G.l, 0, none⟩ n G.cl _ W.heap.size W (by omega) (Nat.le_refl _) ((h.1.2.2.1.mv (Mv.of_below hW (fun _ => False)) (fun e => e)).reads 0 n (by omega)) word_one)
  have hbnd := Lib.hid hn
  clear h hn
  go_enter Try.func29, Try.ntmps29
  go_wp2_with fail
  have b1 : Blk (w.alloc (.cells #[.slice (some ⟨G.n, 0, none⟩) n G.cn, .slice (some ⟨G.l, 0, none⟩) n G.cl, .map (some G.m), .int .i64 s.steps, .int .i64 s.fuse, .bool s.dead] 51)) w.heap.size 51 #[.slice (some ⟨G.n, 0, none⟩) n G.cn, .slice (some ⟨G.l, 0, none⟩) n G.cl, .map (some G.m), .int .i64 s.steps, .int .i64 s.fuse, .bool s.dead] := Blk.new w _ _
  have m1 : Mv (fun _ => False) w (w.alloc (.cells #[.slice (some ⟨G.n, 0, none⟩) n G.cn, .slice (some ⟨G.l, 0, none⟩) n G.cl, .map (some G.m), .int .i64 s.steps, .int .i64 s.fuse, .bool s.dead] 51)) := (Mv.refl (fun _ => False) w).alloc _
  generalize w.alloc (.cells #[.slice (some ⟨G.n, 0, none⟩) n G.cn, .slice (some ⟨G.l, 0, none⟩) n G.cl, .map (some G.m), .int .i64 s.steps, .int .i64 s.fuse, .bool s.dead] 51) = w1 at b1 m1 ⊢
  have Gd := hap.out.2.2.2.2.2.2.1
  obtain ⟨c, hc⟩ : ∃ c, c = w.heap.size := ⟨_, rfl⟩
  rw [← hc] at b1 ⊢
  have hcd : c ≠ G.d := by omega
  have q10 : w1.cell? ⟨G.d, 0, none⟩ = some (.slice (some ⟨G.n, 0, none⟩) n G.cn) := (mv_cell m1 (p := ⟨G.d, 0, none⟩) Gd (fun e => e)).trans c0
  have q11 : w1.cell? ⟨G.d, 1, none⟩ = some (.slice (some ⟨G.l, 0, none⟩) n G.cl) := (mv_cell m1 (p := ⟨G.d, 1, none⟩) Gd (fun e => e)).trans c1
  have c2' := c2
  clear c0 c1 c2 c3 c4 c5
  have M1 := Lib.hid m1
  have B1 := Lib.hid b1
  have S1 : ∀ W, Mv (fun _ => False) w1 W → W.cell? ⟨G.d, 0, none⟩ = some (.slice (some ⟨G.n, 0, none⟩) n G.cn) ∧ W.cell? ⟨G.d, 1, none⟩ = some (.slice (some ⟨G.l, 0, none⟩) n G.cl) := fun W hW =>
    ⟨(mv_cell hW (p := ⟨G.d, 0, none⟩) (Nat.lt_of_lt_of_le Gd m1.size) (fun e => e)).trans q10, (mv_cell hW (p := ⟨G.d, 1, none⟩) (Nat.lt_of_lt_of_le Gd m1.size) (fun e => e)).trans q11⟩
  have HS1 := Lib.hid S1
  have P1 : ∀ W, Mv (fun _ => False) w1 W → W.cell? ⟨c, 0, none⟩ = some (.slice (some ⟨G.n, 0, none⟩) n G.cn) ∧ W.cell? ⟨c, 1, none⟩ = some (.slice (some ⟨G.l, 0, none⟩) n G.cl) ∧ W.cell? ⟨c, 2, none⟩ = some (.map (some G.m)) ∧ W.frozen? ⟨c, 0, none⟩ = false ∧ W.frozen? ⟨c, 1, none⟩ = false ∧ W.frozen? ⟨c, 2, none⟩ = false := fun W hW => by
    have hb := b1.mv hW (fun e => e)
    exact ⟨(hb.cell 0).trans rfl, (hb.cell 1).trans rfl, (hb.cell 2).trans rfl, hb.frozen 0, hb.frozen 1, hb.frozen 2⟩
  have HP1 := Lib.hid P1
  have HZ : Hid (∀ (w3 W : World), Mv (fun b => b = c) w3 W → Mv (fun _ => False) w1 w3 → W.cell? ⟨G.d, 0, none⟩ = some (.slice (some ⟨G.n, 0, none⟩) n G.cn) ∧ W.cell? ⟨G.d, 1, none⟩ = some (.slice (some ⟨G.l, 0, none⟩) n G.cl)) := Lib.hid (fun w3 W hW h3 =>
    ⟨(mv_cell hW (p := ⟨G.d, 0, none⟩) (Nat.lt_of_lt_of_le (Nat.lt_of_lt_of_le Gd m1.size) h3.size) (fun e => hcd e.symm)).trans (S1 w3 h3).1, (mv_cell hW (p := ⟨G.d, 1, none⟩) (Nat.lt_of_lt_of_le (Nat.lt_of_lt_of_le Gd m1.size) h3.size) (fun e => hcd e.symm)).trans (S1 w3 h3).2⟩)
  have hset : ∀ (W : World) (i j : Nat) (v : Value), (W.setCell ⟨c, i, none⟩ v).cell? ⟨G.d, j, none⟩ = W.cell? ⟨G.d, j, none⟩ := fun W i j v => World.cell?_of_block (w := W) (Below.heap_setCell W ⟨c, i, none⟩ v G.d (fun e => hcd e.symm))
  have mA : Mv (fun _ => False) w1 w1.drew := (Mv.refl (fun _ => False) w1).drew
  have mB : Mv (fun _ => False) w1 (w1.drew.alloc (.map #[] 0)) := mA.alloc _
  have hbA : Below w.heap.size w w1.drew := (m1.trans mA).below (Nat.le_refl _) (fun b e => e.elim)
  have hbB : Below w.heap.size w (w1.drew.alloc (.map #[] 0)) := (m1.trans mB).below (Nat.le_refl _) (fun b e => e.elim)
  have sB := S1 _ mB
  have MA := Lib.hid mA
  have MB := Lib.hid mB
  have HbA := Lib.hid hbA
  have HbB := Lib.hid hbB
  have Hc := Lib.hid hc
  clear S1 P1 mA mB hbA hbB m1 b1 hc
  go_cut [3] from 9 (fun s3 wx => s3 = .pointer (some ⟨c, 0, none⟩) ∧ ∃ G' : Dv, G'.d = c ∧ Hid (Mid w G' n s wx))
  case first =>
    go_region_held3 (fun w' => w'.cell? ⟨G.d, 0, none⟩ = some (.slice (some ⟨G.n, 0, none⟩) n G.cn) ∧ w'.cell? ⟨G.d, 1, none⟩ = some (.slice (some ⟨G.l, 0, none⟩) n G.cl)) (first | assumption | exact ⟨by assumption, by assumption⟩ | (simp only [hset]; assumption) | (simp [*]; done)) (first
      | (go_simp; go_at_call 34; (fail_if_success (have := hb2)); refine (Hcn.out _ (by first | exact HbA.out | exact HbB.out)).mono ?_; rintro e w2 ⟨A2, k2, rfl, hown2, hb2⟩; obtain ⟨b2, rfl, hg2, hr2⟩ := Row.of_own (f := fun j => s.now (0 + j)) hown2 (by omega); have m2 : Mv (fun _ => False) w1 w2 := (by first | exact MA.out.trans (Mv.of_below hb2 _) | exact MB.out.trans (Mv.of_below hb2 _)); have s2 := HS1.out w2 m2; have s2m := HS1.out (w2.alloc (.map #[] 0)) (m2.alloc _); have hw2 : Below w.heap.size w w2 := (M1.out.trans m2).below (Nat.le_refl _) (fun b e => e.elim); have hw2m : Below w.heap.size w (w2.alloc (.map #[] 0)) := (M1.out.trans (m2.alloc _)).below (Nat.le_refl _) (fun b e => e.elim))
      | (go_simp; go_at_call 34; refine (Hcl.out _ (by first | exact hw2 | exact hw2m)).mono ?_; rintro e w3 ⟨A3, k3, rfl, hown3, hb3⟩; obtain ⟨b3, rfl, hg3, hr3⟩ := Row.of_own (f := fun j => s.last (0 + j)) hown3 (by omega); have m3 : Mv (fun _ => False) w1 w3 := (by first | exact m2.trans (Mv.of_below hb3 _) | exact (m2.alloc (.map #[] 0)).trans (Mv.of_below hb3 _)); have s3 := HS1.out w3 m3; have s3m := HS1.out (w3.alloc (.map #[] 0)) (m3.alloc _); obtain ⟨p0, p1, p2, f0, f1, f2⟩ := HP1.out w3 m3; obtain ⟨p0m, p1m, p2m, f0m, f1m, f2m⟩ := HP1.out (w3.alloc (.map #[] 0)) (m3.alloc _); have B3 := B1.out.mv m3 (fun e => e); have T1 := (B3.set_ 0 (.slice (some ⟨b2, 0, none⟩) n k2)).alloc (.map #[] 0); have T2 := ((B3.set_ 0 (.slice (some ⟨b2, 0, none⟩) n k2)).set_ 1 (.slice (some ⟨b3, 0, none⟩) n k3)).alloc (.map #[] 0); have t11 := (T1.cell 1).trans rfl; have t12 := (T1.cell 2).trans rfl; have g11 := T1.frozen 1; have g12 := T1.frozen 2; have t22 := (T2.cell 2).trans rfl; have g22 := T2.frozen 2; have Z1 := HZ.out w3 _ ((Mv.refl (fun b => b = c) w3).setCell (p := ⟨c, 0, none⟩) (fun _ => rfl) (.slice (some ⟨b2, 0, none⟩) n k2) |>.alloc (.map #[] 0)) m3; have Z2 := HZ.out w3 _ (((Mv.refl (fun b => b = c) w3).setCell (p := ⟨c, 0, none⟩) (fun _ => rfl) (.slice (some ⟨b2, 0, none⟩) n k2)).setCell (p := ⟨c, 1, none⟩) (fun _ => rfl) (.slice (some ⟨b3, 0, none⟩) n k3) |>.alloc (.map #[] 0)) m3; clear T1 T2))
    all_goals (
      clear p0 p1 p2 f0 f1 f2 p0m p1m p2m f0m f1m f2m t11 t12 g11 g12 t22 g22 Z1 Z2 s2 s2m s3 s3m
      go_wp2_with fail
      go_meet
      case rel =>
        have hl2 := hr2.lt
        have hz1 := M1.out.size
        have hg2' : w1.heap.size ≤ b2 := by first | exact hg2 | (simp at hg2; omega)
        have hg3' : w2.heap.size ≤ b3 := by first | exact hg3 | (simp at hg3; omega)
        have hne : b2 ≠ b3 := by omega
        have hz2 := m2.size
        have hz3 := m3.size
        have hr23 : Row w3 b2 k2 n (fun j => s.now (0 + j)) := by
          first
            | exact hr2.mv (Mv.of_below hb3 (fun _ => False)) (fun e => e)
            | exact (hr2.mv ((Mv.refl (fun _ => False) w2).alloc (.map #[] 0)) (fun e => e)).mv (Mv.of_below hb3 (fun _ => False)) (fun e => e)
        have hcs : c < w1.heap.size := B1.out.lt
        have hm13 := M1.out.trans m3
        have hB := mid_b hm13 B3 Hc.out hr23 hr3 (by omega) hne (by omega) (by omega) (by omega)
        have hC := mid_c hm13 B3 Hc.out hr23 hr3 (by omega) hne (by omega) (by omega) (by omega)
        have hD := mid_d hm13 B3 Hc.out hr23 hr3 (by omega) hne (by omega) (by omega) (by omega)
        first
          | (refine ⟨rfl, ⟨c, b2, b3, w3.heap.size, k2, k3⟩, rfl, Lib.hid ?_⟩; with_reducible exact hB)
          | (refine ⟨rfl, ⟨c, b2, b3, w3.heap.size, k2, k3⟩, rfl, Lib.hid ?_⟩; with_reducible exact hC)
          | (refine ⟨rfl, ⟨c, b2, b3, w3.heap.size, k2, k3⟩, rfl, Lib.hid ?_⟩; with_reducible exact hD)
          | (refine ⟨rfl, ⟨c, b2, b3, w1.heap.size, k2, k3⟩, rfl, Lib.hid ?_⟩
             have i1 : IsMp (w1.alloc (.map #[] 0)).drew w1.heap.size := mp_new w1 rfl
             have i2 : IsMp w2 w1.heap.size := mp_mv (S := fun _ => False) i1 (Mv.of_below hb2 (fun _ => False)) (fun e => e)
             have i3 : IsMp w3 w1.heap.size := mp_mv (S := fun _ => False) i2 (Mv.of_below hb3 (fun _ => False)) (fun e => e)
             have hA1 := mid_a hm13 B3 Hc.out hr23 hr3 i3 (show w1.heap.size ≠ c by omega) hne (by omega) (by omega) (show w.heap.size ≤ w1.heap.size by omega)
             exact hA1)
          | (refine ⟨rfl, ⟨c, b2, b3, w1.heap.size, k2, k3⟩, rfl, Lib.hid ?_⟩
             have i1 : IsMp (w1.drew.alloc (.map #[] 0)) w1.heap.size := mp_new w1.drew rfl
             have i2 : IsMp w2 w1.heap.size := mp_mv (S := fun _ => False) i1 (Mv.of_below hb2 (fun _ => False)) (fun e => e)
             have i3 : IsMp w3 w1.heap.size := mp_mv (S := fun _ => False) i2 (Mv.of_below hb3 (fun _ => False)) (fun e => e)
             have hA1 := mid_a hm13 B3 Hc.out hr23 hr3 i3 (show w1.heap.size ≠ c by omega) hne (by omega) (by omega) (show w.heap.size ≤ w1.heap.size by omega)
             exact hA1)
          | (refine ⟨rfl, ⟨c, b2, b3, w2.heap.size, k2, k3⟩, rfl, Lib.hid ?_⟩
             have hA2 := mid_a hm13 B3 Hc.out hr23 hr3 (mp_mv (mp_new w2 rfl) (Mv.of_below hb3 (fun _ => False)) (fun e => e)) (show w2.heap.size ≠ c by omega) hne (by omega) (by omega) (show w.heap.size ≤ w2.heap.size by omega)
             with_reducible exact hA2)
          | (trace_state; trace "NOFIT"; fail))
  case rest =>
    clear Hcn Hcl HS1 HP1 HZ hset sB MA MB HbA HbB q10 q11 B1 M1 hmm
    obtain ⟨rfl, G', rfl, hMid⟩ := hcut
    obtain ⟨-, -, -, -, -, -, D, hD, hL⟩ := h'.out.1
    have cg2 : wc.cell? ⟨G.d, 2, none⟩ = some (.map (some G.m)) := (mv_cell hMid.out.mv (p := ⟨G.d, 2, none⟩) Gd (fun e => e)).trans c2'
    have hDc := mv_map hD hMid.out.mv (fun e => e)
    have HL := Lib.hid hL
    have HDsz := Lib.hid hD.size_le
    have gm := hap.out.2.2.2.2.2.2.2.2.2
    clear hD hL c2'
    go_wp2_with (at_range; refine wpList_range_own _ rfl _ 49 rfl 3 48 keyedI Try.underlying49 lineR G.m s.steps.toNat D rfl hDc ?_; intro w4 hrg4 hg4 hs4)
    go_frame
    obtain ⟨r, hr⟩ : ∃ r, r = wc.heap.size := ⟨_, rfl⟩
    rw [← hr] at hrg4 ⊢
    have Hr := Lib.hid hr
    have hnew := hMid.out.new G'.m (.inr (.inr (.inr rfl)))
    have m4 : Mv (fun b => b = G'.m) wc w4 := (Mv.refl (fun b => b = G'.m) wc).grown hg4 (fun g e => by cases e)
    have M4 := Lib.hid m4
    have hown4 : Hid (w4.ownsMap Try.prog 3 lineR G'.m 0 (.map [])) := Lib.hid (mp_own (mp_mv hMid.out.mp ((Mv.refl (fun _ => False) wc).grown hg4 (fun g e => by cases e)) (fun e => e)))
    have Hrg4 := Lib.hid hrg4
    clear hDc cg2 hg4 hs4 hr m4 hrg4
    go_loopw [4, 5] (fun _ _ wr => ∃ (left : Lit → Bool) (cnt : Nat) (D' : DataW Unit) (bd : Nat), Hid (wr.ranges Try.prog 3 lineR G.m r s.steps.toNat D left cnt) ∧ Hid (wr.ownsMap Try.prog 3 lineR G'.m bd D') ∧ Hid (Maps.Agree D' D left) ∧ Hid (bd + cnt ≤ Maps.size D) ∧ Hid (Mv (fun b => b = G'.m) wc wr))
      (fun _ _ wr => wr.rangeLeft G.m r)
    case atStart => exact ⟨_, _, .map [], 0, Hrg4, hown4, Lib.hid (Maps.agree_start D), Lib.hid (by omega), M4⟩
    case round =>
      clear Hrg4 hown4 M4
      obtain ⟨left, cnt, D', bd, hrg, hown, hAg, hbd, hM⟩ := hrel
      have hne1 : G'.d ≠ G'.m := fun e => map_blk_ne (mp_own hMid.out.mp) hMid.out.b e
      go_wp2_with (at_next; refine wpList_next_ranges _ rfl _ rfl 3 keyedI lineR (Value.int .i64) (fun p : Nat × Nat => Value.slice (some ⟨p.1, 0, none⟩) 8 p.2) (fun key kl hk => by obtain ⟨x, rfl, _⟩ := Maps.keyOf_int_inv Try.underlying3 hk; exact ⟨x, rfl⟩) (fun v y hy => by obtain ⟨b, c, rfl, _⟩ := lineR_inv hy; exact ⟨(b, c), rfl⟩) G.m r s.steps.toNat D left cnt rfl hrg.out ?_ ?_)
      · intro hc0 hl0
        have Hl0 := Lib.hid hl0
        have Hc0 := Lib.hid hc0
        clear hl0 hc0
        go_wp2_with fail
        go_ret
        exact ⟨G', by simp, copy_fin h'.out HL.out HDsz.out hMid.out hM.out hown.out hAg.out Hl0.out hbd.out⟩
      · intro x b cb kl y1 y2 w5 cnt5 hkey hlx hRv hat hrg5 hlt hg5 hs5 hen
        have hrm : G'.m ≠ r := by have := Hr.out; omega
        have hown5 := hown.out.kept hg5 (by intro e; injection e with e; exact hrm e)
        have m5 : Mv (fun b => b = r) wr w5 := (Mv.refl (fun b => b = r) wr).grown hg5 (fun g e _ => by cases e; rfl)
        have hdr : G'.d ≠ r := by have := (hMid.out.new G'.d (.inl rfl)).2; have := Hr.out; omega
        have cd5 : w5.cell? ⟨G'.d, 2, none⟩ = some (.map (some G'.m)) := (((hMid.out.b.mv hM.out hne1).mv m5 hdr).cell 2).trans rfl
        have hbm : bd < maxLen := by have := hbd.out; have := HDsz.out; unfold maxLen; omega
        obtain ⟨b', cb', e1, e2, e3, e4⟩ := lineR_inv hRv
        have hRv2 := hRv
        cases e1
        injection e4 with e5 e6
        subst e5
        subst e6
        have Hrg5 := Lib.hid hrg5
        have Hm5 := Lib.hid m5
        have Hhat := Lib.hid hat
        have Hlt := Lib.hid hlt
        have Hlx := Lib.hid hlx
        have hleft := Lib.hid hrg.out.left_eq
        clear hrg5 m5 hat hlt hg5 hs5 hlx hRv
        go_wp2_with (at_mapUpdate; refine wpList_mapUpdate_own _ rfl _ _ _ 49 rfl 3 48 keyedI Try.underlying49 lineR G'.m bd D' rfl hown5 hbm _ _ kl rfl rfl hkey _ [] hRv2 ?_; intro w6 hown6 hg6; have Hown6 := Lib.hid hown6; have Hg6 := Lib.hid hg6; clear hown6 hg6; go_frame)
        go_roundw
        case rel =>
          have hrg6 := Hrg5.out.kept Hg6.out (by intro e; injection e with e; omega) (by intro e; injection e with e; exact hrm e.symm)
          refine ⟨_, cnt5, _, bd + 1, Lib.hid hrg6, Hown6, Lib.hid (Maps.agree_step hAg.out hown.out.isMap (keyedI.key hkey) Hhat.out), Lib.hid (by have := hbd.out; have := Hlt.out; omega), Lib.hid ?_⟩
          exact (hM.out.trans' (Hm5.out.mono (S' := fun b => b = r) (fun _ _ e => e)) (fun b hb e => by have := Hr.out; omega)).trans ((Mv.refl (fun b => b = G'.m) w5).grown Hg6.out (fun g e _ => by cases e; rfl))
        case measure =>
          have hrg6 := Hrg5.out.kept Hg6.out (by intro e; injection e with e; omega) (by intro e; injection e with e; exact hrm e.symm)
          rw [hrg6.left_eq, hleft.out]
          exact Hlt.out
end Go.Proofs.Ytfiajonbekfcfaa
