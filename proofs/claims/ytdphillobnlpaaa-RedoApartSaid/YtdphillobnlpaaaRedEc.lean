/- redo: RedoApart's closures. Printed by ec.py. -/
import Derived.Test.YtdphillobnlpaaaRedEb
namespace Go.Proofs.Ytdphillobnlpaaa
open Go.RowKit
set_option linter.unusedVariables false
set_option maxRecDepth 100000 in
set_option maxHeartbeats 4000000 in
theorem apart1 (v : World) (A : Nat → Prop) (G : Dv) (s : DS) (lg bg bp : Nat) (p : Int) (hbg : Blk v bg 24 #[.pointer (some ⟨lg, 0, none⟩)]) (hbp : Blk v bp 28 #[.int .u64 p])
    (hD : DevA v A G 256 s) (hd : s.dead = false) (hl : Lg v lg G 0 32) (hlo : ¬ G.own lg) (hv : U64 s.now) (hs : s.steps < 600000000) (hp : 0 ≤ p ∧ p < 18446744073709551616) :
    Calls Try.prog 27 #[.pointer (some ⟨bg, 0, none⟩), .pointer (some ⟨bp, 0, none⟩)] v fun e w' => ((commitD 256 0 32 (psA p) s).2 = true ∧ e = .returned (.tuple #[]) ∨ (commitD 256 0 32 (psA p) s).2 = false ∧ Panics lostV e) ∧ DevA w' A G 256 (commitD 256 0 32 (psA p) s).1 ∧ Mv G.own v w' := by
  have cg : v.cell? ⟨bg, 0, none⟩ = some (.pointer (some ⟨lg, 0, none⟩)) := (hbg.cell 0).trans rfl
  have cx : v.cell? ⟨bp, 0, none⟩ = some (.int .u64 p) := (hbp.cell 0).trans rfl
  have HD := Lib.hid hD
  have Hd := Lib.hid hd
  have Hl := Lib.hid hl
  have Hlo := Lib.hid hlo
  have Hv := Lib.hid hv
  have Hs := Lib.hid hs
  have Hp := Lib.hid hp
  clear hD hd hl hlo hv hs hp hbg hbp
  go_enter Try.func27, Try.ntmps27
  go_wp2_with fail
  obtain ⟨v2, hv2⟩ : ∃ v2, v2 = v.alloc (.cells #[.int .i64 130, .int .u64 p, .int .i64 131, .int .u64 p] 32) := ⟨_, rfl⟩
  rw [← hv2]
  have Hb : Blk v2 v.heap.size 32 #[.int .i64 130, .int .u64 p, .int .i64 131, .int .u64 p] := by rw [hv2]; exact blk_new v _ _ rfl
  have hm2 : Mv (fun _ => False) v v2 := by rw [hv2]; exact (Mv.refl _ v).alloc _
  have hwr : WR v2 v2.heap.size (some ⟨v.heap.size, 0, none⟩) (psA p) := fun i hi => by
    refine ⟨_, rfl, Hb.lt, ?_⟩
    rw [add_head, add_head]
    have hi2 : i < 2 := hi
    rcases Nat.lt_or_ge i 1 with h | h
    · obtain rfl : i = 0 := by omega
      exact ⟨(Hb.cell 0).trans rfl, (Hb.cell 1).trans rfl⟩
    · obtain rfl : i = 1 := by omega
      exact ⟨(Hb.cell 2).trans rfl, (Hb.cell 3).trans rfl⟩
  have hno : ¬ G.own v.heap.size := fun e => Nat.lt_irrefl _ (HD.out.own_lt2 _ e)
  have Hc := Lib.hid (commit_any v2 A G 256 s lg 0 32 (some ⟨v.heap.size, 0, none⟩) 2 (psA p) 2 rfl (by decide) (HD.out.keep (S := fun _ => False) hm2 (fun _ e => e.elim) (fun _ _ e => e)) Hd.out (Blk.mv Hl.out hm2 (fun e => e)) Hlo.out (by decide) (fun j _ => Hv.out j) Hs.out hwr (fun ad e => by cases e; exact hno) (ps_val Hp.out))
  have Hm2 := Lib.hid hm2
  clear Hb hwr hno hm2 hv2 cg cx
  refine Hc.out.mono ?_
  rintro e w' ⟨⟨⟨h1, rfl⟩ | ⟨h1, hp⟩, hD2⟩, hm⟩
  · have H1 := Lib.hid h1
    have HD2 := Lib.hid hD2
    have Hm := Lib.hid (hm.mono (S' := G.own) (fun _ _ e => e))
    clear h1 hD2 hm
    go_wp2_with fail
    go_end0
    exact ⟨.inl ⟨H1.out, rfl⟩, HD2.out, (Hm2.out.mono (fun _ _ e => e.elim)).trans Hm.out⟩
  · unfold Panics at hp
    subst hp
    have H1 := Lib.hid h1
    have HD2 := Lib.hid hD2
    have Hm := Lib.hid (hm.mono (S' := G.own) (fun _ _ e => e))
    clear h1 hD2 hm
    go_wp2_with fail
    simp only [bodyPost]
    exact ⟨trivial, .inr ⟨H1.out, rfl⟩, HD2.out, (Hm2.out.mono (fun _ _ e => e.elim)).trans Hm.out⟩
set_option maxRecDepth 100000 in
set_option maxHeartbeats 4000000 in
theorem apart2 (v : World) (A : Nat → Prop) (G : Dv) (s : DS) (lg bg bp : Nat) (p : Int) (hbg : Blk v bg 24 #[.pointer (some ⟨lg, 0, none⟩)]) (hbp : Blk v bp 28 #[.int .u64 p])
    (hD : DevA v A G 256 s) (hd : s.dead = false) (hl : Lg v lg G 64 32) (hlo : ¬ G.own lg) (hv : U64 s.now) (hs : s.steps < 600000000) (hp : 0 ≤ p ∧ p < 18446744073709551616) :
    Calls Try.prog 28 #[.pointer (some ⟨bg, 0, none⟩), .pointer (some ⟨bp, 0, none⟩)] v fun e w' => ((commitD 256 64 32 (psB p) s).2 = true ∧ e = .returned (.tuple #[]) ∨ (commitD 256 64 32 (psB p) s).2 = false ∧ Panics lostV e) ∧ DevA w' A G 256 (commitD 256 64 32 (psB p) s).1 ∧ Mv G.own v w' := by
  have cg : v.cell? ⟨bg, 0, none⟩ = some (.pointer (some ⟨lg, 0, none⟩)) := (hbg.cell 0).trans rfl
  have cx : v.cell? ⟨bp, 0, none⟩ = some (.int .u64 p) := (hbp.cell 0).trans rfl
  have HD := Lib.hid hD
  have Hd := Lib.hid hd
  have Hl := Lib.hid hl
  have Hlo := Lib.hid hlo
  have Hv := Lib.hid hv
  have Hs := Lib.hid hs
  have Hp := Lib.hid hp
  clear hD hd hl hlo hv hs hp hbg hbp
  go_enter Try.func28, Try.ntmps28
  go_wp2_with fail
  obtain ⟨v2, hv2⟩ : ∃ v2, v2 = v.alloc (.cells #[.int .i64 140, .int .u64 p, .int .i64 141, .int .u64 p] 32) := ⟨_, rfl⟩
  rw [← hv2]
  have Hb : Blk v2 v.heap.size 32 #[.int .i64 140, .int .u64 p, .int .i64 141, .int .u64 p] := by rw [hv2]; exact blk_new v _ _ rfl
  have hm2 : Mv (fun _ => False) v v2 := by rw [hv2]; exact (Mv.refl _ v).alloc _
  have hwr : WR v2 v2.heap.size (some ⟨v.heap.size, 0, none⟩) (psB p) := fun i hi => by
    refine ⟨_, rfl, Hb.lt, ?_⟩
    rw [add_head, add_head]
    have hi2 : i < 2 := hi
    rcases Nat.lt_or_ge i 1 with h | h
    · obtain rfl : i = 0 := by omega
      exact ⟨(Hb.cell 0).trans rfl, (Hb.cell 1).trans rfl⟩
    · obtain rfl : i = 1 := by omega
      exact ⟨(Hb.cell 2).trans rfl, (Hb.cell 3).trans rfl⟩
  have hno : ¬ G.own v.heap.size := fun e => Nat.lt_irrefl _ (HD.out.own_lt2 _ e)
  have Hc := Lib.hid (commit_any v2 A G 256 s lg 64 32 (some ⟨v.heap.size, 0, none⟩) 2 (psB p) 2 rfl (by decide) (HD.out.keep (S := fun _ => False) hm2 (fun _ e => e.elim) (fun _ _ e => e)) Hd.out (Blk.mv Hl.out hm2 (fun e => e)) Hlo.out (by decide) (fun j _ => Hv.out j) Hs.out hwr (fun ad e => by cases e; exact hno) (ps_val Hp.out))
  have Hm2 := Lib.hid hm2
  clear Hb hwr hno hm2 hv2 cg cx
  refine Hc.out.mono ?_
  rintro e w' ⟨⟨⟨h1, rfl⟩ | ⟨h1, hp⟩, hD2⟩, hm⟩
  · have H1 := Lib.hid h1
    have HD2 := Lib.hid hD2
    have Hm := Lib.hid (hm.mono (S' := G.own) (fun _ _ e => e))
    clear h1 hD2 hm
    go_wp2_with fail
    go_end0
    exact ⟨.inl ⟨H1.out, rfl⟩, HD2.out, (Hm2.out.mono (fun _ _ e => e.elim)).trans Hm.out⟩
  · unfold Panics at hp
    subst hp
    have H1 := Lib.hid h1
    have HD2 := Lib.hid hD2
    have Hm := Lib.hid (hm.mono (S' := G.own) (fun _ _ e => e))
    clear h1 hD2 hm
    go_wp2_with fail
    simp only [bodyPost]
    exact ⟨trivial, .inr ⟨H1.out, rfl⟩, HD2.out, (Hm2.out.mono (fun _ _ e => e.elim)).trans Hm.out⟩
end Go.Proofs.Ytdphillobnlpaaa
