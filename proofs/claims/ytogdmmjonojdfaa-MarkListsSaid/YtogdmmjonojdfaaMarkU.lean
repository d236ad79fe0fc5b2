/- mark: MarkFrom's answering closure. -/
import Derived.Test.YtogdmmjonojdfaaMarkT
namespace Go.Proofs.Ytogdmmjonojdfaa
open Go.RowKit
set_option linter.unusedVariables false
def ansF (len : Nat) (zs : Nat → List Int) (bad : Int) (n : Nat) : List Nat × Int := if (n : Int) = bad then ([1, 2, 3], 3) else (ofL len zs n, 0)
/-- What stands ahead of From: the web, and the closures' cells. -/
structure Env (w : World) (B bw ba bb bo bk len c0 : Nat) (bad : Int) (W0 : Option Addr) (A : Nat → Option Addr) (L C : Nat → Nat) (zs : Nat → List Int) : Prop where
  hB : B ≤ w.heap.size
  web : Web w B W0 len A L C zs
  cw : w.cell? ⟨bw, 0, none⟩ = some (.slice W0 len c0)
  ca : w.cell? ⟨ba, 0, none⟩ = some (.func (.func 13) #[] #[])
  cb : w.cell? ⟨bb, 0, none⟩ = some (.int .i64 bad)
  co : w.cell? ⟨bo, 0, none⟩ = some (.func (.func 14) #[] #[.pointer (some ⟨bw, 0, none⟩), .pointer (some ⟨ba, 0, none⟩)])
  lw : bw < w.heap.size
  la : ba < w.heap.size
  lb : bb < w.heap.size
  lo : bo < w.heap.size
  kB : B ≤ bk
  nw : bw ≠ bk
  na : ba ≠ bk
  nb : bb ≠ bk
  no : bo ≠ bk
section
variable {w w' : World} {B bw ba bb bo bk len c0 : Nat} {bad : Int} {W0 : Option Addr} {A : Nat → Option Addr} {L C : Nat → Nat} {zs : Nat → List Int}
theorem Env.mv (h : Env w B bw ba bb bo bk len c0 bad W0 A L C zs) (hm : Mv (fun x => x = bk ∨ w.heap.size ≤ x) w w') : Env w' B bw ba bb bo bk len c0 bad W0 A L C zs := by
  have hs := hm.size
  have hc : ∀ b, b < w.heap.size → b ≠ bk → w'.cell? ⟨b, 0, none⟩ = w.cell? ⟨b, 0, none⟩ := fun b hb hn => mv_cell hm (p := (⟨b, 0, none⟩ : Addr)) hb (fun e => by rcases e with e | e; exact hn e; exact absurd e (Nat.not_le.2 hb))
  have hb : Below B w w' := hm.below h.hB (fun b e => by rcases e with e | e; exact e ▸ h.kB; exact Nat.le_trans h.hB e)
  exact ⟨Nat.le_trans h.hB hs, h.web.below hb, (hc _ h.lw h.nw).trans h.cw, (hc _ h.la h.na).trans h.ca, (hc _ h.lb h.nb).trans h.cb, (hc _ h.lo h.no).trans h.co, by have := h.lw; omega, by have := h.la; omega, by have := h.lb; omega, by have := h.lo; omega, h.kB, h.nw, h.na, h.nb, h.no⟩
end
/-- What the answering closure holds. -/
structure HF (w1 w : World) (bk : Nat) (A : Option Addr) (n c : Nat) (asked : List Nat) : Prop where
  kl : bk < w1.heap.size
  mv : Mv (fun x => x = bk ∨ w1.heap.size ≤ x) w1 w
  cell : Blk w bk 22 #[.slice A n c]
  row : w.ownsRow w1.heap.size 3 1 (.slice A n c) n (Ints .i64 asked)
def IF (w1 : World) (bk : Nat) (P : Nat → Prop) (w : World) (asked : List Nat) : Prop := ∃ A n c, HF w1 w bk A n c asked ∧ P = fun x => x < w1.heap.size ∨ (Value.slice A n c).ownBlock = some x
theorem own_mvx {w w' : World} {S : Nat → Prop} {B : Nat} {e : TypeId} {v : Value} {n : Nat} {xs : List Value} (h : w.ownsRow B e 1 v n xs) (hm : Mv S w w') (hs : ∀ x, v.ownBlock = some x → ¬ S x) : w'.ownsRow B e 1 v n xs :=
  own_mv h hm (fun x hx => ⟨(h.lt x hx).2, hs x hx⟩)
theorem IF.keep {w1 w w' : World} {bk : Nat} {P S : Nat → Prop} {asked : List Nat} (h : IF w1 bk P w asked) (hm : Mv S w w') (hs : ∀ x, S x → ¬ P x) : IF w1 bk P w' asked := by
  obtain ⟨A, n, c, h, rfl⟩ := h
  refine ⟨A, n, c, ⟨h.kl, h.mv.trans' hm (fun b hb hS => absurd (.inl hb) (hs b hS)), h.cell.mv hm (fun e => hs _ e (.inl h.kl)), own_mvx h.row hm (fun x hx e => hs x e (.inr hx))⟩, rfl⟩
theorem IF.low {w1 w : World} {bk : Nat} {P : Nat → Prop} {asked : List Nat} (h : IF w1 bk P w asked) : ∀ x, P x → x < w.heap.size := by
  obtain ⟨A, n, c, h, rfl⟩ := h
  intro x hx
  rcases hx with hx | hx
  · exact Nat.lt_of_lt_of_le hx h.mv.size
  · exact (h.row.lt x hx).2
theorem HF.pushed {w1 w w2 : World} {bk n c g cp : Nat} {A : Option Addr} {asked : List Nat} {x : Nat} (h : HF w1 w bk A n c asked)
    (hown : w2.ownsRow w1.heap.size 3 1 (.slice (some ⟨g, 0, none⟩) (n + 1) cp) (n + 1) (Ints .i64 asked ++ [.int .i64 (x : Int)])) (hg : w.grownBy w2 (Value.slice A n c).ownBlock) (hat : (Value.slice A n c).ownBlock = some g ∨ w.heap.size ≤ g) :
    HF w1 (w2.setCell ⟨bk, 0, none⟩ (.slice (some ⟨g, 0, none⟩) (n + 1) cp)) bk (some ⟨g, 0, none⟩) (n + 1) cp (asked ++ [x]) ∧ Mv (fun y => y < w1.heap.size ∨ (Value.slice A n c).ownBlock = some y) w (w2.setCell ⟨bk, 0, none⟩ (.slice (some ⟨g, 0, none⟩) (n + 1) cp)) ∧ Blk w2 bk 22 #[.slice A n c] ∧ w1.heap.size ≤ g := by
  have hgB : w1.heap.size ≤ g := by
    rcases hat with e | e
    · exact (h.row.lt g e).1
    · have := h.mv.size; omega
  have hne : g ≠ bk := by have := h.kl; omega
  have m1 : Mv (fun y => (Value.slice A n c).ownBlock = some y) w w2 := (Mv.refl _ w).grown hg (fun g0 e _ => e)
  have hcell : Blk w2 bk 22 #[.slice A n c] := h.cell.mv m1 (fun e => by have := (h.row.lt bk e).1; have := h.kl; omega)
  have m2 : Mv (fun y => y < w1.heap.size ∨ (Value.slice A n c).ownBlock = some y) w (w2.setCell ⟨bk, 0, none⟩ (.slice (some ⟨g, 0, none⟩) (n + 1) cp)) := (m1.mono (fun b _ e => .inr e)).setCell (p := ⟨bk, 0, none⟩) (fun _ => .inl h.kl) _
  have m3 : Mv (fun y => y = bk ∨ w1.heap.size ≤ y) w1 (w2.setCell ⟨bk, 0, none⟩ (.slice (some ⟨g, 0, none⟩) (n + 1) cp)) :=
    (h.mv.trans' m1 (fun b hb e => by have := (h.row.lt b e).1; omega)).setCell (p := ⟨bk, 0, none⟩) (fun _ => .inl rfl) _
  refine ⟨⟨h.kl, m3, by have := hcell.set_ 0 (.slice (some ⟨g, 0, none⟩) (n + 1) cp); simpa using this, ?_⟩, m2, hcell, hgB⟩
  have e1 : Ints .i64 asked ++ [.int .i64 (x : Int)] = Ints .i64 (asked ++ [x]) := by simp [Ints]
  rw [e1] at hown
  exact own_mvx hown ((Mv.refl (fun y => y = bk) w2).setCell (p := ⟨bk, 0, none⟩) (fun _ => rfl) _) (fun y hy e => by cases hy; exact hne e)
theorem HF.below {w1 w w' : World} {bk n c : Nat} {A : Option Addr} {asked : List Nat} (h : HF w1 w bk A n c asked) (hb : Below w.heap.size w w') : HF w1 w' bk A n c asked :=
  ⟨h.kl, h.mv.trans' (Mv.of_below hb (fun _ => False)) (fun b _ e => e.elim), h.cell.mv (Mv.of_below hb (fun _ => False)) (fun e => e), own_mvx h.row (Mv.of_below hb (fun _ => False)) (fun x _ e => e)⟩
theorem ints_len {w : World} {B : Nat} {e : TypeId} {v : Value} {n : Nat} {l : List Nat} (h : w.ownsRow B e 1 v n (Ints .i64 l)) : l.length = n := by
  have := h.1
  simpa [Ints] using this
theorem three_reads (w : World) (t : TypeId) : Reads (w.alloc (.cells #[.int .i64 1, .int .i64 2, .int .i64 3] t)) (w.heap.size + 1) 1 (some ⟨w.heap.size, 0, none⟩) 3 (Ints .i64 [1, 2, 3]) := by
  refine ⟨rfl, fun _ => ⟨_, rfl, by simp, fun j u hj => ?_⟩⟩
  have hb := Blk.new w t #[.int .i64 1, .int .i64 2, .int .i64 3]
  match j, hj with
  | 0, hj => cases hj; exact (hb.cell 0).trans rfl
  | 1, hj => cases hj; exact (hb.cell 1).trans rfl
  | 2, hj => cases hj; exact (hb.cell 2).trans rfl
  | j + 3, hj => simp [Ints] at hj
set_option maxHeartbeats 8000000 in
theorem asksF (w1 w : World) (B bw ba bb bo bk len c0 n : Nat) (bad : Int) (W0 : Option Addr) (A : Nat → Option Addr) (L C : Nat → Nat) (zs : Nat → List Int) (P : Nat → Prop) (asked : List Nat) (henv : Env w1 B bw ba bb bo bk len c0 bad W0 A L C zs) (hI : IF w1 bk P w asked) (hal : asked.length < 100) :
    Calls Try.prog 15 #[.int .i64 (n : Int), .pointer (some ⟨bk, 0, none⟩), .pointer (some ⟨bb, 0, none⟩), .pointer (some ⟨bo, 0, none⟩)] w (fun e w' => ∃ L1 cp, e = .returned (.tuple #[.slice L1 (ansF len zs bad n).1.length cp, .int .i64 (ansF len zs bad n).2]) ∧ Reads w' w'.heap.size 1 L1 (ansF len zs bad n).1.length (Ints .i64 (ansF len zs bad n).1) ∧
      (∀ ad, L1 = some ad → P ad.block ∨ w.heap.size ≤ ad.block) ∧ ∃ P', IF w1 bk P' w' (asked ++ [n]) ∧ Mv P w w' ∧ ∀ y, P' y → P y ∨ w.heap.size ≤ y) := by
  obtain ⟨A1, m, c, h, rfl⟩ := hI
  have Hh := Lib.hid h
  have Henv := Lib.hid henv
  have hml := ints_len h.row
  have hmb : m < 100 := by omega
  have k1 : w.cell? ⟨bk, 0, none⟩ = some (.slice A1 m c) := (h.cell.cell 0).trans rfl
  have Hm := Lib.hid hml
  obtain ⟨i0, hi, hz0, hz1, hz2⟩ := info_parts infoI
  have hsz1 := h.mv.size
  have Hsz1 := Lib.hid hsz1
  clear h henv hml hal hsz1
  by_cases e : (n : Int) = bad
  · have hb : ((n : Int) == bad) = true := by simp [e]
    have Hans := Lib.hid (show ansF len zs bad n = ([1, 2, 3], 3) by unfold ansF; rw [if_pos e])
    clear e
    go_enter Try.func15, Try.ntmps15
    go_wp2_with (first
      | (at_builtin; refine wpList_pushZ w rfl (.tmp 7) (.tmp 9) 22 rfl w1.heap.size 3 i0 .i64 8 Try.underlying22 hi hz0 hz1 hz2 A1 m c _ rfl Hh.out.row (n : Int) 1 rfl (by unfold maxLen; omega) (by omega) Hsz1.out ?_; intro g cp w2 hown2 hg2 hs2 hat2; obtain ⟨h3, m3, hb2, hgB⟩ := Hh.out.pushed hown2 hg2 hat2; have E3 := Henv.out.mv h3.mv; have kb3 := E3.cb; have ko3 := E3.co; have kf : w2.frozen? ⟨bk, 0, none⟩ = false := hb2.frozen 0; have kc : w2.cell? ⟨bk, 0, none⟩ = some (.slice A1 m c) := (hb2.cell 0).trans rfl; have HE3 := Lib.hid E3; have Hs2 := Lib.hid hs2; have Hat2 := Lib.hid hat2; have H3 := Lib.hid h3; have M3 := Lib.hid m3; have HgB := Lib.hid hgB; clear hown2 hg2 hs2 hat2 h3 m3 hb2 E3 hgB)
      | fail)
    go_ret2
    rw [Hans.out]
    generalize hw3 : w2.setCell ⟨bk, 0, none⟩ (.slice (some ⟨g, 0, none⟩) (m + 1) cp) = w3 at H3 M3
    have hs3 : w3.heap.size = w2.heap.size := by rw [← hw3]; simp [World.setCell]
    refine ⟨some ⟨w3.heap.size, 0, none⟩, 3, by simp [hs3], ?_, fun ad e => by cases e; exact .inr (by have := Hs2.out; show w.heap.size ≤ w3.heap.size; omega), fun x => x < w1.heap.size ∨ (Value.slice (some ⟨g, 0, none⟩) (m + 1) cp).ownBlock = some x, ⟨_, _, _, H3.out.below ((Below.refl _ w3).alloc (Nat.le_refl _) _), rfl⟩, M3.out.alloc _, fun y hy => ?_⟩
    · exact (three_reads w3 3).more (by simp)
    · rcases hy with hy | hy
      · exact .inl (.inl hy)
      · cases hy
        rcases Hat2.out with e | e
        · exact .inl (.inr e)
        · exact .inr e
  · have hb : ((n : Int) == bad) = false := by simp [e]
    have Hans := Lib.hid (show ansF len zs bad n = (ofL len zs n, 0) by unfold ansF; rw [if_neg e])
    clear e
    go_enter Try.func15, Try.ntmps15
    go_wp2_with (first
      | (at_builtin; refine wpList_pushZ w rfl (.tmp 7) (.tmp 9) 22 rfl w1.heap.size 3 i0 .i64 8 Try.underlying22 hi hz0 hz1 hz2 A1 m c _ rfl Hh.out.row (n : Int) 1 rfl (by unfold maxLen; omega) (by omega) Hsz1.out ?_; intro g cp w2 hown2 hg2 hs2 hat2; obtain ⟨h3, m3, hb2, hgB⟩ := Hh.out.pushed hown2 hg2 hat2; have E3 := Henv.out.mv h3.mv; have kb3 := E3.cb; have ko3 := E3.co; have kf : w2.frozen? ⟨bk, 0, none⟩ = false := hb2.frozen 0; have kc : w2.cell? ⟨bk, 0, none⟩ = some (.slice A1 m c) := (hb2.cell 0).trans rfl; have HE3 := Lib.hid E3; have Hs2 := Lib.hid hs2; have Hat2 := Lib.hid hat2; have H3 := Lib.hid h3; have M3 := Lib.hid m3; have HgB := Lib.hid hgB; clear hown2 hg2 hs2 hat2 h3 m3 hb2 E3 hgB)
      | (go_at_call 14; refine (of_any _ B bw ba len c0 n W0 A L C zs HE3.out.hB HE3.out.web HE3.out.cw HE3.out.ca HE3.out.lw HE3.out.la).mono ?_; rintro e w4 ⟨L1, cp1, rfl, hr4, hb4⟩; have Hr4 := Lib.hid hr4; have Hb4 := Lib.hid hb4; clear hr4 hb4)
      | fail)
    go_ret2
    rw [Hans.out]
    have hs3 : (w2.setCell ⟨bk, 0, none⟩ (.slice (some ⟨g, 0, none⟩) (m + 1) cp)).heap.size = w2.heap.size := by simp [World.setCell]
    generalize w2.setCell ⟨bk, 0, none⟩ (.slice (some ⟨g, 0, none⟩) (m + 1) cp) = w3 at H3 M3 Hr4 Hb4 hs3
    refine ⟨L1, cp1, by simp, by rw [ints_zs]; exact Reads.of_own Hr4.out, fun ad e => .inr (by have h1 := own_new Hr4.out ad e; have := Hs2.out; omega), fun x => x < w1.heap.size ∨ (Value.slice (some ⟨g, 0, none⟩) (m + 1) cp).ownBlock = some x, ⟨_, _, _, H3.out.below Hb4.out, rfl⟩, M3.out.trans (Mv.of_below Hb4.out _), fun y hy => ?_⟩
    · rcases hy with hy | hy
      · exact .inl (.inl hy)
      · cases hy
        rcases Hat2.out with e | e
        · exact .inl (.inr e)
        · exact .inr e
/-- Mv of steps that each hold their own. -/
theorem ofF (w1 : World) (B bw ba bb bo bk len c0 : Nat) (bad : Int) (W0 : Option Addr) (A : Nat → Option Addr) (L C : Nat → Nat) (zs : Nat → List Int) (henv : Env w1 B bw ba bb bo bk len c0 bad W0 A L C zs) :
    Of 15 #[.pointer (some ⟨bk, 0, none⟩), .pointer (some ⟨bb, 0, none⟩), .pointer (some ⟨bo, 0, none⟩)] 41 (IF w1 bk) (ansF len zs bad) where
  enters := fun W x => by kernel_rfl
  keep := fun P S w w' asked h hm hs => h.keep hm hs
  low := fun P w asked h => h.low
  asks := fun P w asked x hI hal hx h0 => by
    refine (asksF w1 w B bw ba bb bo bk len c0 x bad W0 A L C zs P asked henv hI (by omega)).mono ?_
    rintro e w' h
    exact h
  small := fun x hx => by
    unfold ansF
    split
    · exact ⟨by decide, fun y hy => by simp at hy; omega⟩
    · exact ⟨by have := ofL_len len zs x; show (ofL len zs x).length < 1000000; omega, fun y hy => ofL_lt len zs x y hy⟩
end Go.Proofs.Ytogdmmjonojdfaa
