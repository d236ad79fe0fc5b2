/- The walks of slices.Clone and of the framer's drop. -/
import Derived.Test.YtmpiacoddifjiaaRows
import Derived.Test.YtmpiacoddifjiaaMem
import Derived.WalkLawsBesides
import Derived.WalkSpells
import Derived.Handy
import Derived.Lib.BufferMore
namespace Go.Proofs.Ytmpiacoddifjiaa
open Go.RowKit
set_option linter.unusedVariables false

theorem info5 : (Try.prog.info? 5).map (fun i => (i.zero, i.size, i.bytes)) = some (some (.int .u8 0), 1, 1) := by kernel_rfl
theorem own_shape {w : World} {B : Nat} {e : TypeId} {v : Value} {n : Nat} {xs : List Value} (h : w.ownsRow B e 1 v n xs) : ∃ A c, v = .slice A n c := by
  rcases h.2 with ⟨rfl, rfl⟩ | ⟨g, cap, cur, rfl, _⟩
  · exact ⟨none, 0, rfl⟩
  · exact ⟨_, cap, rfl⟩
def ClPost (n : Nat) (l : List Nat) (B : Nat) (w : World) (e : Ending) (w' : World) : Prop :=
  ∃ A c, e = .returned (.slice A n c) ∧ w'.ownsRow B 5 1 (.slice A n c) n (Ints .u8 l) ∧ Below w.heap.size w w'
set_option maxRecDepth 100000 in
set_option maxHeartbeats 1000000 in
theorem clone_any (A : Option Addr) (n cap : Nat) (l : List Nat) (B : Nat) (w : World) (hn : n ≤ 10000000) (hB : B ≤ w.heap.size) (hr : Reads w w.heap.size 1 A n (Ints .u8 l)) :
    Calls Try.prog 21 #[.slice A n cap] w (ClPost n l B w) := by
  obtain ⟨i0, hi, hz0, hz1, hz2⟩ := info_parts info5
  have hl : l.length = n := by have := hr.1; rw [Ints_length] at this; omega
  rcases A with _ | ad
  · have h0 : n = 0 := by
      rcases Nat.eq_zero_or_pos n with h0 | h0
      · exact h0
      · obtain ⟨ad, e, _⟩ := hr.2 h0; cases e
    subst h0
    have hl0 := List.eq_nil_of_length_eq_zero hl
    subst hl0
    have hq : ∀ W : World, (binOp .eql 26 (.slice none 0 cap) (.slice none 0 0)).run Try.prog W = .ok (.bool true) W := fun W => Lib.run_eql_slice_nil_nil W 0 cap Try.underlying26
    go_enter Try.func21, Try.ntmps21
    go_wp2_with fail
    go_ret
    exact ⟨none, 0, rfl, ⟨rfl, .inl ⟨rfl, rfl⟩⟩, Below.refl _ _⟩
  · have hq : ∀ W : World, (binOp .eql 26 (.slice (some ad) n cap) (.slice none 0 0)).run Try.prog W = .ok (.bool false) W := fun W => Lib.run_eql_slice_some_nil W ad n cap Try.underlying26
    have hown : (w.alloc (.cells #[] 5)).ownsRow B 5 1 (.slice (some ⟨w.heap.size, 0, none⟩) 0 0) 0 [] :=
      ⟨rfl, .inr ⟨w.heap.size, 0, #[], rfl, hB, Blk.new w 5 #[], Nat.le_refl _, by decide, rfl, rfl⟩⟩
    have hr1 := hr.alloc (Nat.le_refl _) (.cells #[] 5)
    go_enter Try.func21, Try.ntmps21
    go_wp2_with (at_builtin; refine wpList_append_any _ rfl (.tmp 5) (.tmp 6) 26 rfl B 5 i0 (.int .u8 0) 1 1 Try.underlying26 hi hz0 hz1 hz2 rfl (by decide) _ 0 [] rfl hown w.heap.size (some ad) n cap (Ints .u8 l) rfl hr1 (Ints_one _ _) (by unfold maxLen; omega) (by omega) (by simp; omega) ?_; intro v' w1 hown1 hgrow1 hat; obtain ⟨A1, c1, rfl⟩ := own_shape hown1; have Hown := Lib.hid hown1; have Hgrow := Lib.hid hgrow1; clear hown1 hgrow1 hat)
    go_ret
    refine ⟨A1, c1, by simp, ?_, ?_⟩
    · have := Hown.out
      simpa using this
    · exact ((Below.refl _ w).alloc (Nat.le_refl _) _).grown Hgrow.out (by simp) (fun k hk => by cases hk; exact Nat.le_refl _)

/-- A framer: what waits, how much is to be left out, and whether a line is. -/
def Frm (w : World) (B G : Nat) (l : List Nat) (s : Nat) (b : Bool) : Prop :=
  B ≤ G ∧ ∃ A n c, n = l.length ∧ Blk w G 46 #[.slice A n c, .int .i64 (s : Int), .bool b] ∧ w.ownsRow B 5 1 (.slice A n c) n (Ints .u8 l)
def DropPost (B G : Nat) (l : List Nat) (s : Nat) (b : Bool) (w : World) (e : Ending) (w' : World) : Prop :=
  e = .returned (.tuple #[]) ∧ Frm w' B G l s b ∧ Below B w w'
theorem drop_fin {B G : Nat} {l2 : List Nat} {s : Nat} {b : Bool} {w w1 : World} {A A1 : Option Addr} {n c n1 c1 : Nat} (hB : B ≤ w.heap.size) (hBG : B ≤ G) (hG : G < w.heap.size)
    (hblk : Blk w G 46 #[.slice A n c, .int .i64 (s : Int), .bool b]) (hown1 : w1.ownsRow B 5 1 (.slice A1 n1 c1) n1 (Ints .u8 l2)) (hbel : Below w.heap.size w w1) :
    w1.cell? ⟨G, 0, none⟩ = some (.slice A n c) ∧ w1.frozen? ⟨G, 0, none⟩ = false ∧ (Frm (w1.setCell ⟨G, 0, none⟩ (.slice A1 n1 c1)) B G l2 s b ∧ Below B w (w1.setCell ⟨G, 0, none⟩ (.slice A1 n1 c1))) := by
  have hb1 := hblk.below hbel hG
  refine ⟨by rw [hb1.cell]; rfl, hb1.frozen 0, ⟨hBG, A1, n1, c1, ?_, ?_, ?_⟩, (hbel.mono hB).setCell hBG _⟩
  · have := hown1.1
    rw [Ints_length] at this
    omega
  · have := hb1.set_ 0 (.slice A1 n1 c1)
    exact this
  · refine hown1.kept (row := some G) ?_ ?_
    · exact ⟨rfl, rfl, rfl, by simp [World.setCell], fun q hq hne => Below.heap_setCell _ _ _ _ (fun e => hne (by rw [e]))⟩
    · exact .inr (own_blk_ne hown1 hb1 (by decide))
set_option maxRecDepth 100000 in
set_option maxHeartbeats 1000000 in
theorem drop_any (B G k : Nat) (l : List Nat) (s : Nat) (b : Bool) (w : World) (hk : k ≤ l.length) (hl : l.length ≤ 10000000) (hB : B ≤ w.heap.size) (hf : Frm w B G l s b) :
    Calls Try.prog 19 #[.pointer (some ⟨G, 0, none⟩), .int .i64 (k : Int)] w (DropPost B G (l.drop k) s b w) := by
  obtain ⟨hBG, A, n, c, hn, hblk, hown⟩ := hf
  subst hn
  have hcap := cons_row hown
  have h1 := hblk.cell 0
  have hfz := hblk.frozen 0
  simp at h1
  have hr := (Reads.of_own hown).cut (cap := c) hk hcap.1
  have e1 : (Ints .u8 l).drop (k * 1) = Ints .u8 (l.drop k) := by simp [Ints]
  rw [e1] at hr
  have hG : G < w.heap.size := hblk.lt
  by_cases hck : c = k
  · rw [if_pos hck] at hr
    have hr2 := Lib.hid hr
    have Hown := Lib.hid hown
    have Hblk := Lib.hid hblk
    subst hck
    clear hown hblk hr
    go_enter Try.func19, Try.ntmps19
    go_wp2_with fail
    refine (clone_any A 0 0 (l.drop c) B w (by omega) hB (by have := hr2.out; rw [show l.length - c = 0 from by omega] at this; exact this)).mono ?_
    rintro e w1 ⟨A1, c1, rfl, hown1, hbel1⟩
    obtain ⟨h2, h3, fin⟩ := drop_fin hB hBG hG Hblk.out hown1 hbel1
    have Hfin := Lib.hid fin
    clear fin hown1 hbel1
    go_wp2_with fail
    go_end0
    exact ⟨rfl, Hfin.out⟩
  · rw [if_neg hck] at hr
    have hr2 := Lib.hid hr
    have Hblk := Lib.hid hblk
    clear hown hblk hr
    go_enter Try.func19, Try.ntmps19
    go_wp2_with fail
    refine (clone_any _ (l.length - k) (c - k) (l.drop k) B w (by omega) hB (by have := hr2.out; simpa using this)).mono ?_
    rintro e w1 ⟨A1, c1, rfl, hown1, hbel1⟩
    obtain ⟨h2, h3, fin⟩ := drop_fin hB hBG hG Hblk.out hown1 hbel1
    have Hfin := Lib.hid fin
    clear fin hown1 hbel1
    go_wp2_with fail
    go_end0
    exact ⟨rfl, Hfin.out⟩
end Go.Proofs.Ytmpiacoddifjiaa
