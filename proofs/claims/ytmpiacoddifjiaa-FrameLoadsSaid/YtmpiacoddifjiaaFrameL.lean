/- The walk of drain: all lines that are there. -/
import Derived.Test.YtmpiacoddifjiaaFrameK
namespace Go.Proofs.Ytmpiacoddifjiaa
open Go.RowKit
set_option linter.unusedVariables false
/-- A call of Line, told by the law of one byte after the other. -/
def LStep (B G : Nat) (l : List Nat) (b : Bool) (e : Ending) (w' : World) : Prop :=
  (e = .returned (.tuple #[.string ⟨#[]⟩, .bool false, .int .i64 0]) ∧ runE ([], b) l = [] ∧ Frm w' B G (runS ([], b) l).1 0 (runS ([], b) l).2) ∨
  ∃ l' b', l'.length < l.length ∧ (∀ i, l'.getD i 0 < 256) ∧ Frm w' B G l' 0 b' ∧ runS ([], b) l = runS ([], b') l' ∧
    ((e = .returned (.tuple #[.string ⟨#[]⟩, .bool false, .int .i64 2]) ∧ runE ([], b) l = none :: runE ([], b') l') ∨
     ∃ m, (∀ i, m.getD i 0 < 256) ∧ m.length ≤ l.length ∧ e = .returned (.tuple #[.string (strB m), .bool true, .int .i64 0]) ∧ runE ([], b) l = some m :: runE ([], b') l')
theorem ln2_step {B G : Nat} {L : List Nat} {e : Ending} {w' : World} (hb : ∀ i, L.getD i 0 < 256) (h : Ln2 B G L e w') : LStep B G L false e w' := by
  obtain ⟨h1, h2, h3, h4⟩ := h
  have hle := lfi_le L
  by_cases hx : lfi L = L.length
  · by_cases hs : L.length < 258
    · have hr := run_short [] (lfi_none hx) (by simpa using hs)
      rw [List.nil_append] at hr
      refine .inl ⟨?_, hr.1, ?_⟩
      · rw [h1]; simp only [lineS, lineO, lineE, if_pos hx, if_pos hs]; rfl
      · rw [hr.2]; exact h2 hx hs
    · have hr := run_long [] (lfi_none hx) (by simp) (by simpa using hs)
      refine .inr ⟨[], true, by simp; omega, by intro i; simp, h3 hx (by omega), by rw [hr.2]; rfl, .inl ⟨?_, by rw [hr.1]; rfl⟩⟩
      rw [h1]; simp only [lineS, lineO, lineE, if_pos hx, if_neg hs]; rfl
  · have hlt : lfi L < L.length := by omega
    have hr := run_line (m := L.take (lfi L)) (r := L.drop (lfi L + 1)) lfi_take
    rw [← lfi_split hlt] at hr
    refine .inr ⟨L.drop (lfi L + 1), false, by simp; omega, drop_lt hb _, h4 hlt, hr.2, ?_⟩
    by_cases ht : 256 < (trim (L.take (lfi L))).length
    · refine .inl ⟨?_, by rw [hr.1]; unfold ev; rw [if_pos ht]⟩
      rw [h1]; simp only [lineS, lineO, lineE, if_neg hx, if_pos ht, decide_eq_false (show ¬ (trim (L.take (lfi L))).length ≤ 256 by omega)]; rfl
    · refine .inr ⟨trim (L.take (lfi L)), trim_lt (take_lt hb _), ?_, ?_, by rw [hr.1]; unfold ev; rw [if_neg ht]⟩
      · have := trim_le (L.take (lfi L)); rw [List.length_take] at this; omega
      rw [h1]; simp only [lineS, lineO, lineE, if_neg hx, if_neg ht, decide_eq_true (show (trim (L.take (lfi L))).length ≤ 256 by omega)]; rfl
theorem line_step (B G : Nat) (l : List Nat) (b : Bool) (w : World) (hb : ∀ i, l.getD i 0 < 256) (hl : l.length ≤ 10000000) (hB : B ≤ w.heap.size) (hf : Frm w B G l 0 b) :
    Calls Try.prog 12 #[.pointer (some ⟨G, 0, none⟩)] w fun e w' => LStep B G l b e w' ∧ Below B w w' := by
  refine (line_any B G l 0 b w hb hl (by decide) hB hf).mono ?_
  rintro e w' ⟨h1, h2, h3⟩
  refine ⟨?_, h3⟩
  have hn : stn l 0 b = 0 := by unfold stn skn; split <;> (try split) <;> simp
  have hr := run_settle l b
  cases hs : str l 0 b
  · obtain ⟨h4, h5⟩ := h1 hs
    have hsb : stb l b = true := by
      cases hq : stb l b
      · simp [str, hq, hn] at hs
      · rfl
    have hbt : b = true ∧ lfi l = l.length := by simpa [stb] using hsb
    obtain ⟨rfl, hx⟩ := hbt
    have := run_true (lfi_none hx)
    rw [hn, hsb] at h5
    refine .inl ⟨h4, this.1, ?_⟩
    rw [this.2]
    have e : stl l 0 true = [] := by simp [stl, hx]
    rw [e] at h5
    exact h5
  · have hq := ln2_step (stl_lt hb 0 b) (h2 hs)
    have hsb := (str_true hs).2
    rw [hsb] at hr
    unfold LStep at hq ⊢
    rw [hr.1, hr.2] at hq
    rcases hq with h | ⟨l', b', q1, q2, q3, q4, h | ⟨m, g1, g2, g3, g4⟩⟩
    · exact .inl h
    · exact .inr ⟨l', b', Nat.lt_of_lt_of_le q1 (stl_len l 0 b), q2, q3, q4, .inl h⟩
    · exact .inr ⟨l', b', Nat.lt_of_lt_of_le q1 (stl_len l 0 b), q2, q3, q4, .inr ⟨m, g1, Nat.le_trans g2 (stl_len l 0 b), g3, g4⟩⟩
/-- What is behind a drain: the state that all the bytes lead to. -/
def DrPost (B G : Nat) (l : List Nat) (b : Bool) (w : World) (e : Ending) (w' : World) : Prop :=
  e = .returned (.string (strB (render (runE ([], b) l)))) ∧ Frm w' B G (runS ([], b) l).1 0 (runS ([], b) l).2 ∧ Below B w w'
theorem long_str : (⟨#[108, 111, 110, 103, 10]⟩ : ByteArray) = strB (tell none) := by decide
theorem lf_str : (⟨#[10]⟩ : ByteArray) = strB [10] := by decide
set_option maxRecDepth 100000 in
set_option maxHeartbeats 2000000 in
theorem drain_any (B G : Nat) (l : List Nat) (b : Bool) (w : World) (hb : ∀ i, l.getD i 0 < 256) (hl : l.length ≤ 3999) (hB : B ≤ w.heap.size) (hf : Frm w B G l 0 b) :
    Calls Try.prog 14 #[.pointer (some ⟨G, 0, none⟩)] w (DrPost B G l b w) := by
  have Hf := Lib.hid hf
  have Hb := Lib.hid hb
  clear hf hb
  go_enter Try.func14, Try.ntmps14
  go_wp2_with fail
  go_loopw [3, 4] (fun s i ws => ∃ (k : Nat) (E : List (Option (List Nat))) (L : List Nat) (c : Bool) (T : ByteArray), i = .int .i64 k ∧ s = .string T ∧ k + L.length ≤ 3999 ∧ Hid (T = strB (render E)) ∧ Hid (∀ i, L.getD i 0 < 256) ∧ Hid (Frm ws B G L 0 c) ∧ Hid (Below B w ws) ∧ Hid (runE ([], b) l = E ++ runE ([], c) L) ∧ Hid (runS ([], b) l = runS ([], c) L)) (fun _ i _ => 4000 - (intOf i).toNat)
  case atStart => exact ⟨0, [], l, b, _, rfl, rfl, by omega, Lib.hid rfl, Hb, Hf, Lib.hid (Below.refl _ _), Lib.hid rfl, Lib.hid rfl⟩
  case round =>
    obtain ⟨k, E, L, c, T, rfl, rfl, hk, hT, hLb, hF, hbel, hE, hS⟩ := hrel
    have hk2 : k < 4000 := by omega
    have hTs : T.size ≤ 24000 := by
      have h1 := render_len l ([], b)
      rw [hE.out, render_append, List.length_append] at h1
      rw [hT.out, strB_size]
      simp at h1
      omega
    have hBr : B ≤ wr.heap.size := Nat.le_trans hB hbel.out.size
    go_wp2_with fail
    refine (line_step B G L c wr hLb.out (by omega) hBr hF.out).mono ?_
    rintro e w2 ⟨hs, hb2⟩
    have Hb2 := Lib.hid (hbel.out.trans hb2)
    clear hb2
    rcases hs with ⟨rfl, h1, h2⟩ | ⟨L', c', q1, q2, q3, q4, ⟨rfl, g4⟩ | ⟨m, g1, g2, rfl, g4⟩⟩
    · have H2 := Lib.hid h2
      have H1 := Lib.hid h1
      clear h1 h2
      go_wp2_with fail
      go_ret
      refine ⟨?_, ?_, Hb2.out⟩
      · rw [hE.out, H1.out, List.append_nil, ← hT.out]; rfl
      · rw [hS.out]; exact H2.out
    · have H2 := Lib.hid q2
      have H3 := Lib.hid q3
      have H4 := Lib.hid q4
      have G4 := Lib.hid g4
      clear q2 q3 q4 g4
      go_wp2_with fail
      go_roundw
      case rel =>
        refine ⟨k + 1, E ++ [none], L', c', _, by go_num, rfl, by omega, Lib.hid ?_, H2, H3, Hb2, Lib.hid ?_, Lib.hid (by rw [hS.out, H4.out])⟩
        · rw [hT.out, long_str, strB_append, render_append, render_one]
        · rw [hE.out, G4.out, List.append_assoc]; rfl
      case measure => simp [intOf]; omega
    · have H2 := Lib.hid q2
      have H3 := Lib.hid q3
      have H4 := Lib.hid q4
      have G4 := Lib.hid g4
      clear q2 q3 q4 g4 g1
      obtain ⟨M, hM⟩ : ∃ M, M = strB m := ⟨_, rfl⟩
      rw [← hM]
      have hMs : M.size ≤ 4000 := by rw [hM, strB_size]; omega
      have HM := Lib.hid hM
      clear hM
      go_wp2_with fail
      go_roundw
      case rel =>
        refine ⟨k + 1, E ++ [some m], L', c', _, by go_num, rfl, by omega, Lib.hid ?_, H2, H3, Hb2, Lib.hid ?_, Lib.hid (by rw [hS.out, H4.out])⟩
        · rw [hT.out, HM.out, lf_str, strB_append, strB_append, render_append, render_one, List.append_assoc]; rfl
        · rw [hE.out, G4.out, List.append_assoc]; rfl
      case measure => simp [intOf]; omega
end Go.Proofs.Ytmpiacoddifjiaa
