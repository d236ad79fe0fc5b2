/- The contracts of ask, burn, line, Load and Store. -/
import Derived.Test.YtdphillobnlpaaaNvmA
namespace Go.Proofs.Ytdphillobnlpaaa
open Go.RowKit
set_option linter.unusedVariables false

def lostV : Value := .iface 74 (.agg #[])
def wrongV (i : Int) : Value := .iface 76 (.agg #[.int .i64 i])
def Panics (v : Value) (e : Ending) : Prop := e = .panicked [{ v := v, recovered := false }]
def DS.burn (s : DS) : DS := { s with steps := s.steps + 1, fuse := max (s.fuse - 1) (-1) }
def DS.kill (s : DS) : DS := { s with dead := true }
def DS.store (s : DS) (i : Nat) (v : Int) : DS := { s.burn with now := upd s.now i v }
section
variable {w w' : World} {A : Nat → Prop} {G : Dv} {n : Nat} {s : DS}
/-- The struct's block turned: nothing else has. -/
theorem Dev.struct (h : Dev w A G n s) {st fu : Int} {de : Bool} (hb : Blk w' G.d 59 #[.slice (some ⟨G.n, 0, none⟩) n G.cn, .slice (some ⟨G.l, 0, none⟩) n G.cl, .map (some G.m), .int .i64 st, .int .i64 fu, .bool de])
    (hm : Mv (fun b => b = G.d) w w') (hst : s.steps ≤ st) (hfu : -1 ≤ fu ∧ fu < 9223372036854775808) : Dev w' A G n { s with steps := st, fuse := fu, dead := de } := by
  have ha := h.apart
  obtain ⟨h1, h2, h3, h4, h5, h6, D, hD, hL⟩ := h
  obtain ⟨q1, q2, q3, q4, q5, q6⟩ := h6
  refine ⟨hb, h2.mv hm (fun e => ha.1 e.symm), h3.mv hm (fun e => ha.2.1 e.symm), h4, h5, ⟨q1, q2, q3, by show 0 ≤ st; omega, hfu.1, hfu.2⟩, D, ?_, ?_⟩
  · exact (mv_map hD hm (fun e => ha.2.2.2.1 e.symm)).mono (by show s.steps.toNat ≤ st.toNat; omega)
  · exact hL.mv hm (fun b _ e => by subst e; exact h5.1) (fun _ _ h => h)
theorem Dev.nowed (h : Dev w A G n s) {now' : Nat → Int} (hb : Row w' G.n G.cn n now') (hm : Mv (fun b => b = G.n) w w') : Dev w' A G n { s with now := now' } := by
  have ha := h.apart
  obtain ⟨h1, h2, h3, h4, h5, h6, D, hD, hL⟩ := h
  exact ⟨h1.mv hm ha.1, hb, h3.mv hm (fun e => h4 e.symm), h4, h5, h6, D, mv_map hD hm (fun e => ha.2.2.2.2.1 e.symm), hL.mv hm (fun b _ e => by subst e; exact h5.2.1) (fun _ _ h => h)⟩
theorem Dev.lasted (h : Dev w A G n s) {last' : Nat → Int} (hb : Row w' G.l G.cl n last') (hm : Mv (fun b => b = G.l) w w') : Dev w' A G n { s with last := last' } := by
  have ha := h.apart
  obtain ⟨h1, h2, h3, h4, h5, h6, D, hD, hL⟩ := h
  exact ⟨h1.mv hm ha.2.1, h2.mv hm h4, hb, h4, h5, h6, D, mv_map hD hm (fun e => ha.2.2.2.2.2.1 e.symm), hL.mv hm (fun b _ e => by subst e; exact h5.2.2.1) (fun _ _ h => h)⟩
end
theorem burn_fin {w : World} {A : Nat → Prop} {G : Dv} {n : Nat} {now last : Nat → Int} {way : Nat → Option Int} {st fu : Int} {de : Bool} {x : Int}
    (h : Dev w A G n ⟨now, last, way, st, fu, de⟩) (hb : Blk w G.d 59 #[.slice (some ⟨G.n, 0, none⟩) n G.cn, .slice (some ⟨G.l, 0, none⟩) n G.cl, .map (some G.m), .int .i64 st, .int .i64 fu, .bool de])
    (q2 : -1 ≤ fu) (q3 : fu < 9223372036854775808) (hx : (fu - 1 < -1 ∧ x = -1) ∨ (¬ fu - 1 < -1 ∧ x = fu - 1)) :
    Ending.returned (.tuple #[]) = Ending.returned (.tuple #[]) ∧ Dev ((w.setCell ⟨G.d, 4, none⟩ (.int .i64 x)).setCell ⟨G.d, 3, none⟩ (.int .i64 (st + 1))) A G n (DS.burn ⟨now, last, way, st, fu, de⟩) ∧
      Mv (fun b => b = G.d) w ((w.setCell ⟨G.d, 4, none⟩ (.int .i64 x)).setCell ⟨G.d, 3, none⟩ (.int .i64 (st + 1))) := by
  have hm : Mv (fun b => b = G.d) w ((w.setCell ⟨G.d, 4, none⟩ (.int .i64 x)).setCell ⟨G.d, 3, none⟩ (.int .i64 (st + 1))) :=
    ((Mv.refl (fun b => b = G.d) w).setCell (p := ⟨G.d, 4, none⟩) (fun _ => rfl) _).setCell (p := ⟨G.d, 3, none⟩) (fun _ => rfl) _
  refine ⟨rfl, ?_, hm⟩
  have e : x = max (fu - 1) (-1) := by rcases hx with ⟨h1, rfl⟩ | ⟨h1, rfl⟩ <;> omega
  have := Dev.struct (st := st + 1) (fu := x) (de := de) h ((hb.set_ 4 (.int .i64 x)).set_ 3 (.int .i64 (st + 1))) hm (by show st ≤ st + 1; omega) (by omega)
  rw [e] at this ⊢
  exact this
section
variable (w : World) (A : Nat → Prop) (G : Dv) (n : Nat) (s : DS)
theorem ask_ok (i : Int) (h : Dev w A G n s) (hi : 0 ≤ i ∧ i < n) (hd : s.dead = false) :
    Calls Try.prog 31 #[.pointer (some ⟨G.d, 0, none⟩), .int .i64 i] w fun e w' => e = .returned (.tuple #[]) ∧ w = w' := by
  obtain ⟨hb, -⟩ := h
  have c0 := hb.cell 0
  have c5 := hb.cell 5
  simp [hd] at c0 c5
  have t1 : decide (i < 0) = false := by simp; omega
  have t2 : decide (i ≥ (n : Int)) = false := by simp; omega
  obtain ⟨h0, h1⟩ := hi
  clear hd hb
  go_enter Try.func31, Try.ntmps31
  go_wp2_with fail
  go_end0
  exact ⟨rfl, rfl⟩
theorem ask_wrong (i : Int) (h : Dev w A G n s) (hi : i < 0 ∨ n ≤ i) :
    Calls Try.prog 31 #[.pointer (some ⟨G.d, 0, none⟩), .int .i64 i] w fun e w' => Panics (wrongV i) e ∧ w = w' := by
  obtain ⟨hb, -⟩ := h
  have c0 := hb.cell 0
  simp at c0
  clear hb
  unfold Panics wrongV
  rcases Int.lt_or_le i 0 with h1 | h1
  · go_enter Try.func31, Try.ntmps31
    go_wp2_with fail
    simp [bodyPost]
  · have t2 : i ≥ (n : Int) := by omega
    go_enter Try.func31, Try.ntmps31
    go_wp2_with fail
    simp [bodyPost]
theorem ask_lost (i : Int) (h : Dev w A G n s) (hi : 0 ≤ i ∧ i < n) (hd : s.dead = true) :
    Calls Try.prog 31 #[.pointer (some ⟨G.d, 0, none⟩), .int .i64 i] w fun e w' => Panics lostV e ∧ w = w' := by
  obtain ⟨hb, -⟩ := h
  have c0 := hb.cell 0
  have c5 := hb.cell 5
  simp [hd] at c0 c5
  have t1 : decide (i < 0) = false := by simp; omega
  have t2 : decide (i ≥ (n : Int)) = false := by simp; omega
  obtain ⟨h0, h1⟩ := hi
  clear hd hb
  unfold Panics lostV
  go_enter Try.func31, Try.ntmps31
  go_wp2_with fail
  simp [bodyPost]
theorem burn_ok (h : Dev w A G n s) (hd : s.dead = false) (hf : s.fuse ≠ 0) (hs : s.steps < 1000000000) :
    Calls Try.prog 32 #[.pointer (some ⟨G.d, 0, none⟩)] w fun e w' => e = .returned (.tuple #[]) ∧ Dev w' A G n s.burn ∧ Mv (fun b => b = G.d) w w' := by
  have h' := Lib.hid h
  obtain ⟨hb, -, -, -, -, q, -⟩ := h
  obtain ⟨-, -, -, q1, q2, q3⟩ := q
  have c4 := hb.cell 4
  have c3 := hb.cell 3
  have c5 := hb.cell 5
  have f4 := hb.frozen 4
  have f3 := hb.frozen 3
  simp [hd] at c3 c4 c5
  have t1 : (s.fuse == 0) = false := by simpa using hf
  have hB := Lib.hid hb
  clear hb
  obtain ⟨now, last, way, st, fu, de⟩ := s
  simp only at *
  subst hd
  go_enter Try.func32, Try.ntmps32
  go_wp2_with fail
  · go_end0
    refine burn_fin h'.out hB.out q2 q3 (Or.inl ⟨by omega, rfl⟩)
  · go_end0
    refine burn_fin h'.out hB.out q2 q3 (Or.inr ⟨by omega, rfl⟩)
theorem burn_lost (h : Dev w A G n s) (hf : s.dead = true ∨ s.fuse = 0) :
    Calls Try.prog 32 #[.pointer (some ⟨G.d, 0, none⟩)] w fun e w' => Panics lostV e ∧ Dev w' A G n s.kill ∧ Mv (fun b => b = G.d) w w' := by
  have h' := Lib.hid h
  obtain ⟨hb, -, -, -, -, q, -⟩ := h
  obtain ⟨-, -, -, q1, q2, q3⟩ := q
  have c4 := hb.cell 4
  have c5 := hb.cell 5
  have f5 := hb.frozen 5
  simp at c4 c5
  have hB := Lib.hid hb
  clear hb
  obtain ⟨now, last, way, st, fu, de⟩ := s
  simp only at *
  unfold Panics lostV
  by_cases h0 : fu = 0
  · subst h0
    go_enter Try.func32, Try.ntmps32
    go_wp2_with fail
    simp only [bodyPost]
    refine ⟨trivial, trivial, Dev.struct h'.out (hB.out.set_ 5 _) ?_ (Int.le_refl _) ⟨q2, q3⟩, ?_⟩
    all_goals exact (Mv.refl (fun b => b = G.d) w).setCell (p := ⟨G.d, 5, none⟩) (fun _ => rfl) _
  · rcases hf with rfl | h1
    · have t1 : (fu == 0) = false := by simpa using h0
      go_enter Try.func32, Try.ntmps32
      go_wp2_with fail
      simp only [bodyPost]
      refine ⟨trivial, trivial, h'.out, Mv.refl _ _⟩
    · exact absurd h1 h0
theorem line_any (i : Int) (hi : 0 ≤ i ∧ i < 65536) :
    Calls Try.prog 33 #[.int .i64 i] w fun e w' => e = .returned (.int .i64 (8 * (i / 8))) ∧ w = w' := by
  obtain ⟨h0, h1⟩ := hi
  have e1 : i.tmod 8 = i % 8 := Int.tmod_eq_emod_of_nonneg h0
  go_enter Try.func33, Try.ntmps33
  go_wp2_with fail
  go_ret
  refine ⟨by simp; omega, rfl⟩
theorem load_ok (i : Int) (h : Dev w A G n s) (hi : 0 ≤ i ∧ i < n) (hd : s.dead = false) :
    Calls Try.prog 14 #[.pointer (some ⟨G.d, 0, none⟩), .int .i64 i] w fun e w' => e = .returned (.int .u64 (s.now i.toNat)) ∧ w = w' := by
  have h' := Lib.hid h
  obtain ⟨hb, hn, -⟩ := h
  have c0 := hb.cell 0
  simp at c0
  obtain ⟨k, rfl⟩ : ∃ k : Nat, i = (k : Int) := ⟨i.toNat, by omega⟩
  have hk : k < n := by omega
  have cn := hn.cell hk
  clear hn hb
  simp only [Int.toNat_natCast]
  go_enter Try.func14, Try.ntmps14
  go_wp2_with (go_at_call 31; refine (ask_ok w A G n s (k : Int) h'.out hi hd).mono ?_; rintro e w1 ⟨rfl, rfl⟩)
  go_ret
  exact ⟨by simp, rfl⟩
theorem load_wrong (i : Int) (h : Dev w A G n s) (hi : i < 0 ∨ n ≤ i) :
    Calls Try.prog 14 #[.pointer (some ⟨G.d, 0, none⟩), .int .i64 i] w fun e w' => Panics (wrongV i) e ∧ w = w' := by
  have h' := Lib.hid h
  clear h
  have hi' := Lib.hid hi
  clear hi
  unfold Panics
  go_enter Try.func14, Try.ntmps14
  go_wp2_with (go_at_call 31; refine (ask_wrong w A G n s i h'.out hi'.out).mono ?_; rintro e w1 ⟨rfl, rfl⟩)
  simp [bodyPost]
theorem load_lost (i : Int) (h : Dev w A G n s) (hi : 0 ≤ i ∧ i < n) (hd : s.dead = true) :
    Calls Try.prog 14 #[.pointer (some ⟨G.d, 0, none⟩), .int .i64 i] w fun e w' => Panics lostV e ∧ w = w' := by
  have h' := Lib.hid h
  clear h
  have hi' := Lib.hid hi
  clear hi
  have hd' := Lib.hid hd
  clear hd
  unfold Panics
  go_enter Try.func14, Try.ntmps14
  go_wp2_with (go_at_call 31; refine (ask_lost w A G n s i h'.out hi'.out hd'.out).mono ?_; rintro e w1 ⟨rfl, rfl⟩)
  simp [bodyPost]
theorem store_ok (i v : Int) (h : Dev w A G n s) (hi : 0 ≤ i ∧ i < n) (hd : s.dead = false) (hf : s.fuse ≠ 0) (hs : s.steps < 1000000000) :
    Calls Try.prog 10 #[.pointer (some ⟨G.d, 0, none⟩), .int .i64 i, .int .u64 v] w fun e w' => e = .returned (.tuple #[]) ∧ Dev w' A G n (s.store i.toNat v) ∧ Mv G.own w w' := by
  have h' := Lib.hid h
  clear h
  have hd' := Lib.hid hd
  have hf' := Lib.hid hf
  clear hd hf
  obtain ⟨k, rfl⟩ : ∃ k : Nat, i = (k : Int) := ⟨i.toNat, by omega⟩
  have hk : k < n := by omega
  simp only [Int.toNat_natCast]
  go_enter Try.func10, Try.ntmps10
  go_wp2_with (first
    | (go_at_call 31; refine (ask_ok w A G n s (k : Int) h'.out hi hd'.out).mono ?_; rintro e w1 ⟨rfl, rfl⟩)
    | (go_at_call 32; go_loud (refine (burn_ok w A G n s h'.out hd'.out hf'.out hs).mono ?_; rintro e w2 ⟨rfl, hD2, hM2⟩; have c0 : w2.cell? ⟨G.d, 0, none⟩ = some (.slice (some ⟨G.n, 0, none⟩) n G.cn) := (hD2.1.cell 0).trans rfl; have fn := hD2.2.1.frozen k; have cn := hD2.2.1.cell hk; have H2 := Lib.hid hD2; have M2 := Lib.hid hM2; clear hD2 hM2)))
  go_end0
  have hm : Mv (fun b => b = G.n) w2 (w2.setCell ⟨G.n, k, none⟩ (.int .u64 v)) := (Mv.refl (fun b => b = G.n) w2).setCell (p := ⟨G.n, k, none⟩) (fun _ => rfl) _
  refine ⟨rfl, Dev.nowed H2.out (now' := upd s.now k v) ?_ hm, ?_⟩
  · exact H2.out.2.1.set_ k v
  · exact (M2.out.mono (fun b _ e => .inl e)).trans' hm (fun b _ e => .inr (.inl e))
theorem store_wrong (i v : Int) (h : Dev w A G n s) (hi : i < 0 ∨ n ≤ i) :
    Calls Try.prog 10 #[.pointer (some ⟨G.d, 0, none⟩), .int .i64 i, .int .u64 v] w fun e w' => Panics (wrongV i) e ∧ w = w' := by
  have h' := Lib.hid h
  clear h
  have hi' := Lib.hid hi
  clear hi
  unfold Panics
  go_enter Try.func10, Try.ntmps10
  go_wp2_with (go_at_call 31; refine (ask_wrong w A G n s i h'.out hi'.out).mono ?_; rintro e w1 ⟨rfl, rfl⟩)
  simp [bodyPost]
theorem Dev.killed {w : World} {A : Nat → Prop} {G : Dv} {n : Nat} {s : DS} (h : Dev w A G n s) (hd : s.dead = true) : Dev w A G n s.kill := by
  have : s.kill = s := by unfold DS.kill; rw [← hd]
  rwa [this]
theorem store_lost (i v : Int) (h : Dev w A G n s) (hi : 0 ≤ i ∧ i < n) (hf : s.dead = true ∨ s.fuse = 0) :
    Calls Try.prog 10 #[.pointer (some ⟨G.d, 0, none⟩), .int .i64 i, .int .u64 v] w fun e w' => Panics lostV e ∧ Dev w' A G n s.kill ∧ Mv G.own w w' := by
  have h' := Lib.hid h
  clear h
  have hf' := Lib.hid hf
  clear hf
  have hi' := Lib.hid hi
  clear hi
  unfold Panics
  rcases hd : s.dead with _ | _
  · have hd' := Lib.hid hd
    clear hd
    go_enter Try.func10, Try.ntmps10
    go_wp2_with (first
      | (go_at_call 31; refine (ask_ok w A G n s i h'.out hi'.out hd'.out).mono ?_; rintro e w1 ⟨rfl, rfl⟩)
      | (go_at_call 32; refine (burn_lost w A G n s h'.out hf'.out).mono ?_; rintro e w2 ⟨rfl, hD2, hM2⟩; have H2 := Lib.hid hD2; have M2 := Lib.hid hM2; clear hD2 hM2))
    simp only [bodyPost]
    exact ⟨trivial, trivial, H2.out, M2.out.mono (fun b _ e => .inl e)⟩
  · have hd' := Lib.hid hd
    clear hd
    go_enter Try.func10, Try.ntmps10
    go_wp2_with (go_at_call 31; refine (ask_lost w A G n s i h'.out hi'.out hd'.out).mono ?_; rintro e w1 ⟨rfl, rfl⟩)
    simp only [bodyPost]
    exact ⟨trivial, trivial, h'.out.killed hd'.out, Mv.refl _ _⟩
end
end Go.Proofs.Ytdphillobnlpaaa
