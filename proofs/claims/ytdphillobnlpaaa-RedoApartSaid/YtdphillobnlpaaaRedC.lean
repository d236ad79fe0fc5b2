/- The contracts of slices.Clone (words) and Flush. -/
import Derived.Test.YtdphillobnlpaaaNvmB
import Derived.Laws.IdiomCopy
import Derived.Deep.RegionHeld3
import Derived.Lib.BufferMore
namespace Go.Proofs.Ytdphillobnlpaaa
open Go.RowKit
open Go.Maps (Keyed)
set_option linter.unusedVariables false

set_option maxRecDepth 100000 in
theorem info64 : (Try.prog.info? 28).map (fun i => (i.zero, i.size, i.bytes)) = some (some (.int .u64 0), 1, 8) := by kernel_rfl
set_option maxRecDepth 100000 in
theorem own_shape {w : World} {B : Nat} {e : TypeId} {v : Value} {n : Nat} {xs : List Value} (h : w.ownsRow B e 1 v n xs) : ∃ A c, v = .slice A n c := by
  rcases h.2 with ⟨rfl, rfl⟩ | ⟨g, cap, cur, rfl, _⟩
  · exact ⟨none, 0, rfl⟩
  · exact ⟨_, cap, rfl⟩
def Cl64 (n : Nat) (xs : List Value) (B : Nat) (w : World) (e : Ending) (w' : World) : Prop :=
  ∃ A c, e = .returned (.slice A n c) ∧ w'.ownsRow B 28 1 (.slice A n c) n xs ∧ Below w.heap.size w w'
set_option maxRecDepth 100000 in
set_option maxRecDepth 100000 in
set_option maxHeartbeats 1000000 in
theorem clone64 (ad : Addr) (n cap : Nat) (xs : List Value) (B : Nat) (w : World) (hn : n ≤ 10000000) (hB : B ≤ w.heap.size) (hr : Reads w w.heap.size 1 (some ad) n xs) (h1 : ∀ u ∈ xs, u.oneCell' = true) :
    Calls Try.prog 34 #[.slice (some ad) n cap] w (Cl64 n xs B w) := by
  obtain ⟨i0, hi, hz0, hz1, hz2⟩ := info_parts info64
  have hl : xs.length = n := by have := hr.1; omega
  have hq : ∀ W : World, (binOp .eql 56 (.slice (some ad) n cap) (.slice none 0 0)).run Try.prog W = .ok (.bool false) W := fun W => Lib.run_eql_slice_some_nil W ad n cap Try.underlying56
  have hown : (w.alloc (.cells #[] 28)).ownsRow B 28 1 (.slice (some ⟨w.heap.size, 0, none⟩) 0 0) 0 [] :=
    ⟨rfl, .inr ⟨w.heap.size, 0, #[], rfl, hB, Blk.new w 28 #[], Nat.le_refl _, by decide, rfl, rfl⟩⟩
  have hr1 := hr.alloc (Nat.le_refl _) (.cells #[] 28)
  go_enter Try.func34, Try.ntmps34
  go_wp2_with (at_builtin; refine wpList_append_any _ rfl (.tmp 5) (.tmp 6) 56 rfl B 28 i0 (.int .u64 0) 1 8 Try.underlying56 hi hz0 hz1 hz2 rfl (by decide) _ 0 [] rfl hown w.heap.size (some ad) n cap xs rfl hr1 h1 (by unfold maxLen; omega) (by omega) (by simp; omega) ?_; intro v' w1 hown1 hgrow1 hat; obtain ⟨A1, c1, rfl⟩ := own_shape hown1; have Hown := Lib.hid hown1; have Hgrow := Lib.hid hgrow1; clear hown1 hgrow1 hat)
  go_ret
  refine ⟨A1, c1, by simp, ?_, ?_⟩
  · have := Hown.out
    simpa using this
  · exact ((Below.refl _ w).alloc (Nat.le_refl _) _).grown Hgrow.out (by simp) (fun k hk => by cases hk; exact Nat.le_refl _)

set_option maxRecDepth 100000 in
theorem size64 (W : World) : (sizeOf (Try.prog.elem 56)).run Try.prog W = .ok 1 W := by
  obtain ⟨i0, hi, hz0, hz1, hz2⟩ := info_parts info64
  have e : Try.prog.elem 56 = 28 := by kernel_rfl
  have e2 : Try.prog.cellsOf 28 = 1 := by kernel_rfl
  rw [e, run_sizeOf W hi, e2]
set_option maxRecDepth 100000 in
theorem slice64_lh (b n c a j : Nat) (J : Int) (W : World) (hJ : J = (a : Int) + (j : Int)) (h1 : a + j ≤ c) (hj : 0 < j) : (Instr.slice 56 (.slice (some ⟨b, 0, none⟩) n c) (some (.int .i64 (a : Int))) (some (.int .i64 J)) none).run Try.prog W = .ok (.slice (some ⟨b, a, none⟩) j (c - a)) W := by
  subst hJ
  have e := run_slice_lh (P := Try.prog) W 56 (some ⟨b, 0, none⟩) n c Try.underlying56 .i64 .i64 (a : Int) ((a : Int) + (j : Int)) (by omega) (by omega) (by omega)
  rw [e]
  have e2 : ((a : Int) + (j : Int)).toNat = a + j := by omega
  have e3 : a + j - a = j := by omega
  rw [size64]
  have e4 : ¬ c = a := by omega
  simp [sliced, e2, e3, e4, Result.andThen, addr_row]
set_option maxRecDepth 100000 in
theorem slice64_l (b n c a : Nat) (W : World) (h1 : a < n) (h2 : n ≤ c) : (Instr.slice 56 (.slice (some ⟨b, 0, none⟩) n c) (some (.int .i64 (a : Int))) none none).run Try.prog W = .ok (.slice (some ⟨b, a, none⟩) (n - a) (c - a)) W := by
  have e := run_slice_l (P := Try.prog) W 56 (some ⟨b, 0, none⟩) n c Try.underlying56 .i64 (a : Int) (by omega) (by omega)
  rw [e]
  have e4 : ¬ c = a := by omega
  rw [size64]
  simp [sliced, e4, Result.andThen, addr_row]

def DS.flush (s : DS) (p : Nat) : DS := { s.burn with way := fun j => if p ≤ j ∧ j < p + 8 then some (s.now j) else s.way j }
set_option maxRecDepth 100000 in
theorem keyedI : Keyed Try.prog 3 := Maps.int_keyed Try.underlying3
set_option maxRecDepth 100000 in
theorem key_int {a : Int} (h : 0 ≤ a ∧ a < 1000000) : keyOf Try.prog 3 (.int .i64 a) = some (.int .i64 a) :=
  Maps.keyOf_int_mk Try.underlying3 (by simp only [Lit.wf, IntKind.min, IntKind.max, IntKind.signed, IntKind.bits, Bool.and_eq_true, decide_eq_true_eq, if_true]; omega)
set_option maxRecDepth 100000 in
theorem flush_fin {w w2 w3 : World} {A : Nat → Prop} {G : Dv} {n : Nat} {s : DS} {q p c : Nat} {A3 : Option Addr} (h : Dev w A G n s) (hA : ∀ b, A b → b < w.heap.size) (H2 : Dev w2 A G n s.burn) (M2 : Mv (fun b => b = G.d) w w2)
    (hp : p = 8 * q) (hq : p + 8 ≤ n) (hs : s.steps < 1000000000) (hown : w3.ownsRow w2.heap.size 28 1 (.slice A3 8 c) 8 ((List.range 8).map fun j => Value.int .u64 (s.now (p + j)))) (hb3 : Below w2.heap.size w2 w3) :
    ∃ w4, (Instr.mapUpdate 57 (.map (some G.m)) (.int .i64 (p : Int)) (.slice A3 8 c)).run Try.prog w3 = .ok () w4 ∧ Dev w4 A G n (s.flush p) ∧ Mv G.own w w4 := by
  obtain ⟨b, rfl, hbge, hrow⟩ := Row.of_own hown (by omega)
  have ha := h.apart
  obtain ⟨h1, h2, h3, h4, h5, h6, D, hD, hL⟩ := h
  obtain ⟨k1, k2, k3, k4, k5, k6, -⟩ := H2
  have M3 : Mv (fun b => b = G.d) w w3 := M2.trans' (Mv.of_below hb3 (fun _ => False)) (fun _ _ h => h.elim)
  have hD3 := mv_map hD M3 (fun e => ha.2.2.2.1 e.symm)
  have hwf : keyOf Try.prog 3 (.int .i64 (p : Int)) = some (.int .i64 (p : Int)) := key_int (by omega)
  obtain ⟨w4, hrun, hD4, hg4⟩ := hD3.update (t := 57) (e := 56) keyedI Try.underlying57 (by unfold maxLen; omega) hwf (lineR_mk (b := b) hrow.cap.1 hrow.cap.2)
  have M4 : Mv (fun b => b = G.m) w3 w4 := (Mv.refl (fun b => b = G.m) w3).grown hg4 (fun g e _ => by cases e; rfl)
  have hbA : ¬ A b := fun e => by have := hA b e; have := M2.size; omega
  have M24 : Mv (fun b => b = G.m) w2 w4 := (Mv.of_below hb3 (fun b => b = G.m)).trans M4
  have M14 : Mv G.own w w4 := (M2.mono (fun b _ e => Or.inl e)).trans' M24 (fun b _ e => Or.inr (Or.inr (Or.inr e)))
  have hbm : b ≠ G.m := fun e => hbA (e ▸ h5.2.2.2)
  refine ⟨w4, hrun, ⟨k1.mv M24 ha.2.2.2.1, k2.mv M24 ha.2.2.2.2.1, k3.mv M24 ha.2.2.2.2.2.1, h4, h5, k6, D.put (.int .i64 (p : Int)) (.lit (.int .i64 (b : Int))), ?_, ?_⟩, M14⟩
  · exact hD4.mono (by show s.steps.toNat + 1 ≤ (s.steps + 1).toNat; omega)
  · have hmap := hD.isMap
    have hkl : WideAt.IsKeyLit (.int .i64 (p : Int)) := keyedI.key hwf
    refine ⟨fun x hx => ?_, fun i hi hx => ?_⟩
    · by_cases e : x = (p : Int)
      · subst e
        refine ⟨q, b, by rw [hp], by omega, by have := hrow.mv M4 hbm; exact this.lt, hbA, fun z => by rw [Maps.atKey_put_same hmap hkl], c, _, hrow.mv M4 hbm, fun j hj => ?_⟩
        show (if p ≤ 8 * q + j ∧ 8 * q + j < p + 8 then some (s.now (8 * q + j)) else s.way (8 * q + j)) = _
        rw [if_pos (by omega), hp]
      · have hne : (Lit.int .i64 x) ≠ (Lit.int .i64 (p : Int)) := fun e' => e (by injection e')
        rw [Maps.has_put_other hne] at hx
        obtain ⟨k, b', e1, hk, hb', hn', hat, c', f, hf, hv⟩ := hL.1 x hx
        have M : Mv A w w4 := M14.mono (fun b _ e => by rcases e with rfl | rfl | rfl | rfl <;> first | exact h5.1 | exact h5.2.1 | exact h5.2.2.1 | exact h5.2.2.2)
        refine ⟨k, b', e1, hk, Nat.lt_of_lt_of_le hb' M14.size, hn', fun z => by rw [Maps.atKey_put_other hne]; exact hat z, c', f, hf.mv M hn', fun j hj => ?_⟩
        show (if p ≤ 8 * k + j ∧ 8 * k + j < p + 8 then some (s.now (8 * k + j)) else s.way (8 * k + j)) = _
        rw [if_neg (by omega)]
        exact hv j hj
    · by_cases e : 8 * (i / 8) = p
      · rw [e, Maps.has_put_same hmap hkl] at hx
        cases hx
      · have hne : (Lit.int .i64 ((8 * (i / 8) : Nat) : Int)) ≠ (Lit.int .i64 (p : Int)) := fun e' => e (by injection e' with _ e'; omega)
        rw [Maps.has_put_other hne] at hx
        show (if p ≤ i ∧ i < p + 8 then some (s.now i) else s.way i) = _
        rw [if_neg (by omega)]
        exact hL.2 i hi hx
set_option maxRecDepth 100000 in
theorem lineP (w : World) (k p : Nat) (hk : k < 65536) (hp : p = 8 * (k / 8)) :
    Calls Try.prog 33 #[.int .i64 (k : Int)] w fun e w' => e = .returned (.int .i64 (p : Int)) ∧ w = w' := by
  refine (line_any w (k : Int) (by omega)).mono ?_
  rintro e w' ⟨rfl, rfl⟩
  have : (p : Int) = 8 * ((k : Int) / 8) := by omega
  rw [this]
  exact ⟨rfl, rfl⟩
set_option maxRecDepth 100000 in
set_option maxRecDepth 100000 in
set_option maxHeartbeats 2000000 in
theorem flush_ok (w : World) (A : Nat → Prop) (G : Dv) (n : Nat) (s : DS) (k : Nat) (h : Dev w A G n s) (hA : ∀ b, A b → b < w.heap.size) (hk : k < n) (hd : s.dead = false) (hf : s.fuse ≠ 0) (hs : s.steps < 1000000000) :
    Calls Try.prog 11 #[.pointer (some ⟨G.d, 0, none⟩), .int .i64 (k : Int)] w fun e w' => e = .returned (.tuple #[]) ∧ Dev w' A G n (s.flush (8 * (k / 8))) ∧ Mv G.own w w' := by
  obtain ⟨p, hp⟩ : ∃ p, p = 8 * (k / 8) := ⟨_, rfl⟩
  rw [← hp]
  have hn := h.2.2.2.2.2.1
  have hpn : p + 8 ≤ n := by omega
  have hk6 : k < 65536 := by omega
  have hcn := h.2.1.cap
  have h' := Lib.hid h
  have hd' := Lib.hid hd
  have hf' := Lib.hid hf
  have hp' := Lib.hid hp
  have hA' := Lib.hid hA
  have hsl := fun W => slice64_lh G.n n G.cn p 8 ((p : Int) + 8) W rfl (by omega) (by omega)
  have ha := Lib.hid h.apart
  have w1 : IntKind.i64.wrap ((p : Int) + 8) = (p : Int) + 8 := IntWalk.i64_in _ (by omega)
  clear hn hd hf hp h hA
  go_enter Try.func11, Try.ntmps11
  go_wp2_with (first
    | (go_at_call 31; refine (ask_ok w A G n s (k : Int) h'.out (by omega) hd'.out).mono ?_; rintro e w1 ⟨rfl, rfl⟩)
    | (go_at_call 32; refine (burn_ok w A G n s h'.out hd'.out hf'.out hs).mono ?_; rintro e w2 ⟨rfl, hD2, hM2⟩; have H2 := Lib.hid hD2; have M2 := Lib.hid hM2; clear hD2 hM2)
    | (go_at_call 33; refine (lineP w2 k p hk6 hp'.out).mono ?_; rintro e w3 ⟨rfl, rfl⟩))
  have c0 : w2.cell? ⟨G.d, 0, none⟩ = some (.slice (some ⟨G.n, 0, none⟩) n G.cn) := (H2.out.1.cell 0).trans rfl
  have c2 : w2.cell? ⟨G.d, 2, none⟩ = some (.map (some G.m)) := (H2.out.1.cell 2).trans rfl
  have hgd : G.d < w2.heap.size := H2.out.1.lt
  have Hcl := Lib.hid (clone64 ⟨G.n, p, none⟩ 8 (G.cn - p) _ w2.heap.size w2.drew (by omega) (Nat.le_refl _) (H2.out.2.1.reads p 8 hpn).drew (by intro u hu; simp at hu; obtain ⟨j, _, rfl⟩ := hu; rfl))
  unfold Cl64 at Hcl
  go_region_held3 (fun w' => w'.cell? ⟨G.d, 0, none⟩ = some (.slice (some ⟨G.n, 0, none⟩) n G.cn) ∧ w'.cell? ⟨G.d, 2, none⟩ = some (.map (some G.m))) (first | assumption | exact ⟨by assumption, by assumption⟩ | (simp [*]; done)) (first
    | (go_simp; go_at_call 34; refine Hcl.out.mono ?_; rintro e w3 ⟨A3, c3, rfl, hown3, hb3⟩; have d0 : w3.cell? ⟨G.d, 0, none⟩ = some (.slice (some ⟨G.n, 0, none⟩) n G.cn) := (hb3.cell hgd).trans c0; have d2 : w3.cell? ⟨G.d, 2, none⟩ = some (.map (some G.m)) := (hb3.cell hgd).trans c2; obtain ⟨w4, hrun4, hD4, hM4⟩ := flush_fin h'.out hA'.out H2.out M2.out hp'.out hpn hs hown3 ((Below.refl _ w2).drew.trans hb3); have q0 : w4.cell? ⟨G.d, 0, none⟩ = some (.slice (some ⟨G.n, 0, none⟩) n G.cn) := (hD4.1.cell 0).trans rfl; have q2 : w4.cell? ⟨G.d, 2, none⟩ = some (.map (some G.m)) := (hD4.1.cell 2).trans rfl))
  have HD4 := Lib.hid hD4
  have HM4 := Lib.hid hM4
  clear hD4 hM4 q0 q2 d0 d2 c0 c2 hown3 hb3 Hcl hrun4
  go_wp2_with fail
  go_end0
  exact ⟨rfl, HD4.out, HM4.out⟩
set_option maxRecDepth 100000 in
theorem flush_wrong (w : World) (A : Nat → Prop) (G : Dv) (n : Nat) (s : DS) (i : Int) (h : Dev w A G n s) (hi : i < 0 ∨ n ≤ i) :
    Calls Try.prog 11 #[.pointer (some ⟨G.d, 0, none⟩), .int .i64 i] w fun e w' => Panics (wrongV i) e ∧ w = w' := by
  have h' := Lib.hid h
  clear h
  have hi' := Lib.hid hi
  clear hi
  unfold Panics
  go_enter Try.func11, Try.ntmps11
  go_wp2_with (go_at_call 31; refine (ask_wrong w A G n s i h'.out hi'.out).mono ?_; rintro e w1 ⟨rfl, rfl⟩)
  simp [bodyPost]
set_option maxRecDepth 100000 in
theorem flush_lost (w : World) (A : Nat → Prop) (G : Dv) (n : Nat) (s : DS) (i : Int) (h : Dev w A G n s) (hi : 0 ≤ i ∧ i < n) (hf : s.dead = true ∨ s.fuse = 0) :
    Calls Try.prog 11 #[.pointer (some ⟨G.d, 0, none⟩), .int .i64 i] w fun e w' => Panics lostV e ∧ Dev w' A G n s.kill ∧ Mv G.own w w' := by
  have h' := Lib.hid h
  clear h
  have hf' := Lib.hid hf
  clear hf
  have hi' := Lib.hid hi
  clear hi
  unfold Panics
  rcases hd : s.dead with _ | _
  · have hd' := Lib.hid hd
    clear hd
    go_enter Try.func11, Try.ntmps11
    go_wp2_with (first
      | (go_at_call 31; refine (ask_ok w A G n s i h'.out hi'.out hd'.out).mono ?_; rintro e w1 ⟨rfl, rfl⟩)
      | (go_at_call 32; refine (burn_lost w A G n s h'.out hf'.out).mono ?_; rintro e w2 ⟨rfl, hD2, hM2⟩; have H2 := Lib.hid hD2; have M2 := Lib.hid hM2; clear hD2 hM2))
    simp only [bodyPost]
    exact ⟨trivial, trivial, H2.out, M2.out.mono (fun b _ e => .inl e)⟩
  · have hd' := Lib.hid hd
    clear hd
    go_enter Try.func11, Try.ntmps11
    go_wp2_with (go_at_call 31; refine (ask_lost w A G n s i h'.out hi'.out hd'.out).mono ?_; rintro e w1 ⟨rfl, rfl⟩)
    simp only [bodyPost]
    exact ⟨trivial, trivial, h'.out.killed hd'.out, Mv.refl _ _⟩
end Go.Proofs.Ytdphillobnlpaaa
