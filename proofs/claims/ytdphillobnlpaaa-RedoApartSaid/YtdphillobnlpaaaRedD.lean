/- The contract of Fence. -/
import Derived.Test.YtdphillobnlpaaaRedC
namespace Go.Proofs.Ytdphillobnlpaaa
open Go.RowKit
open Go.Maps (Keyed)
open Go.ChangeMaps
set_option linter.unusedVariables false

def over (f : Nat → Int) : Nat → List Int → Nat → Int
  | _, [] => f
  | o, v :: r => over (upd f o v) (o + 1) r
set_option maxRecDepth 100000 in
theorem over_get : ∀ (vs : List Int) (f : Nat → Int) (o i : Nat), over f o vs i = if o ≤ i ∧ i < o + vs.length then vs.getD (i - o) 0 else f i
  | [], f, o, i => by rw [if_neg (by simp only [List.length_nil]; omega)]; rfl
  | v :: r, f, o, i => by
    rw [over, over_get r]
    by_cases h : o + 1 ≤ i ∧ i < o + 1 + r.length
    · rw [if_pos h, if_pos (by simp; omega)]
      rw [show i - o = (i - (o + 1)) + 1 by omega]
      rfl
    · rw [if_neg h]
      unfold upd
      by_cases e : i = o
      · subst e
        rw [if_pos rfl, if_pos (by simp), Nat.sub_self]
        rfl
      · rw [if_neg e, if_neg (by simp; omega)]
set_option maxRecDepth 100000 in
theorem Row.over {b c n : Nat} : ∀ (vs : List Int) (o : Nat) (f : Nat → Int) (w : World), Row w b c n f → Row (w.setCells b o (vs.map (Value.int .u64))) b c n (over f o vs)
  | [], _, _, _, h => h
  | v :: r, o, f, w, h => by
    have := Row.over r (o + 1) (upd f o v) _ (h.set_ o v)
    simpa [World.setCells, Go.Proofs.Ytdphillobnlpaaa.over] using this
set_option maxRecDepth 100000 in
theorem mv_setCells {S : Nat → Prop} {b : Nat} (hb : S b) : ∀ (vs : List Value) (o : Nat) (w : World), Mv S w (w.setCells b o vs)
  | [], _, w => Mv.refl _ _
  | v :: r, o, w => ((Mv.refl S w).setCell (p := ⟨b, o, none⟩) (fun _ => hb) v).trans (mv_setCells hb r (o + 1) _)
set_option maxRecDepth 100000 in
/-- Words copied onto a row. -/
theorem copy64 {w : World} {b c n o m : Nat} {f g : Nat → Int} {a : Addr} {dLen dCap sLen sCap : Nat} {xs : List Value} {B : Nat} (h : Row w b c n f) (hm : Nat.min sLen dLen = m) (ho : o + m ≤ n) (hr : ∀ j, j < m → w.cell? (a.add j) = some (.int .u64 (g j))) :
    (∀ ty, (Builtin.copy_ #[56, 56] ty #[.slice (some ⟨b, o, none⟩) dLen dCap, .slice (some a) sLen sCap]).run Try.prog w = .ok (goInt m) (w.setCells b o (((List.range m).map g).map (Value.int .u64)))) ∧
      Row (w.setCells b o (((List.range m).map g).map (Value.int .u64))) b c n (fun i => if o ≤ i ∧ i < o + m then g (i - o) else f i) ∧ Mv (fun x => x = b) w (w.setCells b o (((List.range m).map g).map (Value.int .u64))) := by
  refine ⟨fun ty => ?_, ?_, mv_setCells (S := fun x => x = b) rfl _ _ _⟩
  · have := run_copy_cells (P := Try.prog) w 56 56 ty 28 b o dLen dCap a sLen sCap (((List.range m).map g).map (Value.int .u64)) Try.underlying56 (by kernel_rfl) (by simp [hm])
      (fun j v hj => by
        have hjm : j < m := by
          rcases Nat.lt_or_ge j m with h1 | h1
          · exact h1
          · rw [List.getElem?_eq_none (by simp; omega)] at hj; cases hj
        simp [hjm] at hj
        rw [hr j hjm, hj])
      (fun j hj => by simp at hj; rw [h.cell (by omega)]; rfl) (fun j hj => h.frozen _) (fun v hv => by simp at hv; obtain ⟨_, _, rfl⟩ := hv; rfl)
    simpa using this
  · have h1 := Row.over ((List.range m).map g) o f w h
    have e : over f o ((List.range m).map g) = fun i => if o ≤ i ∧ i < o + m then g (i - o) else f i := by
      funext i
      rw [over_get]
      simp only [List.length_map, List.length_range]
      by_cases hi : o ≤ i ∧ i < o + m
      · rw [if_pos hi, if_pos hi]
        simp [show i - o < m by omega]
      · rw [if_neg hi, if_neg hi]
    rwa [e] at h1

def DS.fence (s : DS) : DS := { s.burn with last := fun j => (s.way j).getD (s.last j), way := fun _ => none }
/-- What lasts while the lines are let last one after the other. -/
def lastL (s : DS) (left : Lit → Bool) (j : Nat) : Int := if left (.int .i64 ((8 * (j / 8) : Nat) : Int)) = true then s.last j else (s.way j).getD (s.last j)
set_option maxRecDepth 100000 in
theorem clear_map {w : World} {b n : Nat} {D : DataW Unit} (h : w.ownsMap Try.prog 3 lineR b n D) :
    ∃ w', (∀ ty, (Builtin.clear_ #[57] ty #[.map (some b)]).run Try.prog w = .ok (.tuple #[]) w') ∧ w'.ownsMap Try.prog 3 lineR b 0 (.map []) ∧ Mv (fun x => x = b) w w' := by
  obtain ⟨es, clock, hb, F, hs, rfl⟩ := h
  refine ⟨setBlock w b (.map #[] clock), fun ty => ?_, ⟨#[], clock, heap_setBlock_same hb _, ⟨by simp, MapKept.stamped_empty clock, by simp⟩, Nat.le_refl _, rfl⟩, ⟨rfl, rfl, rfl, by simp [setBlock], fun k _ hk => heap_setBlock_other hb _ hk⟩⟩
  simp [Builtin.clear_, run_underlying Try.underlying57, MapKept.run_getObj_map hb, MapKept.run_setObj_map _ hb, Result.andThen, setBlock]
set_option maxRecDepth 100000 in
theorem lines_none (w : World) (A : Nat → Prop) (n : Nat) : Lines w A n (.map []) (fun _ => none) := ⟨fun q hq => by simp [Maps.has] at hq, fun i hi h => rfl⟩
set_option maxRecDepth 100000 in
theorem Row.congr {w : World} {b c n : Nat} {f g : Nat → Int} (h : Row w b c n f) (hf : ∀ i, i < n → f i = g i) : Row w b c n g := by
  obtain ⟨cs, hb, h1, h2, h3, h4⟩ := h
  exact ⟨cs, hb, h1, h2, h3, fun i hi => by rw [h4 i hi, hf i hi]⟩
set_option maxRecDepth 100000 in
/-- One line is let last. -/
theorem line_lasts {w0 w w1 : World} {A : Nat → Prop} {G : Dv} {n r b cb : Nat} {s : DS} {D : DataW Unit} {left : Lit → Bool} {x : Int} {kl : Lit} (hL : Lines w0 A n D s.way) (hM0 : Mv (fun b => b = G.l) w0 w) (hr : r = w0.heap.size) (hA : A G.l)
    (hrow : Row w G.l G.cl n (lastL s left)) (hsub : ∀ kl, left kl = true → Maps.has D kl = true) (hkey : keyOf Try.prog 3 (.int .i64 x) = some kl) (hlx : left kl = true)
    (hat : ∀ zd, D.atKey kl zd = .lit (.int .i64 (b : Int))) (hm : Mv (fun b => b = r) w w1) (hrl : G.l < w0.heap.size) :
    ∃ p : Nat, x = (p : Int) ∧ p + 8 ≤ n ∧ ∃ w2, (∀ ty, (Builtin.copy_ #[56, 56] ty #[.slice (some ⟨G.l, p, none⟩) (n - p) (G.cl - p), .slice (some ⟨b, 0, none⟩) 8 cb]).run Try.prog w1 = .ok (.int .i64 8) w2) ∧
      Row w2 G.l G.cl n (lastL s (fun z => left z && !z.sameKey kl)) ∧ Mv (fun b => b = G.l) w1 w2 := by
  obtain ⟨x', e1, rfl, hwx⟩ := Maps.keyOf_int_inv Try.underlying3 hkey
  cases e1
  obtain ⟨k, b', rfl, hk, hb', hnb, hat', c, f, hf, hv⟩ := hL.1 x (hsub _ hlx)
  have e2 : b' = b := by
    have h1 := hat' .nil
    rw [hat .nil] at h1
    injection h1 with h1
    injection h1 with _ h1
    omega
  subst e2
  have hf1 := (hf.mv hM0 (fun e => hnb (e ▸ hA))).mv hm (by show ¬ b' = r; omega)
  have hrow1 := hrow.mv hm (by show ¬ G.l = r; omega)
  obtain ⟨hrun, hrow2, hM2⟩ := copy64 (w := w1) (b := G.l) (c := G.cl) (n := n) (o := 8 * k) (m := 8) (f := lastL s left) (g := f) (a := ⟨b', 0, none⟩) (dLen := n - 8 * k) (dCap := G.cl - 8 * k) (sLen := 8) (sCap := cb) (xs := []) (B := 0) hrow1
    (by show min 8 (n - 8 * k) = 8; omega) (by omega) (fun j hj => by rw [addr_row]; exact hf1.cell hj)
  refine ⟨8 * k, rfl, hk, _, hrun, ?_, hM2⟩
  refine cast (congrArg (Row _ _ _ _) (funext fun i => ?_)) hrow2
  unfold lastL
  by_cases hi : 8 * k ≤ i ∧ i < 8 * k + 8
  · rw [if_pos hi]
    have e3 : 8 * (i / 8) = 8 * k := by omega
    rw [e3]
    simp only [WideAt.sameKey_self (keyedI.key hkey), Bool.not_true, Bool.and_false, Bool.false_eq_true, if_false]
    have := hv (i - 8 * k) (by omega)
    rw [show 8 * k + (i - 8 * k) = i by omega] at this
    rw [this]
    rfl
  · rw [if_neg hi]
    have e3 : (Lit.int .i64 ((8 * (i / 8) : Nat) : Int)) ≠ (Lit.int .i64 ((8 * k : Nat) : Int)) := fun e => hi (by injection e with _ e; omega)
    show (if left (.int .i64 ((8 * (i / 8) : Nat) : Int)) = true then s.last i else (s.way i).getD (s.last i)) = if (left (.int .i64 ((8 * (i / 8) : Nat) : Int)) && !(Lit.int .i64 ((8 * (i / 8) : Nat) : Int)).sameKey (Lit.int .i64 ((8 * k : Nat) : Int))) = true then s.last i else (s.way i).getD (s.last i)
    rw [Maps.sameKey_ne e3]
    simp
set_option maxRecDepth 100000 in
set_option maxRecDepth 100000 in
set_option maxHeartbeats 2000000 in
theorem fence_ok (w : World) (A : Nat → Prop) (G : Dv) (n : Nat) (s : DS) (h : Dev w A G n s) (hA : ∀ b, A b → b < w.heap.size) (hd : s.dead = false) (hf : s.fuse ≠ 0) (hs : s.steps < 1000000000) :
    Calls Try.prog 12 #[.pointer (some ⟨G.d, 0, none⟩)] w fun e w' => e = .returned (.tuple #[]) ∧ Dev w' A G n s.fence ∧ Mv G.own w w' := by
  have h' := Lib.hid h
  have hd' := Lib.hid hd
  have hf' := Lib.hid hf
  have hA' := Lib.hid hA
  clear hd hf h hA
  go_enter Try.func12, Try.ntmps12
  go_wp2_with (first
    | (go_at_call 32; refine (burn_ok w A G n s h'.out hd'.out hf'.out hs).mono ?_; rintro e w2 ⟨rfl, hD2, hM2⟩; have H2 := Lib.hid hD2; have M2 := Lib.hid hM2; have c2 : w2.cell? ⟨G.d, 2, none⟩ = some (.map (some G.m)) := (hD2.1.cell 2).trans rfl; obtain ⟨D, hD, hL⟩ := hD2.2.2.2.2.2.2; clear hD2 hM2)
    | (at_range; refine wpList_range_own _ rfl _ 57 rfl 3 56 keyedI Try.underlying57 lineR G.m s.burn.steps.toNat D rfl hD ?_; intro w3 hrg3 hg3 hs3))
  go_frame
  have hHL := Lib.hid hL
  have Mf3 : Hid (Mv (fun _ => False) w2 w3) := Lib.hid ((Mv.refl (fun _ => False) w2).grown hg3 (fun g e => by cases e))
  have Mg3 : Hid (Mv (fun b => b = G.l) w2 w3) := Lib.hid ((Mv.refl (fun b => b = G.l) w2).grown hg3 (fun g e => by cases e))
  obtain ⟨r, hr⟩ : ∃ r, r = w2.heap.size := ⟨_, rfl⟩
  have hr' := Lib.hid hr
  rw [← hr] at hrg3 ⊢
  have hap := Lib.hid H2.out.apart
  have hn := Lib.hid H2.out.2.2.2.2.2.1
  clear hL hD hr hs3 hg3 c2
  go_loopw [2, 3] (fun _ _ wr => ∃ (left : Lit → Bool) (cnt : Nat), Hid (wr.ranges Try.prog 3 lineR G.m r s.burn.steps.toNat D left cnt) ∧ Hid (Row wr G.l G.cl n (lastL s left)) ∧ Hid (∀ kl, left kl = true → Maps.has D kl = true) ∧ Hid (Mv (fun b => b = G.l) w2 wr))
    (fun _ _ wr => wr.rangeLeft G.m r)
  case atStart =>
    refine ⟨_, _, Lib.hid hrg3, Lib.hid ?_, Lib.hid (fun kl h => h), Mg3⟩
    refine (H2.out.2.2.1.mv Mf3.out (fun e => e)).congr (fun i hi => ?_)
    show s.last i = lastL s (Maps.has D) i
    unfold lastL
    rcases hx : Maps.has D (.int .i64 ((8 * (i / 8) : Nat) : Int)) with _ | _
    · have e : s.way i = none := hHL.out.2 i hi hx
      rw [e]
      rfl
    · rfl
  case round =>
    obtain ⟨left, cnt, hrg, hrow, hsub, hM⟩ := hrel
    have cd2 : wr.cell? ⟨G.d, 2, none⟩ = some (.map (some G.m)) := ((H2.out.1.mv hM.out hap.out.2.1).cell 2).trans rfl
    have cd1 : wr.cell? ⟨G.d, 1, none⟩ = some (.slice (some ⟨G.l, 0, none⟩) n G.cl) := ((H2.out.1.mv hM.out hap.out.2.1).cell 1).trans rfl
    go_wp2_with (at_next; refine wpList_next_ranges _ rfl _ rfl 3 keyedI lineR (Value.int .i64) (fun p : Nat × Nat => Value.slice (some ⟨p.1, 0, none⟩) 8 p.2) (fun key kl hk => by obtain ⟨x, rfl, _⟩ := Maps.keyOf_int_inv Try.underlying3 hk; exact ⟨x, rfl⟩) (fun v y hy => by obtain ⟨b, c, rfl, _⟩ := lineR_inv hy; exact ⟨(b, c), rfl⟩) G.m r s.burn.steps.toNat D left cnt rfl hrg.out ?_ ?_)
    · intro _ hl0
      obtain ⟨w5, hcl5, hown5, hM5⟩ := clear_map hrg.out.owns
      have Hl0 := Lib.hid hl0
      have Hown5 := Lib.hid hown5
      have HM5 := Lib.hid hM5
      clear hl0 hown5 hM5
      go_wp2_with fail
      go_end0
      have hM25 : Mv G.own w2 w5 := (hM.out.mono (fun b _ e => Or.inr (Or.inr (Or.inl e)))).trans' HM5.out (fun b _ e => Or.inr (Or.inr (Or.inr e)))
      refine ⟨rfl, ⟨(H2.out.1.mv hM.out hap.out.2.1).mv HM5.out hap.out.2.2.2.1, (H2.out.2.1.mv hM.out hap.out.2.2.1).mv HM5.out hap.out.2.2.2.2.1, ?_, H2.out.2.2.2.1, H2.out.2.2.2.2.1, hn.out, .map [], ?_, lines_none _ _ _⟩, (M2.out.mono (fun b _ e => Or.inl e)).trans' hM25 (fun _ _ h => h)⟩
      · refine (hrow.out.mv HM5.out hap.out.2.2.2.2.2.1).congr (fun i hi => ?_)
        unfold lastL
        rw [Hl0.out]
        rfl
      · exact Hown5.out.mono (Nat.zero_le _)
    · intro x b cb kl y1 y2 w4 cnt4 hkey hlx hRv hat hrg4 hlt hg4 hs4 hen
      obtain ⟨b', c', e1, _, _, e2⟩ := lineR_inv hRv
      cases e1
      cases e2
      have hM4 : Mv (fun b => b = r) wr w4 := (Mv.refl (fun b => b = r) wr).grown hg4 (fun g e _ => by cases e; rfl)
      obtain ⟨p, rfl, hp, w5, hcopy, hrow5, hM5⟩ := line_lasts (s := s) (cb := cb) (b := b) hHL.out hM.out hr'.out H2.out.2.2.2.2.1.2.2.1 hrow.out hsub.out hkey hlx hat hM4 hap.out.2.2.2.2.2.2.2.2.1
      have hgr : G.d ≠ r := by have := hap.out.2.2.2.2.2.2.1; have := hr'.out; omega
      have cd1' : w4.cell? ⟨G.d, 1, none⟩ = some (.slice (some ⟨G.l, 0, none⟩) n G.cl) := (((H2.out.1.mv hM.out hap.out.2.1).mv hM4 hgr).cell 1).trans rfl
      have hsl := fun W => slice64_l G.l n G.cl p W (by omega) H2.out.2.2.1.cap.1
      have hrg5 := hrg4.kept (hM5.row_ (r := G.l) (fun _ _ e => e)) (by intro e; injection e with e; exact hap.out.2.2.2.2.2.1 e.symm) (by intro e; injection e with e; have := hap.out.2.2.2.2.2.2.2.2.1; have := hr'.out; omega)
      have Hrg5 := Lib.hid hrg5
      have Hrow5 := Lib.hid hrow5
      have hM25 : Hid (Mv (fun b => b = G.l) w2 w5) := Lib.hid ((hM.out.trans' (hM4.mono (S' := fun b => b = r) (fun _ _ e => e)) (fun b hb e => by have := hr'.out; omega)).trans hM5)
      have hlt' := Lib.hid hlt
      have hleft := Lib.hid hrg.out.left_eq
      clear hrg4 hg4 hM4 hM5 hrow5 hrg5 hkey hlx hRv hat hlt cd1
      go_wp2_with fail
      go_roundw
      case rel =>
        exact ⟨_, cnt4, Hrg5, Hrow5, Lib.hid (fun kl h => hsub.out kl (by simp at h; exact h.1)), hM25⟩
      case measure =>
        rw [Hrg5.out.left_eq, hleft.out]
        exact hlt'.out
set_option maxRecDepth 100000 in
theorem fence_lost (w : World) (A : Nat → Prop) (G : Dv) (n : Nat) (s : DS) (h : Dev w A G n s) (hf : s.dead = true ∨ s.fuse = 0) :
    Calls Try.prog 12 #[.pointer (some ⟨G.d, 0, none⟩)] w fun e w' => Panics lostV e ∧ Dev w' A G n s.kill ∧ Mv G.own w w' := by
  have h' := Lib.hid h
  clear h
  have hf' := Lib.hid hf
  clear hf
  unfold Panics
  go_enter Try.func12, Try.ntmps12
  go_wp2_with (go_at_call 32; refine (burn_lost w A G n s h'.out hf'.out).mono ?_; rintro e w2 ⟨rfl, hD2, hM2⟩; have H2 := Lib.hid hD2; have M2 := Lib.hid hM2; clear hD2 hM2)
  simp only [bodyPost]
  exact ⟨trivial, trivial, H2.out, M2.out.mono (fun b _ e => .inl e)⟩
end Go.Proofs.Ytdphillobnlpaaa
