/- redo: home. -/
import Derived.Test.YtdphillobnlpaaaRedM
import Derived.BigQuiet
import Derived.Deep.RegionHeld3
namespace Go.Proofs.Ytdphillobnlpaaa
open Go.RowKit
set_option linter.unusedVariables false
theorem wpList_pushZ {P : Program} {ops : Array Oper} {rest : List Oper} {o : Oper} {a : Act} {Q : Exit → Act → World → Prop} (w : World) (hgd : o.guard = none) (s x : Operand) (t : TypeId)
    (ho : o.op = .call { callee := .builtin .append, args := #[s, x], argTypes := #[t, t] })
    (B : Nat) (e : TypeId) (i : TypeInfo) (k : IntKind) (bytes : Nat) (ht : P.underlying t = some (.slice e)) (hi : P.info? e = some i) (hz : i.zero = some (.int k 0))
    (hsize : i.size = 1) (hby : i.bytes = bytes)
    (A : Option Addr) (j cap : Nat) (xs : List Value) (hs : a.eval s = .slice A j cap) (hown : w.ownsRow B e 1 (.slice A j cap) j xs)
    (E : Int) (m : Nat) (hx : a.eval x = .slice (some ⟨w.heap.size, 0, none⟩) 1 m) (h63 : j + 1 ≤ maxLen) (hbytes : (j + 1) * bytes ≤ 140737488355328) (hbase : B ≤ w.heap.size)
    (h : ∀ g cap' w', w'.ownsRow B e 1 (.slice (some ⟨g, 0, none⟩) (j + 1) cap') (j + 1) (xs ++ [.int k E]) → w.grownBy w' (Value.slice A j cap).ownBlock → w.heap.size < w'.heap.size → ((Value.slice A j cap).ownBlock = some g ∨ w.heap.size ≤ g) → wpList P ops Q rest (a.put o.dst (.slice (some ⟨g, 0, none⟩) (j + 1) cap')) w') :
    wpList P ops Q (o :: rest) a (w.alloc (.cells #[.int k E] e)) := by
  refine wpList_append_lies (w.alloc (.cells #[.int k E] e)) hgd s x t ho B e i (.int k 0) 1 bytes ht hi hz hsize hby rfl (by decide) _ j xs hs (hown.alloc _) ⟨w.heap.size, 0, none⟩ 1 m [.int k E] hx rfl ?_ ?_ (by decide) h63 hbytes ?_ (w.heap.size + 1) (by simp) ?_
  · intro q u hu
    have hq : q = 0 := by
      rcases Nat.eq_zero_or_pos q with h0 | h0
      · exact h0
      · rw [List.getElem?_eq_none (by simp; omega)] at hu
        cases hu
    subst hq
    have := (Blk.new w e #[.int k E]).cell 0
    simp at hu
    subst hu
    have e0 : (⟨w.heap.size, 0, none⟩ : Addr).add 0 = ⟨w.heap.size, 0, none⟩ := by unfold Addr.add; simp
    rw [e0]
    exact this
  · intro u hu
    simp at hu
    subst hu
    rfl
  · simp
    omega
  · intro g cap' w' hown' hgrow hat hlt
    have hsz : w.heap.size + 1 ≤ w'.heap.size := by have := hgrow.size; simpa using this
    refine h g cap' w' hown' ⟨hgrow.os, hgrow.tape, hgrow.output, by omega, fun q hq hne => ?_⟩ (by omega) ?_
    · rw [hgrow.block q (by simp; omega) hne]
      exact Below.heap_alloc w _ q hq
    · rcases hat with hat | rfl
      · exact .inl hat
      · exact .inr (by omega)
theorem own_mv {w w' : World} {S : Nat → Prop} {B : Nat} {e : TypeId} {v : Value} {n : Nat} {xs : List Value} (h : w.ownsRow B e 1 v n xs) (hm : Mv S w w') (hs : ∀ x, v.ownBlock = some x → x < w.heap.size ∧ ¬ S x) : w'.ownsRow B e 1 v n xs := by
  refine ⟨h.1, ?_⟩
  rcases h.2 with h1 | ⟨g1, cap, cur, e1, e2, e3, e4⟩
  · exact .inl h1
  · have hO := hs g1 (by rw [e1]; rfl)
    exact .inr ⟨g1, cap, cur, e1, e2, (hm.block g1 hO.1 hO.2).trans e3, e4⟩
theorem own_mvx {w w' : World} {S : Nat → Prop} {B : Nat} {e : TypeId} {v : Value} {n : Nat} {xs : List Value} (h : w.ownsRow B e 1 v n xs) (hm : Mv S w w') (hs : ∀ x, v.ownBlock = some x → ¬ S x) : w'.ownsRow B e 1 v n xs :=
  own_mv h hm (fun x hx => ⟨(own_lt h hx).2, hs x hx⟩)
def hwd (now : Nat → Int) (at_ i : Nat) : Int := now (at_ + 8 + 2 * i)
def hvl (now : Nat → Int) (at_ i : Nat) : Int := now (at_ + 8 + 2 * i + 1)
def okW (n at_ words : Nat) (z : Int) : Bool := decide (z < n) && !ownB at_ words z
def hst (now : Nat → Int) (n at_ words : Nat) : List Nat → List St
  | [] => []
  | i :: r => if okW n at_ words (hwd now at_ i) = true then .store (hwd now at_ i).toNat (hvl now at_ i) :: hst now n at_ words r else hst now n at_ words r
def hws (now : Nat → Int) (n at_ words : Nat) (l : List Nat) : List Nat := (l.filter fun i => okW n at_ words (hwd now at_ i)).map fun i => (hwd now at_ i).toNat
def homeT (now : Nat → Int) (n at_ words m : Nat) : List St := setL (-1) (sorted (hws now n at_ words (List.range m))) ++ sealL at_ 0
def homeL (now : Nat → Int) (n at_ words : Nat) : List St := if now at_ = 0 ∨ ((words - 16) / 2 : Nat) < now at_ then [] else hst now n at_ words (List.range (now at_).toNat) ++ homeT now n at_ words (now at_).toNat
theorem hws_succ (now : Nat → Int) (n at_ words i : Nat) : hws now n at_ words (List.range (i + 1)) = hws now n at_ words (List.range i) ++ if okW n at_ words (hwd now at_ i) = true then [(hwd now at_ i).toNat] else [] := by
  unfold hws
  rw [List.range_succ, List.filter_append, List.map_append]
  congr 1
  cases h : okW n at_ words (hwd now at_ i) <;> simp [h]
theorem hws_len (now : Nat → Int) (n at_ words i : Nat) : (hws now n at_ words (List.range i)).length ≤ i := by
  unfold hws
  rw [List.length_map]
  have := List.length_filter_le (fun i => okW n at_ words (hwd now at_ i)) (List.range i)
  simpa using this
/-- The log's own words are as they were. -/
def Same (at_ words : Nat) (f g : Nat → Int) : Prop := ∀ j, at_ ≤ j → j < at_ + words → f j = g j
theorem DevA.grown {w w' : World} {S A : Nat → Prop} {G : Dv} {n : Nat} {s : DS} (h : DevA w A G n s) (hm : Mv S w w') (hs : ∀ b, S b → A b) (hS : ∀ b, G.own b → ¬ S b) : DevA w' (fun b => A b ∨ (w.heap.size ≤ b ∧ b < w'.heap.size)) G n s :=
  ⟨h.1.mv hm (fun b _ e => hs b e) (fun b hb e => e.elim id (fun e => absurd e.1 (Nat.not_le.2 hb))) ⟨.inl (h.ownA _ (.inl rfl)), .inl (h.ownA _ (.inr (.inl rfl))), .inl (h.ownA _ (.inr (.inr (.inl rfl)))), .inl (h.ownA _ (.inr (.inr (.inr rfl))))⟩ hS,
   fun b e => e.elim (fun e => Nat.lt_of_lt_of_le (h.2 b e) hm.size) (fun e => e.2)⟩
/-- What a round of home leaves. -/
structure HR (w wr : World) (A : Nat → Prop) (G : Dv) (n at_ words m i : Nat) (s cur : DS) (A3 : Option Addr) (k3 c3 : Nat) (Ax : Nat → Prop) : Prop where
  row : wr.ownsRow w.heap.size 3 1 (.slice A3 k3 c3) k3 (Ints .i64 (hws s.now n at_ words (List.range i)))
  dev : DevA wr Ax G n cur
  sub : ∀ b, A b → Ax b
  rA : ∀ x, (Value.slice A3 k3 c3).ownBlock = some x → Ax x
  dead : cur.dead = false
  run : runS (homeL s.now n at_ words) s = runS (hst s.now n at_ words ((List.range m).drop i) ++ homeT s.now n at_ words m) cur
  same : Same at_ words cur.now s.now
  steps : cur.steps ≤ s.steps + i
  mv : Mv G.own w wr
theorem HR.own {w wr : World} {A : Nat → Prop} {G : Dv} {n at_ words m i : Nat} {s cur : DS} {A3 : Option Addr} {k3 c3 : Nat} {Ax : Nat → Prop} (h : HR w wr A G n at_ words m i s cur A3 k3 c3 Ax) (hG : ∀ b, G.own b → b < w.heap.size) : ∀ x, (Value.slice A3 k3 c3).ownBlock = some x → Ax x ∧ ¬ G.own x :=
  fun x hx => ⟨h.rA x hx, fun e => by have := hG x e; have := (own_lt h.row hx).1; omega⟩
theorem HR.skip {w wr : World} {A : Nat → Prop} {G : Dv} {n at_ words m i : Nat} {s cur : DS} {A3 : Option Addr} {k3 c3 : Nat} {Ax : Nat → Prop} {z : Int} (h : HR w wr A G n at_ words m i s cur A3 k3 c3 Ax) (hz : hwd s.now at_ i = z) (hok : okW n at_ words z = false) (hd : (List.range m).drop i = i :: (List.range m).drop (i + 1)) (q : Nat) : HR w (wr.drewN q) A G n at_ words m (i + 1) s cur A3 k3 c3 Ax := by
  refine ⟨?_, h.dev.drewN q, h.sub, h.rA, h.dead, ?_, h.same, by have := h.steps; omega, h.mv.drewN q⟩
  · have h1 : (wr.drewN q).ownsRow w.heap.size 3 1 (.slice A3 k3 c3) k3 (Ints .i64 (hws s.now n at_ words (List.range i))) := h.row
    rw [hws_succ, hz, hok]
    simpa using h1
  · rw [h.run, hd, hst, hz, hok]
    simp
theorem HR.step {w wr w4 w5 : World} {A : Nat → Prop} {G : Dv} {n at_ words m i g cp q : Nat} {s cur : DS} {A3 : Option Addr} {k3 c3 : Nat} {Ax : Nat → Prop} {z v : Int} {zn : Nat} (h : HR w wr A G n at_ words m i s cur A3 k3 c3 Ax) (hG : ∀ b, G.own b → b < w.heap.size) (hz : hwd s.now at_ i = z) (hv : hvl s.now at_ i = v) (hzn : z = (zn : Int)) (hok : okW n at_ words z = true) (hd : (List.range m).drop i = i :: (List.range m).drop (i + 1)) (hf : cur.fuse ≠ 0)
    (h4 : DevA w4 Ax G n ((St.store zn v).on cur)) (m4 : Mv G.own (wr.drewN q) w4) (hown : w5.ownsRow w.heap.size 3 1 (.slice (some ⟨g, 0, none⟩) (k3 + 1) cp) (k3 + 1) (Ints .i64 (hws s.now n at_ words (List.range i)) ++ [.int .i64 z])) (hg : w4.grownBy w5 (Value.slice A3 k3 c3).ownBlock) (hat : (Value.slice A3 k3 c3).ownBlock = some g ∨ w4.heap.size ≤ g) :
    HR w w5 A G n at_ words m (i + 1) s ((St.store zn v).on cur) (some ⟨g, 0, none⟩) (k3 + 1) cp (fun b => Ax b ∨ (w4.heap.size ≤ b ∧ b < w5.heap.size)) := by
  have m5 : Mv (fun x => (Value.slice A3 k3 c3).ownBlock = some x) w4 w5 := (Mv.refl _ w4).grown hg (fun g0 e _ => e)
  have hown2 := h.own hG
  refine ⟨?_, h4.grown m5 (fun b e => (hown2 b e).1) (fun b e e' => (hown2 b e').2 e), fun b e => .inl (h.sub b e), ?_, (St.on_dead _ _).trans h.dead, ?_, ?_, ?_, ?_⟩
  · rw [hws_succ, hz, hok, if_pos rfl, hzn, Int.toNat_natCast]
    have : Ints .i64 (hws s.now n at_ words (List.range i) ++ [zn]) = Ints .i64 (hws s.now n at_ words (List.range i)) ++ [.int .i64 z] := by simp [Ints, hzn]
    rw [this]
    exact hown
  · intro x hx
    cases hx
    rcases hat with e | e
    · exact .inl (h.rA g e)
    · exact .inr ⟨e, (own_lt hown rfl).2⟩
  · rw [h.run, hd, hst, hz, hok, if_pos rfl, hv, hzn, Int.toNat_natCast, List.cons_append, runS_go hf]
  · intro j h1 h2
    show upd cur.now zn v j = s.now j
    unfold upd
    have hno : ownB at_ words z = false := by
      unfold okW at hok
      cases hb : ownB at_ words z
      · rfl
      · rw [hb] at hok; simp at hok
    have hne : j ≠ zn := by
      intro e
      subst e
      unfold ownB at hno
      rw [hzn] at hno
      simp at hno
      omega
    rw [if_neg hne]
    exact h.same j h1 h2
  · rw [St.on_steps]
    have := h.steps
    omega
  · exact ((h.mv.drewN q).trans m4).trans' m5 (fun b hb e => by have := (own_lt h.row e).1; omega)
theorem HR.burn {w wr : World} {A : Nat → Prop} {G : Dv} {n at_ words m i : Nat} {s cur : DS} {A3 : Option Addr} {k3 c3 : Nat} {Ax : Nat → Prop} {z v : Int} {zn : Nat} (h : HR w wr A G n at_ words m i s cur A3 k3 c3 Ax) (hz : hwd s.now at_ i = z) (hv : hvl s.now at_ i = v) (hzn : z = (zn : Int)) (hok : okW n at_ words z = true) (hd : (List.range m).drop i = i :: (List.range m).drop (i + 1)) (hf : cur.fuse = 0) : runS (homeL s.now n at_ words) s = (cur.kill, false) := by
  rw [h.run, hd, hst, hz, hok, if_pos rfl, List.cons_append, runS_burn hf]
theorem load_q (w : World) (A : Nat → Prop) (G : Dv) (n : Nat) (s : DS) (h : DevA w A G n s) (hd : s.dead = false) (i : Nat) (hi : i < n) (v : Int) (hv : s.now i = v) : ∀ m, Calls Try.prog 14 #[.pointer (some ⟨G.d, 0, none⟩), .int .i64 (i : Int)] (w.drewN m) fun e w' => e = .returned (.int .u64 v) ∧ ∃ m', w' = w.drewN m' := fun m => by
  refine (load_ok (w.drewN m) A G n s (i : Int) (h.drewN m).1 (by omega) hd).mono ?_
  rintro e w' ⟨rfl, rfl⟩
  rw [Int.toNat_natCast, hv]
  exact ⟨rfl, m, rfl⟩
theorem place_q {w : World} {b : Nat} {G : Dv} {at_ words : Nat} (i : Nat) (h : Lg w b G at_ words) (hw : at_ ≤ 65536) (hi : i ≤ 65536) : ∀ m, Calls Try.prog 40 #[.pointer (some ⟨b, 0, none⟩), .int .i64 (i : Int)] (w.drewN m) fun e w' => e = .returned (.int .i64 ((at_ + 8 + 2 * i : Nat) : Int)) ∧ ∃ m', w' = w.drewN m' := fun m => by
  refine (place_any i (h.drewN m) hw hi).mono ?_
  rintro e w' ⟨rfl, rfl⟩
  exact ⟨rfl, m, rfl⟩
set_option maxRecDepth 100000 in
set_option maxHeartbeats 16000000 in
theorem home_any (w : World) (A : Nat → Prop) (G : Dv) (n : Nat) (s : DS) (lg at_ words : Nat) (hD : DevA w A G n s) (hd : s.dead = false) (hl : Lg w lg G at_ words) (hlo : ¬ G.own lg) (hw : 16 ≤ words ∧ at_ + words ≤ n) (hv : ∀ j, j < n → 0 ≤ s.now j ∧ s.now j < 18446744073709551616) (hs : s.steps < 700000000) :
    Calls Try.prog 43 #[.pointer (some ⟨lg, 0, none⟩)] w fun e w' => RP A G n (runS (homeL s.now n at_ words) s) (.tuple #[]) w e w' ∧ Mv G.own w w' := by
  have hn6 : n ≤ 65536 := hD.1.2.2.2.2.2.1.2.1
  obtain ⟨hw1, hw2⟩ := hw
  have c0 := fun q => (hl.drewN q).c0
  have c1 := fun q => (hl.drewN q).c1
  have Hat := hv at_ (by omega)
  have Hld := Lib.hid (load_q w A G n s hD hd at_ (by omega) _ rfl)
  have HD := Lib.hid hD
  have Hl := Lib.hid hl
  have Hlo := Lib.hid hlo
  have Hd := Lib.hid hd
  have Hs := Lib.hid hs
  have Hv := Lib.hid hv
  have Hmost := Lib.hid (fun q => most_any (w := w.drewN q) (b := lg) (G := G) (hl.drewN q) ⟨hw1, by omega⟩)
  obtain ⟨mo, hmo⟩ : ∃ mo, mo = (words - 16) / 2 := ⟨_, rfl⟩
  rw [← hmo] at Hmost
  have hmob : mo ≤ 65536 := by omega
  have Hmo := Lib.hid hmo
  have hwm : IntKind.u64.wrap (mo : Int) = (mo : Int) := IntWalk.u64_in _ (by omega)
  clear hD hl hlo hd hs hv hmo
  obtain ⟨a0, ha0⟩ : ∃ a0, s.now at_ = a0 := ⟨_, rfl⟩
  rw [ha0] at Hat Hld
  have Ha0 := Lib.hid ha0
  clear ha0
  by_cases h0 : a0 = 0 ∨ (mo : Int) < a0
  · have Hh : Hid (homeL s.now n at_ words = []) := by
      unfold homeL
      rw [Ha0.out, if_pos (by rw [← Hmo.out]; exact h0)]
      exact Lib.hid rfl
    have hfin : runS (homeL s.now n at_ words) s = (s, true) := by rw [Hh.out]; rfl
    have Hfin := Lib.hid hfin
    clear hfin
    by_cases hz : a0 = 0
    · have b1 : (a0 == 0) = true := by simp [hz]
      clear h0 hz
      go_enter Try.func43, Try.ntmps43
      go_wp2_with fail
      go_quiet (first | (go_at_call 14; exact Hld.out _))
      go_wp2_with fail
      refine bodyPost_ret (results_none rfl _ _ _) rfl ?_
      exact ⟨⟨.inl ⟨by rw [Hfin.out], rfl⟩, by rw [Hfin.out]; exact HD.out.drewN nq⟩, (Mv.refl _ _).drewN nq⟩
    · have b1 : (a0 == 0) = false := by simp [hz]
      have b2 : decide (a0 > (mo : Int)) = true := by simp; omega
      have b3 : decide ((mo : Int) < a0) = true := by simp; omega
      clear h0 hz
      go_enter Try.func43, Try.ntmps43
      go_wp2_with fail
      go_quiet (first | (go_at_call 14; exact Hld.out _))
      go_wp2_with (first
        | (go_at_call 22; refine (Hmost.out _).mono ?_; rintro e w2 ⟨rfl, rfl⟩)
        | fail)
      refine bodyPost_ret (results_none rfl _ _ _) rfl ?_
      exact ⟨⟨.inl ⟨by rw [Hfin.out], rfl⟩, by rw [Hfin.out]; exact HD.out.drewN nq⟩, (Mv.refl _ _).drewN nq⟩
  · obtain ⟨m, hm⟩ : ∃ m : Nat, a0 = (m : Int) := ⟨a0.toNat, by omega⟩
    subst hm
    have hm0 : 0 < m := by omega
    have hmm : m ≤ mo := by omega
    have b1 : ((m : Int) == 0) = false := by simp; omega
    have b2 : decide ((m : Int) > (mo : Int)) = false := by simp; omega
    have b3 : decide ((mo : Int) < (m : Int)) = false := by simp; omega
    have hwi : IntKind.i64.wrap (m : Int) = (m : Int) := IntWalk.i64_in _ (by omega)
    have Hh : Hid (homeL s.now n at_ words = hst s.now n at_ words (List.range m) ++ homeT s.now n at_ words m) := by
      unfold homeL
      rw [Ha0.out, if_neg (by rw [← Hmo.out]; exact h0), Int.toNat_natCast]
      exact Lib.hid rfl
    clear h0
    go_enter Try.func43, Try.ntmps43
    go_wp2_with fail
    go_quiet (first | (go_at_call 14; exact Hld.out _))
    go_wp2_with (first
      | (go_at_call 22; refine (Hmost.out _).mono ?_; rintro e w2 ⟨rfl, rfl⟩)
      | fail)
    rw [show decide (mo < m) = false by simp; omega]
    have HR0 : Hid (HR w (w.drewN nq) A G n at_ words m 0 s s none 0 0 A) := Lib.hid ⟨⟨by simp [Ints, hws], .inl ⟨rfl, rfl⟩⟩, HD.out.drewN nq, fun b e => e, (fun x e => by cases e), Hd.out, by rw [Hh.out]; simp, fun j _ _ => rfl, by simp, (Mv.refl _ _).drewN nq⟩
    clear c0 c1 Hat Hld b1 b2 b3 Hmost hwm
    have HGl := Lib.hid HD.out.own_lt2
    go_loopw [3, 26] (fun v3 v26 wr => ∃ (A3 : Option Addr) (k3 c3 i : Nat) (cur : DS) (Ax : Nat → Prop), v3 = .slice A3 k3 c3 ∧ v26 = .int .i64 (i : Int) ∧ i ≤ m ∧ k3 ≤ i ∧ Hid (HR w wr A G n at_ words m i s cur A3 k3 c3 Ax))
      (fun _ v26 _ => m - (intOf v26).toNat)
    case atStart => exact ⟨none, 0, 0, 0, s, A, rfl, rfl, Nat.zero_le _, Nat.le_refl _, HR0⟩
    case round =>
      clear HR0
      obtain ⟨A3, k3, c3, i, cur, Ax, rfl, rfl, hi, hk3, hR⟩ := hrel
      have Hlw := Lib.hid (Blk.mv Hl.out hR.out.mv Hlo.out)
      have c0 := fun q => (Lg.drewN Hlw.out q).c0
      have hmw := Hmo.out
      rcases Nat.lt_or_ge i m with hlt | hge
      · have hP : at_ + 8 + 2 * i + 1 < at_ + words := by omega
        have hin := Hv.out (at_ + 8 + 2 * i) (by omega)
        obtain ⟨z, hz⟩ : ∃ z, hwd s.now at_ i = z := ⟨_, rfl⟩
        have Hz := Lib.hid hz
        have hzv : cur.now (at_ + 8 + 2 * i) = z := by rw [hR.out.same _ (by omega) (by omega)]; exact hz
        have HPl := Lib.hid (place_q i Hlw.out (by omega) (by omega))
        have HL1 := Lib.hid (load_q wr Ax G n cur hR.out.dev hR.out.dead (at_ + 8 + 2 * i) (by omega) z hzv)
        have hz0 : 0 ≤ z ∧ z < 18446744073709551616 := by rw [← hz]; exact hin
        obtain ⟨v, hv⟩ : ∃ v, hvl s.now at_ i = v := ⟨_, rfl⟩
        have Hvv := Lib.hid hv
        have hvv : cur.now (at_ + 8 + 2 * i + 1) = v := by rw [hR.out.same _ (by omega) (by omega)]; exact hv
        have HL2 := Lib.hid (load_q wr Ax G n cur hR.out.dev hR.out.dead (at_ + 8 + 2 * i + 1) (by omega) v hvv)
        obtain ⟨p, hp⟩ : ∃ p, p = at_ + 8 + 2 * i := ⟨_, rfl⟩
        rw [← hp] at HPl HL1 HL2
        have Hp := Lib.hid hp
        have Hp1 := Lib.hid (show p + 1 < n by omega)
        have Hvw := Lib.hid (show cur.now (p + 1) = v by rw [hp]; exact hvv)
        have hwp : IntKind.i64.wrap ((p : Int) + 1) = ((p + 1 : Nat) : Int) := by rw [IntWalk.i64_in _ (by omega)]; omega
        have HWo := Lib.hid (fun q => words_any (wr.drewN q) Ax G n cur (hR.out.dev.drewN q).1)
        have HOw := Lib.hid (fun q => own_any (w := wr.drewN q) z (Hlw.out.drewN q) ⟨by omega, by omega⟩)
        have hwn : IntKind.u64.wrap (n : Int) = (n : Int) := IntWalk.u64_in _ (by omega)
        have hwi1 : IntKind.i64.wrap ((i : Int) + 1) = (i : Int) + 1 := IntWalk.i64_in _ (by omega)
        have hdrop := Lib.hid (show (List.range m).drop i = i :: (List.range m).drop (i + 1) by
          rw [List.drop_eq_getElem_cons (by simp; exact hlt)]
          simp)
        clear hz hin hzv hv hvv hp hP hmw
        by_cases hzn : z < (n : Int)
        · have b1 : decide (z < (n : Int)) = true := by simp [hzn]
          have hwz : IntKind.i64.wrap z = z := IntWalk.i64_in _ (by omega)
          by_cases hob : ownB at_ words z = true
          · rw [hob] at HOw
            have Hok := Lib.hid (show okW n at_ words z = false by unfold okW; rw [hob]; simp)
            clear hob hzn
            go_wp2_with fail
            go_quiet (first | (go_at_call 40; exact HPl.out _) | (go_at_call 14; exact HL1.out _))
            have c0q := c0 nq
            go_wp2_with (first
              | (go_at_call 37; refine (HWo.out _).mono ?_; rintro e w6 ⟨rfl, rfl⟩)
              | (go_at_call 38; refine (HOw.out _).mono ?_; rintro e w6 ⟨rfl, q6, rfl⟩)
              | fail)
            refine ⟨⟨A3, k3, c3, i + 1, cur, Ax, rfl, by go_num, by omega, by omega, Lib.hid (hR.out.skip Hz.out Hok.out hdrop.out (nq + q6))⟩, ?_⟩
            show m - ((i : Int) + 1).toNat < m - ((i : Int)).toNat
            omega
          · have hob2 : ownB at_ words z = false := by simpa using hob
            rw [hob2] at HOw
            have Hok := Lib.hid (show okW n at_ words z = true by unfold okW; rw [hob2]; simp; exact hzn)
            clear hob
            obtain ⟨zn, hzz⟩ : ∃ zn : Nat, z = (zn : Int) := ⟨z.toNat, by omega⟩
            subst hzz
            have hznn : zn < n := by omega
            have Hst := Lib.hid (fun q => storeR (wr.drewN q) Ax G n cur zn v (hR.out.dev.drewN q) hR.out.dead (by have := hR.out.steps; have := Hs.out; omega) hznn)
            clear hzn
            by_cases hf : cur.fuse = 0
            · have Hf := Lib.hid hf
              clear hf
              go_wp2_with fail
              go_quiet (first | (go_at_call 40; exact HPl.out _) | (go_at_call 14; exact HL1.out _))
              have c0q := c0 nq
              go_wp2_with (first
                | (go_at_call 37; refine (HWo.out _).mono ?_; rintro e w6 ⟨rfl, rfl⟩)
                | (go_at_call 38; refine (HOw.out _).mono ?_; rintro e w6 ⟨rfl, q6, rfl⟩)
                | fail)
              have LW := Lib.hid (show Lg (wr.drewN (nq + q6)) lg G at_ words from Hlw.out)
              have DW := Lib.hid (hR.out.dev.drewN (nq + q6))
              have MW := Lib.hid ((Mv.refl G.own wr).drewN (nq + q6))
              clear c0q Hst HOw HWo HL1 HL2 HPl c0
              generalize wr.drewN (nq + q6) = W0 at LW DW MW ⊢
              have SP := Lib.hid (place_any (w := W0.drew) i (show Lg W0.drew lg G at_ words from LW.out) (by omega) (by omega))
              rw [← Hp.out] at SP
              have SL := Lib.hid (load_ok W0.drew Ax G n cur ((p + 1 : Nat) : Int) (DW.out.drewN 1).1 (by have := Hp1.out; omega) hR.out.dead)
              have SS := Lib.hid (storeR W0.drew Ax G n cur zn v (DW.out.drewN 1) hR.out.dead (by have := hR.out.steps; have := Hs.out; omega) hznn)
              have c0w := Lg.c0 LW.out
              go_still_tail 15, (by kernel_rfl)
              still_call SP.out
              repeat still_step
              still_call (show Calls Try.prog 14 #[.pointer (some ⟨G.d, 0, none⟩), .int .i64 ((p + 1 : Nat) : Int)] W0.drew (fun e w'' => e = .returned (.int .u64 v) ∧ w'' = W0.drew) from SL.out.mono (by rintro e w' ⟨rfl, rfl⟩; rw [Int.toNat_natCast, Hvw.out]; exact ⟨rfl, rfl⟩))
              repeat still_step
              refine wpStill_nil ?_
              change wpList _ _ _ _ _ W0.drew
              go_wp2_with (first
                | (go_at_call 10; refine SS.out.mono ?_; rintro e w4 ⟨h3, h5⟩; obtain ⟨rfl, h4⟩ := one_burn Hf.out h3; have H4 := Lib.hid h4; have H5 := Lib.hid h5; clear h3 h4 h5)
                | fail)
              simp only [bodyPost]
              have hfin := hR.out.burn Hz.out Hvv.out rfl Hok.out hdrop.out Hf.out
              refine ⟨trivial, ⟨?_, ?_⟩, ?_⟩
              · rw [hfin]
                exact .inr ⟨rfl, rfl⟩
              · rw [hfin]
                exact H4.out.less hR.out.sub HD.out.ownA
              · exact (hR.out.mv.trans MW.out).trans (((Mv.refl _ W0).drew).trans H5.out)
            · have Hf := Lib.hid hf
              clear hf
              go_wp2_with fail
              go_quiet (first | (go_at_call 40; exact HPl.out _) | (go_at_call 14; exact HL1.out _))
              have c0q := c0 nq
              go_wp2_with (first
                | (go_at_call 37; refine (HWo.out _).mono ?_; rintro e w6 ⟨rfl, rfl⟩)
                | (go_at_call 38; refine (HOw.out _).mono ?_; rintro e w6 ⟨rfl, q6, rfl⟩)
                | fail)
              go_region_held3 (fun w' => w'.cell? ⟨lg, 0, none⟩ = some (.pointer (some ⟨G.d, 0, none⟩))) (first | assumption | exact c0 _ | (simp [*]; done)) (first
                | (go_at_call 40; refine (HPl.out _).mono ?_; rintro e w6 ⟨rfl, m6, rfl⟩)
                | (go_at_call 14; refine (HL2.out _).mono ?_; rintro e w6 ⟨rfl, m7, rfl⟩)
                | (go_at_call 10; refine (Hst.out _).mono ?_; rintro e w7 ⟨h3, h5⟩; obtain ⟨rfl, h4⟩ := one_go Hf.out h3; have d0 : w7.cell? ⟨lg, 0, none⟩ = some (.pointer (some ⟨G.d, 0, none⟩)) := Lg.c0 (Blk.mv Hlw.out (((Mv.refl _ wr).drewN _).trans h5) Hlo.out)))
              rename_i hHeld
              clear hHeld
              have H4 := Lib.hid h4
              have H5 := Lib.hid h5
              have hown7 := Lib.hid (own_mvx (own_mvx (S := fun _ => False) hR.out.row ((Mv.refl _ wr).drewN _) (fun _ _ e => e)) h5 (fun x hx => (hR.out.own HGl.out x hx).2))
              have hw7 := Lib.hid (show w.heap.size ≤ w7.heap.size from Nat.le_trans hR.out.mv.size h5.size)
              clear h3 h4 h5 c0q Hst HOw HWo HL1 HL2 HPl c0
              obtain ⟨i0, hi0, hz0', hz1, hz2⟩ := info_parts infoI
              go_wp2_with (first
                | (at_builtin; refine wpList_pushZ w7 rfl (.tmp 68) (.tmp 71) 22 rfl w.heap.size 3 i0 .i64 8 Try.underlying22 hi0 hz0' hz1 hz2 A3 k3 c3 _ rfl hown7.out (zn : Int) 1 rfl (by unfold maxLen; omega) (by omega) hw7.out ?_; intro g cp w8 hown8 hg8 hs8 hat8; have Hfin := Lib.hid (hR.out.step HGl.out Hz.out Hvv.out rfl Hok.out hdrop.out Hf.out H4.out H5.out hown8 hg8 hat8); clear hown8 hg8 hs8 hat8)
                | fail)
              refine ⟨⟨some ⟨g, 0, none⟩, k3 + 1, cp, i + 1, _, _, by go_num, by go_num, by omega, by omega, Hfin⟩, ?_⟩
              show m - ((i : Int) + 1).toNat < m - ((i : Int)).toNat
              omega
        · have b1 : decide (z < (n : Int)) = false := by simp; omega
          have Hok := Lib.hid (show okW n at_ words z = false by unfold okW; simp; omega)
          clear hzn
          go_wp2_with fail
          go_quiet (first | (go_at_call 40; exact HPl.out _) | (go_at_call 14; exact HL1.out _))
          have c0q := c0 nq
          go_wp2_with (first
            | (go_at_call 37; refine (HWo.out _).mono ?_; rintro e w6 ⟨rfl, rfl⟩)
            | fail)
          refine ⟨⟨A3, k3, c3, i + 1, cur, Ax, rfl, by go_num, by omega, by omega, Lib.hid (hR.out.skip Hz.out Hok.out hdrop.out nq)⟩, ?_⟩
          show m - ((i : Int) + 1).toNat < m - ((i : Int)).toNat
          omega
      · have hdr0 : (List.range m).drop i = [] := List.drop_of_length_le (by simp; exact hge)
        have hrun : runS (homeL s.now n at_ words) s = runS (homeT s.now n at_ words m) cur := by rw [hR.out.run, hdr0]; rfl
        have him : i = m := by omega
        have hrow := hR.out.row
        rw [him] at hrow
        have hkl : (hws s.now n at_ words (List.range m)).length = k3 := by have := hrow.1; simpa [Ints] using this
        have hzz : ∀ z ∈ hws s.now n at_ words (List.range m), z < n := by
          intro z hz
          unfold hws at hz
          obtain ⟨j, hj, rfl⟩ := List.mem_map.1 hz
          have := (List.mem_filter.1 hj).2
          have h2 : hwd s.now at_ j < n := by
            unfold okW at this
            simp at this
            exact this.1
          omega
        have hsl := Lib.hid (settle_any wr Ax G n cur lg at_ words w.heap.size A3 k3 c3 _ hR.out.dev hR.out.dead Hlw.out Hlo.out hkl hrow (hR.out.own HGl.out) (by omega) hzz (by have := hR.out.steps; have := Hs.out; omega))
        have Hrun := Lib.hid hrun
        have Hkl := Lib.hid hkl
        have Hlr := Lib.hid (own_blk_ne hR.out.row Hlw.out (by decide))
        clear hdr0 hrun him hrow hkl hzz hmw
        generalize hLL : setL (-1) (sorted (hws s.now n at_ words (List.range m))) = LL at hsl
        have HLL := Lib.hid hLL
        clear hLL
        have Hlen : Hid (LL.length ≤ m + 1) := by
          rw [← HLL.out]
          refine Lib.hid (Nat.le_trans (setL_len _ _) ?_)
          rw [sorted_len]
          have := hws_len s.now n at_ words m
          omega
        have Hrun2 : Hid (runS (homeL s.now n at_ words) s = runS (LL ++ sealL at_ 0) cur) := by
          rw [Hrun.out, ← HLL.out]
          exact Lib.hid rfl
        clear Hrun HLL
        go_wp2_with fail
        refine hsl.out.mono ?_
        rintro e w4 ⟨⟨h3, h4⟩, h5⟩
        have Hm4 := Lib.hid (hR.out.mv.trans' h5 (fun b hb e => by
          rcases e with e | e
          · exact e
          · exact absurd hb (Nat.not_lt.2 (own_lt hR.out.row e).1)))
        have H4 := Lib.hid h4
        have Hl4 := Lib.hid (Blk.mv Hlw.out h5 (fun e => by
          rcases e with e | e
          · exact Hlo.out e
          · exact Hlr.out e))
        clear h4 h5
        rcases h3 with ⟨hr, rfl⟩ | ⟨hr, hp⟩
        · have hst := runS_steps LL cur
          have Hstp := Lib.hid (show (runS LL cur).1.steps < 800000000 by have := hR.out.steps; have := Hs.out; have := Hlen.out; omega)
          have Hdd := Lib.hid ((runS_dead LL cur hr).trans hR.out.dead)
          have Hr2 : Hid (runS (homeL s.now n at_ words) s = runS (sealL at_ 0) (runS LL cur).1) := by
            rw [Hrun2.out, runS_append, if_pos hr]
            exact Lib.hid rfl
          clear hr hst
          generalize (runS LL cur).1 = c2 at H4 Hstp Hdd Hr2
          have hse := Lib.hid (seal_any w4 Ax G n c2 lg at_ words 0 H4.out Hdd.out Hl4.out Hlo.out (by omega) (by omega) Hstp.out)
          go_wp2_with fail
          refine hse.out.mono ?_
          rintro e w5 ⟨⟨h3, h4⟩, h5⟩
          have H5 := Lib.hid (h4.less hR.out.sub HD.out.ownA)
          have M5 := Lib.hid (Hm4.out.trans h5)
          clear h4 h5
          rcases h3 with ⟨hr, rfl⟩ | ⟨hr, hp⟩
          · have Hr := Lib.hid hr
            clear hr
            go_wp2_with fail
            go_end0
            exact ⟨⟨.inl ⟨by rw [Hr2.out]; exact Hr.out, rfl⟩, by rw [Hr2.out]; exact H5.out⟩, M5.out⟩
          · unfold Panics at hp
            subst hp
            have Hr := Lib.hid hr
            clear hr
            go_wp2_with fail
            simp only [bodyPost]
            exact ⟨trivial, ⟨.inr ⟨by rw [Hr2.out]; exact Hr.out, rfl⟩, by rw [Hr2.out]; exact H5.out⟩, M5.out⟩
        · unfold Panics at hp
          subst hp
          have Hr2 : Hid (runS (homeL s.now n at_ words) s = runS LL cur) := by
            rw [Hrun2.out, runS_append, if_neg (by rw [hr]; decide)]
            exact Lib.hid rfl
          have Hr := Lib.hid hr
          have H5 := Lib.hid (H4.out.less hR.out.sub HD.out.ownA)
          clear hr
          go_wp2_with fail
          simp only [bodyPost]
          exact ⟨trivial, ⟨.inr ⟨by rw [Hr2.out]; exact Hr.out, rfl⟩, by rw [Hr2.out]; exact H5.out⟩, Hm4.out⟩
end Go.Proofs.Ytdphillobnlpaaa
