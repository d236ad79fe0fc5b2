/- mark: Split. -/
import Derived.Test.YtogdmmjonojdfaaMarkL
import Derived.Deep.RegionHeld3
namespace Go.Proofs.Ytogdmmjonojdfaa
open Go.RowKit
set_option linter.unusedVariables false
/-- What is in one of two lists alone. -/
def splitL : List Int → List Int → List Int × List Int
  | [], ys => ([], ys)
  | x :: xs, [] => (x :: xs, [])
  | x :: xs, y :: ys => if x = y then splitL xs ys else if x < y then (x :: (splitL xs (y :: ys)).1, (splitL xs (y :: ys)).2) else ((splitL (x :: xs) ys).1, y :: (splitL (x :: xs) ys).2)
termination_by xs ys => xs.length + ys.length
theorem splitL_nil (ys : List Int) : splitL [] ys = ([], ys) := by rw [splitL]
theorem splitL_nil2 (xs : List Int) : splitL xs [] = (xs, []) := by cases xs <;> rw [splitL]
theorem splitL_eq (x : Int) (xs ys : List Int) : splitL (x :: xs) (x :: ys) = splitL xs ys := by rw [splitL, if_pos rfl]
theorem splitL_lt {x y : Int} (xs ys : List Int) (h : x < y) : splitL (x :: xs) (y :: ys) = (x :: (splitL xs (y :: ys)).1, (splitL xs (y :: ys)).2) := by rw [splitL, if_neg (by omega), if_pos h]
theorem splitL_gt {x y : Int} (xs ys : List Int) (h : y < x) : splitL (x :: xs) (y :: ys) = ((splitL (x :: xs) ys).1, y :: (splitL (x :: xs) ys).2) := by rw [splitL, if_neg (by omega), if_neg (by omega)]

theorem Zs_one (l : List Int) : ∀ u ∈ Zs l, u.oneCell' = true := by
  intro u hu
  obtain ⟨z, _, rfl⟩ := List.mem_map.1 hu
  rfl
theorem own_shape {w : World} {B : Nat} {e : TypeId} {v : Value} {n : Nat} {xs : List Value} (h : w.ownsRow B e 1 v n xs) : ∃ A c, v = .slice A n c := by
  rcases h.2 with ⟨rfl, rfl⟩ | ⟨g, cap, cur, rfl, _⟩
  · exact ⟨none, 0, rfl⟩
  · exact ⟨_, cap, rfl⟩
/-- Two rows of the call's own, apart. -/
structure Sp (w0 w : World) (v : Value) (n : Nat) (x : List Int) (v' : Value) (n' : Nat) (x' : List Int) : Prop where
  o1 : w.ownsRow w0.heap.size 3 1 v n (Zs x)
  o2 : w.ownsRow w0.heap.size 3 1 v' n' (Zs x')
  ne : ∀ b, v.ownBlock = some b → v'.ownBlock ≠ some b
  bel : Below w0.heap.size w0 w
section
variable {w0 w w' : World} {v v' u : Value} {n n' m : Nat} {x x' news : List Int}
theorem Sp.big (h : Sp w0 w v n x v' n' x') : w0.heap.size ≤ w.heap.size := h.bel.size
theorem Sp.alloc (h : Sp w0 w v n x v' n' x') (o : Obj) : Sp w0 (w.alloc o) v n x v' n' x' := ⟨h.o1.alloc _, h.o2.alloc _, h.ne, h.bel.alloc h.big _⟩
theorem Sp.drew (h : Sp w0 w v n x v' n' x') : Sp w0 w.drew v n x v' n' x' := ⟨h.o1, h.o2, h.ne, below_drewN h.bel 1⟩
theorem Sp.drewN (h : Sp w0 w v n x v' n' x') (k : Nat) : Sp w0 (w.drewN k) v n x v' n' x' := ⟨h.o1, h.o2, h.ne, below_drewN h.bel k⟩
theorem Sp.flip (h : Sp w0 w v n x v' n' x') : Sp w0 w v' n' x' v n x := ⟨h.o2, h.o1, fun b e e' => h.ne b e' e, h.bel⟩
theorem Sp.push (h : Sp w0 w v n x v' n' x') (hown : w'.ownsRow w0.heap.size 3 1 u (n + m) (Zs x ++ Zs news)) (hg : w.grownBy w' v.ownBlock) (hat : u.ownBlock = v.ownBlock ∨ u.ownBlock = some w.heap.size) : Sp w0 w' u (n + m) (x ++ news) v' n' x' := by
  refine ⟨by simpa [Zs] using hown, own_mv h.o2 ((Mv.refl (fun b => v.ownBlock = some b) w).grown hg (fun g e _ => e)) (fun b hb => ⟨(h.o2.lt b hb).2, fun e => h.ne b e hb⟩), fun b e e' => ?_, h.bel.grown hg h.big (fun q hq => (h.o1.lt q hq).1)⟩
  rcases hat with h1 | h1
  · exact h.ne b (h1 ▸ e) e'
  · rw [h1] at e
    cases e
    have := (h.o2.lt _ e').2
    omega
theorem wp_push {o : Oper} {a : Act} {K : Act → World → Prop} {Q : Exit → Act → World → Prop} (s y : Operand)
    (ho : o.op = .call { callee := .builtin .append, args := #[s, y], argTypes := #[22, 22] })
    (hs : a.eval s = v) (h : Sp w0 w v n x v' n' x') (hn : n ≤ 1000000)
    (B : Nat) (A : Option Addr) (c : Nat) (hx : a.eval y = .slice A m c) (hr : Reads w B 1 A m (Zs news)) (hm : m ≤ 1000000)
    (k : ∀ A' c' w', Sp w0 w' (.slice A' (n + m) c') (n + m) (x ++ news) v' n' x' → K (a.put o.dst (.slice A' (n + m) c')) w') :
    Oper.wp Try.prog o a w K Q := by
  obtain ⟨i0, hi, hz0, hz1, hz2⟩ := info_parts infoI
  refine wp_append_any (P := Try.prog) w s y 22 ho w0.heap.size 3 i0 (.int .i64 0) 1 8 Try.underlying22 hi hz0 hz1 hz2 rfl (by decide) v n (Zs x) hs h.o1 B A m c (Zs news) hx hr (Zs_one _) (by unfold maxLen; omega) (by omega) h.big ?_
  intro u w' hown hg hat
  obtain ⟨A', c', rfl⟩ := own_shape hown
  exact k A' c' w' (h.push hown hg hat)
end
def lenOf : Value → Nat
  | .slice _ n _ => n
  | _ => 0
theorem slice_l (A : Option Addr) (n c : Nat) (W : World) (h1 : 1 ≤ n) : (Instr.slice 22 (.slice A n c) (some (.int .i64 1)) none none).run Try.prog W = .ok (.slice (if c = 1 then A else A.map (·.add 1)) (n - 1) (c - 1)) W := by
  have e := run_slice_l (P := Try.prog) W 22 A n c Try.underlying22 .i64 1 (by omega) (by omega)
  rw [e, sizeI]
  simp [sliced, Result.andThen]
theorem wpList_pushL {w0 w : World} {v v' : Value} {n n' m : Nat} {x x' news : List Int} {ops : Array Oper} {rest : List Oper} {o : Oper} {a : Act} {Q : Exit → Act → World → Prop} (hgd : o.guard = none) (s y : Operand)
    (ho : o.op = .call { callee := .builtin .append, args := #[s, y], argTypes := #[22, 22] })
    (hs : a.eval s = v) (h : Sp w0 w v n x v' n' x') (hn : n ≤ 1000000)
    (B : Nat) (A : Option Addr) (c : Nat) (hx : a.eval y = .slice A m c) (hr : Reads w B 1 A m (Zs news)) (hm : m ≤ 1000000)
    (k : ∀ A' c' w', Sp w0 w' (.slice A' (n + m) c') (n + m) (x ++ news) v' n' x' → wpList Try.prog ops Q rest (a.put o.dst (.slice A' (n + m) c')) w') :
    wpList Try.prog ops Q (o :: rest) a w :=
  wpList_plain hgd fun _ hK => wp_push s y ho hs h hn B A c hx hr hm fun A' c' w' h' => hK _ _ (k A' c' w' h')
theorem one_reads (w : World) (x : Int) (t : TypeId) {g : Nat} (hg : g = w.heap.size) : Reads (w.alloc (.cells #[.int .i64 x] t)) (w.heap.size + 1) 1 (some ⟨g, 0, none⟩) 1 (Zs [x]) := by
  subst hg
  refine ⟨rfl, fun _ => ⟨_, rfl, by simp, fun j u hj => ?_⟩⟩
  rcases Nat.eq_zero_or_pos j with e | e
  · subst e
    cases hj
    exact ((Blk.new w t #[.int .i64 x]).cell 0).trans rfl
  · rw [List.getElem?_eq_none (by simp [Zs]; omega)] at hj
    cases hj
theorem Sp.fin {w w9 : World} {A9 A6 : Option Addr} {N5 c9 N4 c6 : Nat} {X5 X4 : List Int} {S : List Int × List Int} (h : Sp w w9 (.slice A9 N5 c9) N5 X5 (.slice A6 N4 c6) N4 X4) (e : S = (X4, X5)) :
    S.1.length = N4 ∧ S.2.length = N5 ∧ Reads w9 w9.heap.size 1 A6 S.1.length (Zs S.1) ∧ Reads w9 w9.heap.size 1 A9 S.2.length (Zs S.2) := by
  subst e
  have l1 : X5.length = N5 := by have := h.o1.1; simpa [Zs] using this
  have l2 : X4.length = N4 := by have := h.o2.1; simpa [Zs] using this
  exact ⟨l2, l1, by rw [l2]; exact Reads.of_own h.o2, by rw [l1]; exact Reads.of_own h.o1⟩
/-- What is left of a list that came in. -/
structure Lf (w : World) (B : Nat) (A : Option Addr) (n c : Nat) (zs : List Int) : Prop where
  len : zs.length = n
  rd : Reads w B 1 A n (Zs zs)
  cap : n ≤ c
theorem Lf.next {w : World} {B : Nat} {A : Option Addr} {n c : Nat} {z : Int} {zs : List Int} (h : Lf w B A n c (z :: zs)) : Lf w B (if c = 1 then A else A.map (·.add 1)) (n - 1) (c - 1) zs := by
  have h1 := h.len
  simp at h1
  have := h.rd.cut (k := 1) (cap := c) (by omega) h.cap
  refine ⟨by omega, ?_, by have := h.cap; omega⟩
  simpa [Zs] using this
set_option maxHeartbeats 4000000 in
theorem split_any (w : World) (A C : Option Addr) (n c m d : Nat) (xs ys : List Int) (hx : Lf w w.heap.size A n c xs) (hy : Lf w w.heap.size C m d ys) (hn : n ≤ 100000) (hm : m ≤ 100000) :
    Calls Try.prog 11 #[.slice A n c, .slice C m d] w (fun e w' => ∃ A1 A2, e = .returned (.tuple #[.slice A1 (splitL xs ys).1.length (splitL xs ys).1.length, .slice A2 (splitL xs ys).2.length (splitL xs ys).2.length]) ∧ Reads w' w'.heap.size 1 A1 (splitL xs ys).1.length (Zs (splitL xs ys).1) ∧ Reads w' w'.heap.size 1 A2 (splitL xs ys).2.length (Zs (splitL xs ys).2) ∧ Below w.heap.size w w') := by
  have Hx := Lib.hid hx
  have Hy := Lib.hid hy
  have Hxs := Lib.hid hx.len
  have Hys := Lib.hid hy.len
  clear hx hy
  go_enter Try.func11, Try.ntmps11
  go_wp2_with fail
  go_loopw [0, 1, 4, 5] (fun v0 v1 v4 v5 wr => ∃ (A1 C1 A4 A5 : Option Addr) (n1 c1 m1 d1 n4 c4 n5 c5 : Nat) (x1 y1 x4 x5 : List Int), v0 = .slice A1 n1 c1 ∧ v1 = .slice C1 m1 d1 ∧ v4 = .slice A4 n4 c4 ∧ v5 = .slice A5 n5 c5 ∧ n1 ≤ n ∧ m1 ≤ m ∧ n4 + n1 ≤ n ∧ n5 + m1 ≤ m ∧ Hid (Lf w w.heap.size A1 n1 c1 x1) ∧ Hid (Lf w w.heap.size C1 m1 d1 y1) ∧ Hid (Sp w wr (.slice A4 n4 c4) n4 x4 (.slice A5 n5 c5) n5 x5) ∧ Hid (splitL xs ys = (x4 ++ (splitL x1 y1).1, x5 ++ (splitL x1 y1).2)))
    (fun v0 v1 _ _ _ => (lenOf v0) + (lenOf v1))
  case atStart => exact ⟨A, C, none, none, n, c, m, d, 0, 0, 0, 0, xs, ys, [], [], rfl, rfl, rfl, rfl, Nat.le_refl _, Nat.le_refl _, by omega, by omega, Hx, Hy, Lib.hid ⟨⟨by simp [Zs], .inl ⟨rfl, rfl⟩⟩, ⟨by simp [Zs], .inl ⟨rfl, rfl⟩⟩, (fun b e => by cases e), Below.refl _ _⟩, Lib.hid (by simp)⟩
  case round =>
    obtain ⟨A1, C1, A4, A5, n1, c1, m1, d1, n4, c4, n5, c5, x1, y1, x4, x5, rfl, rfl, rfl, rfl, h1, h2, h3, h4, hl, hr, hsp, hsl⟩ := hrel
    have hl1 := hl.out.len
    have hr1 := hr.out.len
    cases x1 with
    | nil =>
      simp at hl1
      subst hl1
      rw [splitL_nil] at hsl
      have hra := Lib.hid (hl.out.rd.below hsp.out.bel)
      have hla := Lib.hid hl.out.len
      have hlb := Lib.hid hr.out.len
      have Hlr := Lib.hid hr.out.rd
      go_wp2_with (first
        | (at_builtin; (fail_if_success (have := w7)); refine wpList_pushL (w0 := w) (v' := .slice A5 n5 c5) (n' := n5) (x' := x5) (v := .slice A4 n4 c4) (x := x4) rfl (.tmp 46) (.tmp 47) rfl rfl hsp.out (by omega) w.heap.size A1 c1 rfl (news := []) hra.out (by omega) ?_; intro A6 c6 w7 hsp6; have Hsp6 := Lib.hid hsp6; have hcr := cons_row hsp6.o1; have hrb := Lib.hid (Hlr.out.below hsp6.bel); clear hsp6)
        | (go_at_call 25; (fail_if_success (have := w9)); refine (clip_any _ _ _ _ hcr.1 hcr.2).mono ?_; rintro e w8 ⟨rfl, rfl⟩)
        | (at_builtin; refine wpList_pushL (w0 := w) (v := .slice A5 n5 c5) (x := x5) rfl (.tmp 50) (.tmp 51) rfl rfl Hsp6.out.flip (by omega) w.heap.size C1 d1 rfl (news := y1) hrb.out (by omega) ?_; intro A9 c9 w9 hsp9; have Hsp9 := Lib.hid hsp9; have hcr2 := cons_row hsp9.o1; clear hsp9)
        | (go_at_call 25; refine (clip_any _ _ _ _ hcr2.1 hcr2.2).mono ?_; rintro e w8 ⟨rfl, rfl⟩)
        | fail)
      go_ret2
      obtain ⟨f1, f2, f3, f4⟩ := Hsp9.out.fin hsl.out
      exact ⟨A6, A9, by rw [f1, f2]; simp, f3, f4, Hsp9.out.bel⟩
    | cons x xr =>
      cases y1 with
      | nil =>
        simp at hr1
        subst hr1
        rw [splitL_nil2] at hsl
        simp at hl1
        have hn1 : 0 < n1 := by omega
        have Hl1 := Lib.hid hl1
        clear hl1
        have hra := Lib.hid (hl.out.rd.below hsp.out.bel)
        have hla := Lib.hid hl.out.len
        have hlb := Lib.hid hr.out.len
        have Hlr := Lib.hid hr.out.rd
        go_wp2_with (first
          | (at_builtin; (fail_if_success (have := w7)); refine wpList_pushL (w0 := w) (v' := .slice A5 n5 c5) (n' := n5) (x' := x5) (v := .slice A4 n4 c4) (x := x4) rfl (.tmp 46) (.tmp 47) rfl rfl hsp.out (by omega) w.heap.size A1 c1 rfl (news := (x :: xr)) hra.out (by omega) ?_; intro A6 c6 w7 hsp6; have Hsp6 := Lib.hid hsp6; have hcr := cons_row hsp6.o1; have hrb := Lib.hid (Hlr.out.below hsp6.bel); clear hsp6)
          | (go_at_call 25; (fail_if_success (have := w9)); refine (clip_any _ _ _ _ hcr.1 hcr.2).mono ?_; rintro e w8 ⟨rfl, rfl⟩)
          | (at_builtin; refine wpList_pushL (w0 := w) (v := .slice A5 n5 c5) (x := x5) rfl (.tmp 50) (.tmp 51) rfl rfl Hsp6.out.flip (by omega) w.heap.size C1 d1 rfl (news := []) hrb.out (by omega) ?_; intro A9 c9 w9 hsp9; have Hsp9 := Lib.hid hsp9; have hcr2 := cons_row hsp9.o1; clear hsp9)
          | (go_at_call 25; refine (clip_any _ _ _ _ hcr2.1 hcr2.2).mono ?_; rintro e w8 ⟨rfl, rfl⟩)
          | fail)
        go_ret2
        obtain ⟨f1, f2, f3, f4⟩ := Hsp9.out.fin hsl.out
        exact ⟨A6, A9, by rw [f1, f2]; simp, f3, f4, Hsp9.out.bel⟩
      | cons y yr =>
        simp at hl1 hr1
        have hn1 : 0 < n1 := by omega
        have hm1 : 0 < m1 := by omega
        obtain ⟨ad, u, hA1, hadb, hu, hcl⟩ := hl.out.rd.at_ hn1
        subst hA1
        cases hu
        obtain ⟨ad2, u, hA2, hadb2, hu, hcl2⟩ := hr.out.rd.at_ hm1
        subst hA2
        cases hu
        have e0 : ∀ x : Addr, x.add 0 = x := fun x => by unfold Addr.add; cases x; split <;> simp_all
        rw [e0] at hcl hcl2
        have hd1 : ∀ p, (wr.drewN p).cell? ad = some (.int .i64 x) := fun p => by
          have := (hsp.out.bel.cell hadb).trans hcl
          exact this
        have hd2 : ∀ p, (wr.drewN p).cell? ad2 = some (.int .i64 y) := fun p => by
          have := (hsp.out.bel.cell hadb2).trans hcl2
          exact this
        have Hl1 := Lib.hid hl1
        have Hr1 := Lib.hid hr1
        have hs1 : ∀ W : World, (Instr.slice 22 (.slice (some ad) n1 c1) (some (.int .i64 1)) none none).run Try.prog W = .ok (.slice (if c1 = 1 then some ad else (some ad : Option Addr).map (·.add 1)) (n1 - 1) (c1 - 1)) W := fun W => slice_l (some ad) n1 c1 W (by omega)
        have hs2 : ∀ W : World, (Instr.slice 22 (.slice (some ad2) m1 d1) (some (.int .i64 1)) none none).run Try.prog W = .ok (.slice (if d1 = 1 then some ad2 else (some ad2 : Option Addr).map (·.add 1)) (m1 - 1) (d1 - 1)) W := fun W => slice_l (some ad2) m1 d1 W (by omega)
        have hl2 := hl.out.next
        have hr2 := hr.out.next
        generalize (if c1 = 1 then some ad else (some ad : Option Addr).map (·.add 1)) = A1' at hs1 hl2
        generalize (if d1 = 1 then some ad2 else (some ad2 : Option Addr).map (·.add 1)) = C1' at hs2 hr2
        have Hl2 := Lib.hid hl2
        have Hr2 := Lib.hid hr2
        clear hl1 hr1 hcl hcl2 hl2 hr2 e0
        by_cases e : x = y
        · have hb1 : (x == y) = true := by simp [e]
          have Hte := Lib.hid e
          clear e
          go_wp2_with fail
          go_quiet (fail)
          have hsp2 := Lib.hid (hsp.out.drewN nq)
          clear hd1 hd2 hsp
          generalize wr.drewN nq = w5 at *
          go_wp2_with fail
          go_quiet (fail)
          go_wp2_with fail
          have hsl2 := hsl.out
          rw [Hte.out, splitL_eq] at hsl2
          refine ⟨⟨A1', C1', A4, A5, n1 - 1, c1 - 1, m1 - 1, d1 - 1, n4, c4, n5, c5, xr, yr, x4, x5, rfl, rfl, rfl, rfl, by omega, by omega, by omega, by omega, Hl2, Hr2, Lib.hid (hsp2.out.drewN _), Lib.hid hsl2⟩, ?_⟩
          show n1 - 1 + (m1 - 1) < n1 + m1
          omega
        · have hb1 : (x == y) = false := by simp [e]
          have Hte := Lib.hid e
          clear e
          by_cases hlt : x < y
          · have hb2 : decide (x < y) = true := by simp [hlt]
            have Hlt := Lib.hid hlt
            clear hlt
            go_wp2_with fail
            go_quiet (fail)
            have hsp2 := Lib.hid (hsp.out.drewN nq)
            clear hd1 hd2 hsp
            generalize wr.drewN nq = w5 at *
            go_wp2_with fail
            go_region_held3 (fun _ => True) (first | trivial | assumption) (first
              | (rw [if_pos (by rfl)]; refine wp_push (w0 := w) (v' := .slice A5 n5 c5) (n' := n5) (x' := x5) (v := .slice A4 n4 c4) (x := x4) (.tmp 40) (.tmp 42) rfl rfl ((hsp2.out.drew).alloc _) (by omega) (w5.heap.size + 1) (some ⟨w5.heap.size, 0, none⟩) 1 rfl (news := [x]) (one_reads w5.drew x 3 rfl) (by omega) ?_; intro A6 c6 w6 hsp6))
            rename_i hHeld
            clear hHeld
            have Hsp6 := Lib.hid hsp6
            clear hsp6
            go_wp2_with fail
            have hsl2 := hsl.out
            rw [splitL_lt _ _ Hlt.out] at hsl2
            refine ⟨⟨A1', some ad2, A6, A5, n1 - 1, c1 - 1, m1, d1, n4 + 1, c6, n5, c5, xr, y :: yr, x4 ++ [x], x5, rfl, rfl, by go_num, rfl, by omega, by omega, by omega, by omega, Hl2, hr, Hsp6, Lib.hid (by rw [hsl2]; simp)⟩, ?_⟩
            show n1 - 1 + m1 < n1 + m1
            omega
          · have hb2 : decide (x < y) = false := by simp; omega
            have Hlt := Lib.hid hlt
            clear hlt
            go_wp2_with fail
            go_quiet (fail)
            have hsp2 := Lib.hid (hsp.out.drewN nq)
            clear hd1 hd2 hsp
            generalize wr.drewN nq = w5 at *
            go_wp2_with fail
            go_region_held3 (fun _ => True) (first | trivial | assumption) (first
              | (rw [if_pos (by rfl)]; refine wp_push (w0 := w) (v' := .slice A4 n4 c4) (n' := n4) (x' := x4) (v := .slice A5 n5 c5) (x := x5) (.tmp 22) (.tmp 24) rfl rfl ((hsp2.out.flip.drew).alloc _) (by omega) (w5.heap.size + 1) (some ⟨w5.heap.size, 0, none⟩) 1 rfl (news := [y]) (one_reads w5.drew y 3 rfl) (by omega) ?_; intro A6 c6 w6 hsp6))
            rename_i hHeld
            clear hHeld
            have Hsp6 := Lib.hid hsp6
            clear hsp6
            go_wp2_with fail
            have hsl2 := hsl.out
            rw [splitL_gt _ _ (by have := Hlt.out; have := Hte.out; omega)] at hsl2
            refine ⟨⟨some ad, C1', A4, A6, n1, c1, m1 - 1, d1 - 1, n4, c4, n5 + 1, c6, x :: xr, yr, x4, x5 ++ [y], rfl, rfl, rfl, by go_num, by omega, by omega, by omega, by omega, hl, Hr2, Lib.hid Hsp6.out.flip, Lib.hid (by rw [hsl2]; simp)⟩, ?_⟩
            show n1 + (m1 - 1) < n1 + m1
            omega
end Go.Proofs.Ytogdmmjonojdfaa
