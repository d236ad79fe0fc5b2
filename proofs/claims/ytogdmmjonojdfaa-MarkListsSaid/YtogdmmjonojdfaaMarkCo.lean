/- mark: Count. -/
import Derived.Test.YtogdmmjonojdfaaMarkZ
namespace Go.Proofs.Ytogdmmjonojdfaa
open Go.RowKit Go.Shelf
set_option linter.unusedVariables false
def cntU (xs : List Int) (m : Nat) : List Int := (Lib.compactUpTo xs.toArray m).map fun z => (((xs.take m).count z : Nat) : Int)
theorem take_mem {xs : List Int} {m : Nat} {z : Int} (hm : m ≤ xs.length) (h : z ∈ xs.take m) : ∃ j, j < m ∧ z = xs.toArray[j]! := by
  obtain ⟨j, hj, rfl⟩ := List.mem_iff_getElem.1 h
  simp at hj
  have h1 : j < m := by omega
  have h2 : j < xs.length := by omega
  exact ⟨j, h1, by simp [h2]⟩
section
variable {xs : List Int} {m : Nat} {v : Int}
theorem cnt_keep (hs : ∀ i j, i ≤ j → j < xs.toArray.size → xs.toArray[i]! ≤ xs.toArray[j]!) (hm : xs[m]? = some v) (hk : m = 0 ∨ ∀ u, xs[m - 1]? = some u → v ≠ u) : cntU xs (m + 1) = cntU xs m ++ [1] := by
  obtain ⟨hlt, hv⟩ := List.getElem?_eq_some_iff.1 hm
  have hd : xs.toArray[m]! = v := by simp [hlt, hv]
  have hkeep : Lib.keeps xs.toArray m = true := by
    unfold Lib.keeps
    rw [hd]
    rcases hk with h | h
    · simp [h]
    · by_cases h0 : m = 0
      · simp [h0]
      · have hl : m - 1 < xs.length := by omega
        have := h xs[m - 1] (List.getElem?_eq_getElem hl)
        simp [hl, this]
  obtain ⟨h1, h2, _⟩ := cmp_up xs.toArray hs m (by simp; omega)
  obtain ⟨k1, k2, _⟩ := cmp_up xs.toArray hs (m + 1) (by simp; omega)
  unfold cntU
  rw [Lib.compactUpTo_succ, if_pos hkeep, hd] at k1 ⊢
  have hlow : ∀ z ∈ Lib.compactUpTo xs.toArray m, z < v := fun z hz => (List.pairwise_append.1 k1).2.2 z hz v (by simp)
  have htk : xs.take (m + 1) = xs.take m ++ [v] := by rw [List.take_succ_eq_append_getElem hlt, hv]
  rw [List.map_append, htk]
  congr 1
  · apply List.map_congr_left
    intro z hz
    have := hlow z hz
    have hne : ¬ v = z := by omega
    rw [List.count_append, List.count_singleton]
    simp [hne]
  · have hno : v ∉ xs.take m := by
      intro h
      obtain ⟨j, hj, e⟩ := take_mem (by omega) h
      have := hlow v ((h2 v).2 ⟨j, hj, e⟩)
      omega
    simp [List.count_append, List.count_eq_zero_of_not_mem hno]
theorem cnt_run (hs : ∀ i j, i ≤ j → j < xs.toArray.size → xs.toArray[i]! ≤ xs.toArray[j]!) (hm : xs[m]? = some v) (h0 : 0 < m) (hu : xs[m - 1]? = some v) : ∃ (ini : List Int) (c : Int), cntU xs m = ini ++ [c] ∧ 0 ≤ c ∧ c ≤ m ∧ cntU xs (m + 1) = ini ++ [c + 1] := by
  obtain ⟨hlt, hv⟩ := List.getElem?_eq_some_iff.1 hm
  obtain ⟨hlt1, hv1⟩ := List.getElem?_eq_some_iff.1 hu
  have hd : xs.toArray[m]! = v := by simp [hlt, hv]
  have hd1 : xs.toArray[m - 1]! = v := by simp [hlt1, hv1]
  have hkeep : Lib.keeps xs.toArray m = false := Lib.keeps_neg h0 (by rw [hd, hd1])
  obtain ⟨h1, h2, h3⟩ := cmp_up xs.toArray hs m (by simp; omega)
  obtain ⟨ini, hini⟩ := h3 h0
  rw [hd1] at hini
  rw [hini] at h1
  have hlow : ∀ z ∈ ini, z < v := fun z hz => (List.pairwise_append.1 h1).2.2 z hz v (by simp)
  have htk : xs.take (m + 1) = xs.take m ++ [v] := by rw [List.take_succ_eq_append_getElem hlt, hv]
  refine ⟨ini.map fun z => (((xs.take m).count z : Nat) : Int), (((xs.take m).count v : Nat) : Int), ?_, by omega, ?_, ?_⟩
  · unfold cntU
    rw [hini]
    simp
  · have : (xs.take m).count v ≤ (xs.take m).length := List.count_le_length
    simp at this
    omega
  · unfold cntU
    rw [Lib.compactUpTo_succ, hkeep, hini, htk]
    simp only [Bool.false_eq_true, if_false, List.append_nil, List.map_append, List.map_cons, List.map_nil]
    congr 1
    · apply List.map_congr_left
      intro z hz
      have := hlow z hz
      have hne : ¬ v = z := by omega
      rw [List.count_append, List.count_singleton]
      simp [hne]
    · simp [List.count_append]
end
theorem Sp.setL {w0 w : World} {A : Option Addr} {n c n' : Nat} {v' : Value} {ini x' : List Int} {u y : Int} (h : Sp w0 w (.slice A (n + 1) c) (n + 1) (ini ++ [u]) v' n' x') : ∃ g, A = some ⟨g, 0, none⟩ ∧ w.cell? ⟨g, n, none⟩ = some (.int .i64 u) ∧ w.frozen? ⟨g, n, none⟩ = false ∧ Sp w0 (w.setCell ⟨g, n, none⟩ (.int .i64 y)) (.slice A (n + 1) c) (n + 1) (ini ++ [y]) v' n' x' := by
  have hl : ini.length = n := by have := h.o1.1; simpa [Zs] using this
  have e1 := Zs_range (ini ++ [u])
  rw [show (ini ++ [u]).length = n + 1 by simp [hl]] at e1
  have ho := h.o1
  rw [e1] at ho
  obtain ⟨g, hA, hgB, hrow⟩ := IRow.of_own ho (by omega)
  subst hA
  have hcell := hrow.cell (i := n) (by omega)
  have hu : (ini ++ [u]).getD n 0 = u := by simp [List.getD_eq_getElem?_getD, ← hl]
  rw [hu] at hcell
  refine ⟨g, rfl, hcell, hrow.frozen n, ?_⟩
  have hr2 := (hrow.set_ n y).own w0.heap.size hgB
  have e2 : ∀ j, j < n + 1 → upd (fun j => (ini ++ [u]).getD j 0) n y j = (ini ++ [y]).getD j 0 := by
    intro j hj
    unfold upd
    by_cases e : j = n
    · subst e
      simp [List.getD_eq_getElem?_getD, ← hl]
    · rw [if_neg e]
      simp [List.getD_eq_getElem?_getD, List.getElem?_append_left (show j < ini.length by omega)]
  rw [Zs_of_fun (by simp [hl]) e2] at hr2
  have hm : Mv (fun x => x = g) w (w.setCell ⟨g, n, none⟩ (.int .i64 y)) := (Mv.refl (fun x => x = g) w).setCell (p := ⟨g, n, none⟩) (fun _ => rfl) _
  exact ⟨hr2, own_mvx h.o2 hm (fun x hx e => h.ne g rfl (by rw [hx, e])), h.ne, h.bel.setCell (p := ⟨g, n, none⟩) hgB _⟩
set_option maxHeartbeats 8000000 in
theorem count_any (w : World) (A0 : Option Addr) (n c0 : Nat) (zs : List Int) (hn : zs.length = n) (hr : Reads w w.heap.size 1 A0 n (Zs zs)) (hl : n < 1000000) :
    Calls Try.prog 19 #[.slice A0 n c0] w fun e w' => ∃ (A : Option Addr) (k : Nat), e = .returned (.slice A k k) ∧ k = (cntU (sortI zs) n).length ∧ Reads w' w'.heap.size 1 A k (Zs (cntU (sortI zs) n)) ∧ Below w.heap.size w w' := by
  obtain ⟨hcs, hI⟩ := vals_in w A0 n c0 zs hn hr
  have Hs := Lib.hid (sorted_calls w.heap.size (.slice A0 n c0) zs (by omega) _ (by simp) hcs hI)
  have Hn := Lib.hid hn
  have hB1 := Lib.hid ((Below.refl w.heap.size w).alloc (Nat.le_refl _) (.cells #[.slice A0 n c0] 22))
  have Hsl := Lib.hid ((sortI_len zs).trans hn)
  have Hsa := Lib.hid (sort_arr zs)
  clear hcs hI hr hn
  generalize sortI zs = xs at Hs Hsl Hsa
  go_enter Try.func19, Try.ntmps19
  go_wp2_with (first
    | (go_at_call 28; refine (values_calls _ _ _ _).mono ?_; rintro e w1 ⟨rfl, rfl⟩)
    | (go_at_call 27; refine Hs.out.mono ?_; rintro e w2 ⟨A, c, rfl, h1, h2⟩; rw [Hn.out] at h1 ⊢; have H1 := Lib.hid h1; have H2 := Lib.hid (hB1.out.trans (h2.mono (by simp))); clear h1 h2)
    | fail)
  clear Hs
  go_loopw [3, 11] (fun v3 v11 wr => ∃ (A1 : Option Addr) (k c1 i : Nat), v3 = .slice A1 k c1 ∧ v11 = .int .i64 (i : Int) ∧ i ≤ n ∧ k ≤ i ∧ Hid (Sp w wr (.slice A1 k c1) k (cntU xs i) (.slice A n c) n xs))
    (fun _ v11 _ => n - (intOf v11).toNat)
  case atStart => exact ⟨none, 0, 0, 0, rfl, rfl, Nat.zero_le _, Nat.le_refl _, Lib.hid ⟨⟨by simp [Zs, cntU, Lib.compactUpTo], .inl ⟨rfl, rfl⟩⟩, own_base H1.out (by simp), (fun b e => by cases e), H2.out⟩⟩
  case round =>
    obtain ⟨A1, k, c1, i, rfl, rfl, hin, hki, hsp⟩ := hrel
    rcases Nat.lt_or_ge i n with hlt | hge
    · have hlx : i < xs.length := by rw [Hsl.out]; exact hlt
      obtain ⟨ad, u, hA1, hadb, hu, hcl⟩ := (Reads.of_own hsp.out.o2).at_ hlt
      subst hA1
      rw [Zs_get _ _ hlx, Option.some.injEq] at hu
      subst hu
      have hget := Lib.hid (List.getElem?_eq_getElem hlx)
      generalize xs[i] = v at hcl hget
      have hwi := wrap_small (z := (i : Int) + 1) (by omega) (by omega)
      clear hlx
      rcases Nat.eq_zero_or_pos i with hi0 | hi0
      · have Hi0 := Lib.hid hi0
        have hstep := Lib.hid (cnt_keep Hsa.out hget.out (.inl hi0))
        have hg0 : ¬ 0 < i := by omega
        clear hi0
        go_wp2_with (first
          | (at_builtin; refine wpList_pushL (w0 := w) (v := .slice A1 k c1) (n := k) (x := cntU xs i) (v' := .slice (some ad) n c) (n' := n) (x' := xs) rfl (.tmp 35) (.tmp 36) rfl rfl (hsp.out.alloc _) (by omega) (wr.heap.size + 1) (some ⟨wr.heap.size, 0, none⟩) 1 rfl (news := [1]) (one_reads wr 1 3 rfl) (by omega) ?_; intro A6 c6 w6 hsp6; have Hsp6 := Lib.hid hsp6; clear hsp6)
          | fail)
        refine ⟨⟨A6, k + 1, c6, i + 1, by go_num, by go_num, by omega, by omega, Lib.hid (by rw [hstep.out]; exact Hsp6.out)⟩, ?_⟩
        show n - ((i : Int) + 1).toNat < n - ((i : Int)).toNat
        omega
      · obtain ⟨i1, hi1⟩ : ∃ i1, i = i1 + 1 := ⟨i - 1, by omega⟩
        have hwk : IntKind.i64.wrap ((i : Int) - 1) = (i1 : Int) := by rw [wrap_small (by omega) (by omega)]; omega
        have hlt1 : i1 < n := by omega
        have hlx1 : i1 < xs.length := by rw [Hsl.out]; exact hlt1
        obtain ⟨ad2, u, hA2, hadb2, hu, hcl2⟩ := (Reads.of_own hsp.out.o2).at_ hlt1
        cases hA2
        rw [Zs_get _ _ hlx1, Option.some.injEq] at hu
        subst hu
        have hget2 : Hid (xs[i - 1]? = some xs[i1]) := by rw [show i - 1 = i1 by omega]; exact Lib.hid (List.getElem?_eq_getElem hlx1)
        generalize xs[i1] = u at hcl2 hget2
        have Hi1 := Lib.hid hi1
        have Hi0 := Lib.hid hi0
        clear hi1 hlx1
        by_cases huv : v = u
        · have hb : (v == u) = true := by simp [huv]
          have hget3 := hget2.out
          rw [← huv] at hget3
          obtain ⟨ini, cc, hc1, hc2, hc3, hc4⟩ := cnt_run Hsa.out hget.out Hi0.out hget3
          have hspx := hsp.out
          rw [hc1] at hspx
          obtain ⟨k1, hk1⟩ : ∃ k1, k = k1 + 1 := ⟨k - 1, by have := hspx.o1.1; simp [Zs] at this; omega⟩
          subst hk1
          obtain ⟨g, hgA, hgc, hgf, hsp3⟩ := hspx.setL (y := cc + 1)
          subst hgA
          have hwk1 : IntKind.i64.wrap (((k1 + 1 : Nat) : Int) - 1) = (k1 : Int) := by rw [wrap_small (by omega) (by omega)]; omega
          have hwk2 : IntKind.i64.wrap ((k1 : Int) + 1 - 1) = (k1 : Int) := by rw [wrap_small (by omega) (by omega)]; omega
          have hwc : IntKind.i64.wrap (cc + 1) = cc + 1 := wrap_small (by omega) (by omega)
          have Hc4 := Lib.hid hc4
          have Hsp3 := Lib.hid hsp3
          have hk1n : k1 < k1 + 1 := by omega
          clear huv hget3 hc1 hc4 hsp3 hspx
          go_wp2_with fail
          refine ⟨⟨_, k1 + 1, c1, i + 1, rfl, by go_num, by omega, by omega, Lib.hid (by rw [Hc4.out]; exact Hsp3.out)⟩, ?_⟩
          show n - ((i : Int) + 1).toNat < n - ((i : Int)).toNat
          omega
        · have hb : (v == u) = false := by simp [huv]
          have hstep := Lib.hid (cnt_keep Hsa.out hget.out (.inr (fun u' hu' => by rw [hget2.out] at hu'; cases hu'; exact huv)))
          clear huv
          go_wp2_with (first
            | (at_builtin; refine wpList_pushL (w0 := w) (v := .slice A1 k c1) (n := k) (x := cntU xs i) (v' := .slice (some ad) n c) (n' := n) (x' := xs) rfl (.tmp 35) (.tmp 36) rfl rfl (hsp.out.alloc _) (by omega) (wr.heap.size + 1) (some ⟨wr.heap.size, 0, none⟩) 1 rfl (news := [1]) (one_reads wr 1 3 rfl) (by omega) ?_; intro A6 c6 w6 hsp6; have Hsp6 := Lib.hid hsp6; clear hsp6)
            | fail)
          refine ⟨⟨A6, k + 1, c6, i + 1, by go_num, by go_num, by omega, by omega, Lib.hid (by rw [hstep.out]; exact Hsp6.out)⟩, ?_⟩
          show n - ((i : Int) + 1).toNat < n - ((i : Int)).toNat
          omega
    · have Hin := Lib.hid (show i = n by omega)
      have hcl := cons_row hsp.out.o1
      go_wp2_with (first
        | (go_at_call 25; refine (clip_any _ _ _ _ hcl.1 hcl.2).mono ?_; rintro e w4 ⟨rfl, rfl⟩)
        | fail)
      go_ret
      have h1 := hsp.out.o1
      have h2 := h1.1
      rw [Hin.out] at h1 h2
      exact ⟨A1, k, by simp, by simpa [Zs] using h2.symm, Reads.of_own h1, hsp.out.bel⟩
end Go.Proofs.Ytogdmmjonojdfaa
