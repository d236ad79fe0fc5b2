/- mark: slices.Sorted(slices.Values(l)), slices.Compact, Once. -/
import Derived.Test.YtogdmmjonojdfaaMarkY
import Derived.Shelf.Slices.CompactI
import Derived.Ground.Names2Prog
import Derived.Test.YtogdmmjonojdfaaMarkSi
namespace Go.Proofs.Ytogdmmjonojdfaa
open Go.RowKit Go.Shelf
set_option linter.unusedVariables false
def sortI (l : List Int) : List Int := l.mergeSort (fun a b => decide (a ≤ b))
theorem sortI_perm (l : List Int) : (sortI l).Perm l := List.mergeSort_perm l _
theorem sortI_len (l : List Int) : (sortI l).length = l.length := (sortI_perm l).length_eq
theorem sortI_le (l : List Int) : (sortI l).Pairwise (· ≤ ·) := by
  have := List.pairwise_mergeSort (le := fun a b : Int => decide (a ≤ b)) (by intro a b c; simp; omega) (by intro a b; simp; omega) l
  exact this.imp (by intro a b h; simpa using h)
theorem sortZ (w : World) (B : Nat) (A : Option Addr) (n co : Nat) (zs : List Int) (hn : zs.length = n) (hown : w.ownsRow B 3 1 (.slice A n co) n (Zs zs)) (hl : n < 1000000) :
    Calls Try.prog 24 #[.slice A n co] w fun e w' => e = .returned (.tuple #[]) ∧ w'.ownsRow B 3 1 (.slice A n co) n (Zs (sortI zs)) ∧ Mv (fun x => (Value.slice A n co).ownBlock = some x) w w' := by
  rcases hown.2 with ⟨h1, h2⟩ | ⟨g, cap, cur, e1, e2, e3, e4, e5, e6, e7⟩
  · subst h2
    have hz : zs = [] := List.eq_nil_of_length_eq_zero hn
    subst hz
    cases h1
    exact (Any.slices_Sort_int_none Try.laysSort none 0 w).mono (by rintro e w' ⟨rfl, rfl⟩; exact ⟨rfl, ⟨by simp [sortI, Zs], .inl ⟨rfl, rfl⟩⟩, Mv.refl _ _⟩)
  · cases e1
    subst hn
    have hH := Go.holds_of_blockI (ss := zs) e3 (by simpa [Zs] using e7)
    have hg : g < w.heap.size := by
      rcases Nat.lt_or_ge g w.heap.size with h | h
      · exact h
      · rw [Array.getElem?_eq_none (by omega)] at e3; cases e3
    have hc := Any.slices_Sort_int Try.laysSort g 0 co zs w hH hg (by omega)
    refine hc.mono ?_
    rintro e w' ⟨rfl, n, os, rfl⟩
    refine ⟨rfl, ?_, (Mv.refl _ w).grown (Go.grownBy_sortedI _) (fun g0 e _ => e)⟩
    have := Go.ownsRow_sortedI (ss := zs) (ts := zs.mergeSort (fun a b => decide (a ≤ b))) (os := os) (n := n) (base := B) (by simp) e2 e3 e4 e5 e6
    exact this
theorem values_calls (w : World) (A : Option Addr) (n c : Nat) : Calls Try.prog 28 #[.slice A n c] w (fun e w' => e = .returned (.func (.func 35) #[] #[.pointer (some ⟨w.heap.size, 0, none⟩)]) ∧ w' = w.alloc (.cells #[.slice A n c] 22)) :=
  (callsIn_wide (n := 3)).1 (values_in Fence.wide 3 trivial rfl A n c w)
theorem collect_calls (Bs : Nat) (sv : Value) (zs : List Int) (hlen : zs.length ≤ 1000000) (w : World) (hBs : Bs < w.heap.size) (hcs : w.cell? ⟨Bs, 0, none⟩ = some sv) (hI : HoldI w.heap.size w sv zs) :
    Calls Try.prog 34 #[.func (.func 35) #[] #[.pointer (some ⟨Bs, 0, none⟩)]] w fun e W' => ∃ (A : Option Addr) (c : Nat), e = .returned (.slice A zs.length c) ∧ W'.ownsRow w.heap.size 3 1 (.slice A zs.length c) zs.length (Zs zs) ∧ Below w.heap.size w W' := by
  have h := (callsIn_wide (n := 5)).1 (appendSeq_in Fence.wide 5 trivial trivial rfl (by omega) Bs sv zs hlen w hBs hcs hI)
  have H := Lib.hid h
  clear h hI hcs
  go_enter Try.func34, Try.ntmps34
  go_wp2_with (first
    | (go_at_call 47; refine H.out.mono ?_; rintro e w2 ⟨A, c, rfl, h1, h2⟩; have H1 := Lib.hid h1; have H2 := Lib.hid h2; clear h1 h2)
    | fail)
  go_ret
  exact ⟨A, c, by simp, H1.out, H2.out⟩
theorem sorted_calls (Bs : Nat) (sv : Value) (zs : List Int) (hlen : zs.length < 1000000) (w : World) (hBs : Bs < w.heap.size) (hcs : w.cell? ⟨Bs, 0, none⟩ = some sv) (hI : HoldI w.heap.size w sv zs) :
    Calls Try.prog 27 #[.func (.func 35) #[] #[.pointer (some ⟨Bs, 0, none⟩)]] w fun e W' => ∃ (A : Option Addr) (c : Nat), e = .returned (.slice A zs.length c) ∧ W'.ownsRow w.heap.size 3 1 (.slice A zs.length c) zs.length (Zs (sortI zs)) ∧ Below w.heap.size w W' := by
  have H := Lib.hid (collect_calls Bs sv zs (by omega) w hBs hcs hI)
  clear hI hcs
  go_enter Try.func27, Try.ntmps27
  go_wp2_with (first
    | (go_at_call 34; refine H.out.mono ?_; rintro e w2 ⟨A, c, rfl, h1, h2⟩; have H1 := Lib.hid h1; have H2 := Lib.hid h2; clear h1 h2)
    | (go_at_call 24; refine (sortZ w2 w.heap.size A zs.length c zs rfl H1.out hlen).mono ?_; rintro e w3 ⟨rfl, h3, h4⟩; have H3 := Lib.hid h3; have H4 := Lib.hid (H2.out.trans (h4.below (B := w.heap.size) H2.out.size (fun b e => (H1.out.lt b e).1))); clear h3 h4)
    | fail)
  go_ret
  exact ⟨A, c, by simp, H3.out, H4.out⟩
theorem own_pre {w : World} {B : Nat} {e : TypeId} {A : Option Addr} {n k c : Nat} {xs : List Value} (h : w.ownsRow B e 1 (.slice A n c) n xs) (hk : k ≤ n) : w.ownsRow B e 1 (.slice A k c) k (xs.take k) := by
  have hl := h.1
  refine ⟨by simp; omega, ?_⟩
  rcases h.2 with ⟨h1, h2⟩ | ⟨g, cap, cur, e1, e2, e3, e4, e5, e6, e7⟩
  · have hk0 : k = 0 := by omega
    subst hk0
    cases h1
    exact .inl ⟨rfl, rfl⟩
  · cases e1
    refine .inr ⟨g, c, cur, rfl, e2, e3, by omega, e5, e6, ?_⟩
    rw [← e7, List.take_take]
    congr 1
    omega
/-- Runs of like numbers are one number. -/
def cmpI (l : List Int) : List Int := Lib.compact l
theorem cmp_up (d : Array Int) (hs : ∀ i j, i ≤ j → j < d.size → d[i]! ≤ d[j]!) : ∀ m, m ≤ d.size → (Lib.compactUpTo d m).Pairwise (· < ·) ∧ (∀ z, z ∈ Lib.compactUpTo d m ↔ ∃ j, j < m ∧ z = d[j]!) ∧ (0 < m → ∃ ini, Lib.compactUpTo d m = ini ++ [d[m - 1]!]) := by
  intro m
  induction m with
  | zero => intro _; exact ⟨by simp [Lib.compactUpTo], fun z => by simp [Lib.compactUpTo], fun h => absurd h (by omega)⟩
  | succ m ih =>
    intro hm
    obtain ⟨h1, h2, h3⟩ := ih (by omega)
    rw [Lib.compactUpTo_succ]
    by_cases hk : Lib.keeps d m = true
    · rw [if_pos hk]
      have hgt : ∀ z ∈ Lib.compactUpTo d m, z < d[m]! := by
        intro z hz
        obtain ⟨j, hj, rfl⟩ := (h2 z).1 hz
        have e1 := hs j (m - 1) (by omega) (by omega)
        have e2 := hs (m - 1) m (by omega) (by omega)
        have e3 : m = 0 ∨ d[m]! ≠ d[m - 1]! := by simpa [Lib.keeps] using hk
        rcases e3 with e3 | e3
        · omega
        · omega
      refine ⟨?_, fun z => ?_, fun _ => ⟨_, rfl⟩⟩
      · rw [List.pairwise_append]
        exact ⟨h1, by simp, fun a ha b hb => by simp at hb; subst hb; exact hgt a ha⟩
      · rw [List.mem_append, h2 z, List.mem_singleton]
        constructor
        · rintro (⟨j, hj, rfl⟩ | rfl)
          · exact ⟨j, by omega, rfl⟩
          · exact ⟨m, by omega, rfl⟩
        · rintro ⟨j, hj, rfl⟩
          rcases Nat.lt_or_ge j m with h | h
          · exact .inl ⟨j, h, rfl⟩
          · exact .inr (by rw [show j = m by omega])
    · rw [if_neg hk, List.append_nil]
      have e3 : m ≠ 0 ∧ d[m]! = d[m - 1]! := by simpa [Lib.keeps] using hk
      refine ⟨h1, fun z => ?_, fun _ => ?_⟩
      · rw [h2 z]
        constructor
        · rintro ⟨j, hj, rfl⟩; exact ⟨j, by omega, rfl⟩
        · rintro ⟨j, hj, rfl⟩
          rcases Nat.lt_or_ge j m with h | h
          · exact ⟨j, h, rfl⟩
          · exact ⟨m - 1, by omega, by rw [show j = m by omega]; exact e3.2⟩
      · obtain ⟨ini, h4⟩ := h3 (by omega)
        exact ⟨ini, by rw [h4]; simp [e3.2]⟩
theorem sort_arr (l : List Int) : ∀ i j, i ≤ j → j < (sortI l).toArray.size → (sortI l).toArray[i]! ≤ (sortI l).toArray[j]! := by
  intro i j hij hj
  simp at hj
  have hi : i < (sortI l).length := by omega
  simp [hi, hj]
  rcases Nat.eq_or_lt_of_le hij with h | h
  · subst h; exact Int.le_refl _
  · exact List.pairwise_iff_getElem.1 (sortI_le l) i j hi hj h
theorem cmp_rz (l : List Int) : Rz False l (cmpI (sortI l)) := by
  obtain ⟨h1, h2, _⟩ := cmp_up (sortI l).toArray (sort_arr l) (sortI l).toArray.size (Nat.le_refl _)
  refine ⟨by simpa [cmpI, Lib.compact] using h1, fun z => ?_⟩
  have h3 := h2 z
  rw [show cmpI (sortI l) = Lib.compactUpTo (sortI l).toArray (sortI l).toArray.size by simp [cmpI, Lib.compact], h3]
  constructor
  · rintro ⟨j, hj, rfl⟩
    simp at hj
    refine ⟨?_, fun h => h.elim⟩
    simp [hj]
    exact (sortI_perm l).mem_iff.1 (List.getElem_mem hj)
  · rintro ⟨h, _⟩
    obtain ⟨j, hj, rfl⟩ := List.mem_iff_getElem.1 ((sortI_perm l).mem_iff.2 h)
    exact ⟨j, by simpa using hj, by simp [hj]⟩
theorem compact_len (zs : List Int) : (Lib.compact zs).length ≤ zs.length := by
  unfold Lib.compact Lib.compactUpTo
  rw [List.length_map]
  have := List.length_filter_le (Lib.keeps zs.toArray) (List.range zs.length)
  simpa using this
theorem compactZ (w : World) (B : Nat) (A : Option Addr) (n co : Nat) (zs : List Int) (hn : zs.length = n) (hown : w.ownsRow B 3 1 (.slice A n co) n (Zs zs)) (hl : n < 1000000) :
    Calls Try.prog 29 #[.slice A n co] w fun e w' => e = .returned (.slice A (cmpI zs).length co) ∧ w'.ownsRow B 3 1 (.slice A (cmpI zs).length co) (cmpI zs).length (Zs (cmpI zs)) ∧ Mv (fun x => (Value.slice A n co).ownBlock = some x) w w' := by
  rcases hown.2 with ⟨h1, h2⟩ | ⟨g, cap, cur, e1, e2, e3, e4, e5, e6, e7⟩
  · subst h2
    have hz : zs = [] := List.eq_nil_of_length_eq_zero hn
    subst hz
    cases h1
    exact (Any.slices_Compact_int_empty Try.laysCompact none 0 w).mono (by rintro e w' ⟨rfl, rfl⟩; exact ⟨rfl, ⟨by simp [cmpI, Lib.compact, Lib.compactUpTo, Zs], .inl ⟨rfl, rfl⟩⟩, Mv.refl _ _⟩)
  · cases e1
    subst hn
    have hH := Go.holds_of_blockI (ss := zs) e3 (by simpa [Zs] using e7)
    have hc := Any.slices_Compact_int Try.laysCompact g 0 co zs w hH (by omega) e4
    have hcl := compact_len zs
    refine hc.mono ?_
    rintro e w' ⟨rfl, q, rfl⟩
    have h0 := Go.ownsRow_sortedI (ss := zs) (ts := Lib.compact zs ++ List.replicate (zs.length - (Lib.compact zs).length) 0) (os := #[]) (n := q) (base := B) (by simp; omega) e2 e3 e4 e5 e6
    rw [Go.Sort.grow_empty] at h0
    have h1 := own_pre h0 hcl
    refine ⟨rfl, ?_, (Mv.refl _ w).grown (by have := Go.grownBy_sortedI (w := w) (g := g) (n := q) (os := #[]) (Lib.compact zs ++ List.replicate (zs.length - (Lib.compact zs).length) 0).toArray; rw [Go.Sort.grow_empty] at this; exact this) (fun g0 e _ => e)⟩
    have e9 : List.take (Lib.compact zs).length ((Lib.compact zs ++ List.replicate (zs.length - (Lib.compact zs).length) 0).map (Value.int .i64)) = Zs (cmpI zs) := by
      rw [List.map_append, List.take_left']
      · rfl
      · simp
    rw [e9] at h1
    exact h1
theorem vals_in (w : World) (A : Option Addr) (n c : Nat) (zs : List Int) (hn : zs.length = n) (hr : Reads w w.heap.size 1 A n (Zs zs)) : (w.alloc (.cells #[.slice A n c] 22)).cell? ⟨w.heap.size, 0, none⟩ = some (.slice A n c) ∧ HoldI (w.alloc (.cells #[.slice A n c] 22)).heap.size (w.alloc (.cells #[.slice A n c] 22)) (.slice A n c) zs :=
  ⟨((Blk.new w 22 #[.slice A n c]).cell 0).trans rfl, HoldI.of_reads ((hr.alloc (Nat.le_refl _) _).more (by simp)) hn⟩
theorem once_any (w : World) (A0 : Option Addr) (n c0 : Nat) (zs : List Int) (hn : zs.length = n) (hr : Reads w w.heap.size 1 A0 n (Zs zs)) (hl : n < 1000000) :
    Calls Try.prog 18 #[.slice A0 n c0] w fun e w' => ∃ (A : Option Addr) (k : Nat), e = .returned (.tuple #[.slice A k k, .bool ((k : Int) == (n : Int))]) ∧ k = (cmpI (sortI zs)).length ∧ Reads w' w'.heap.size 1 A k (Zs (cmpI (sortI zs))) ∧ Below w.heap.size w w' := by
  obtain ⟨hcs, hI⟩ := vals_in w A0 n c0 zs hn hr
  have Hs := Lib.hid (sorted_calls w.heap.size (.slice A0 n c0) zs (by omega) _ (by simp) hcs hI)
  have Hn := Lib.hid hn
  have hB1 := Lib.hid ((Below.refl w.heap.size w).alloc (Nat.le_refl _) (.cells #[.slice A0 n c0] 22))
  clear hcs hI hr hn
  go_enter Try.func18, Try.ntmps18
  go_wp2_with (first
    | (go_at_call 28; refine (values_calls _ _ _ _).mono ?_; rintro e w1 ⟨rfl, rfl⟩)
    | (go_at_call 27; refine Hs.out.mono ?_; rintro e w2 ⟨A, c, rfl, h1, h2⟩; rw [Hn.out] at h1 ⊢; have H1 := Lib.hid h1; have H2 := Lib.hid (hB1.out.trans (h2.mono (by simp))); clear h1 h2)
    | (go_at_call 29; refine (compactZ w2 _ A n c (sortI zs) (by rw [sortI_len]; exact Hn.out) H1.out hl).mono ?_; rintro e w3 ⟨rfl, h3, h4⟩; have hcl := cons_row h3; have H3 := Lib.hid h3; have H4 := Lib.hid (H2.out.trans (h4.below (B := w.heap.size) H2.out.size (fun b e => by have := (H1.out.lt b e).1; simp at this; omega))); clear h3 h4)
    | (go_at_call 25; refine (clip_any _ _ _ _ hcl.1 hcl.2).mono ?_; rintro e w4 ⟨rfl, rfl⟩)
    | fail)
  go_ret2
  exact ⟨A, _, by simp, rfl, Reads.of_own H3.out, H4.out⟩
end Go.Proofs.Ytogdmmjonojdfaa
