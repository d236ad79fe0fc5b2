/- mark: rising and order: a list's numbers put in order, each once. -/
import Derived.Test.YtogdmmjonojdfaaMarkR
namespace Go.Proofs.Ytogdmmjonojdfaa
open Go.RowKit
set_option linter.unusedVariables false
theorem Zs_range (zs : List Int) : Zs zs = (List.range zs.length).map fun j => Value.int .i64 (zs.getD j 0) := by
  apply List.ext_getElem?
  intro i
  by_cases h : i < zs.length
  · simp [Zs, h]
  · rw [List.getElem?_eq_none (by simp [Zs]; omega), List.getElem?_eq_none (by simp; omega)]
theorem Zs_of_fun {zs : List Int} {n : Nat} {f : Nat → Int} (hl : zs.length = n) (h : ∀ j, j < n → f j = zs.getD j 0) : ((List.range n).map fun j => Value.int .i64 (f j)) = Zs zs := by
  rw [Zs_range, hl]
  apply List.map_congr_left
  intro j hj
  rw [h j (by simpa using hj)]
/-- Where a number is to be put: what's behind is shifted by one place. -/
structure Sh (zs : List Int) (v : Int) (K k : Nat) (f : Nat → Int) : Prop where
  len : zs.length = K
  le : k ≤ K
  lo : ∀ j, j < k → f j = zs.getD j 0
  hi : ∀ j, k < j → j ≤ K → f j = zs.getD (j - 1) 0
  gt : ∀ j, k ≤ j → j < K → v < zs.getD j 0
theorem Sh.start {zs : List Int} {v : Int} {K : Nat} (h : zs.length = K) : Sh zs v K K (fun j => (zs ++ [v]).getD j 0) :=
  ⟨h, Nat.le_refl _, fun j hj => by simp [List.getD_eq_getElem?_getD, List.getElem?_append_left (show j < zs.length by omega)], fun j h1 h2 => by omega, fun j h1 h2 => by omega⟩
theorem Sh.step {zs : List Int} {v : Int} {K k : Nat} {f : Nat → Int} (h : Sh zs v K (k + 1) f) (hv : v < f k) : Sh zs v K k (upd f (k + 1) (f k)) := by
  have h1 := h.le
  have h0 := h.lo k (by omega)
  refine ⟨h.len, by omega, fun j hj => ?_, fun j h2 h3 => ?_, fun j h2 h3 => ?_⟩
  · unfold upd; rw [if_neg (by omega)]; exact h.lo j (by omega)
  · unfold upd
    by_cases e : j = k + 1
    · subst e; rw [if_pos rfl]; exact h0
    · rw [if_neg e]; exact h.hi j (by omega) h3
  · by_cases e : j = k
    · subst e; rw [← h0]; exact hv
    · exact h.gt j (by omega) h3
def ins (zs : List Int) (k : Nat) (v : Int) : List Int := zs.take k ++ v :: zs.drop k
theorem Sh.fin {zs : List Int} {v : Int} {K k : Nat} {f : Nat → Int} (h : Sh zs v K k f) : ∀ j, j < K + 1 → upd f k v j = (ins zs k v).getD j 0 := by
  intro j hj
  have hk := h.le
  have hl := h.len
  have ht : (zs.take k).length = k := by simp; omega
  unfold upd ins
  rw [List.getD_eq_getElem?_getD]
  by_cases e : j = k
  · subst e
    rw [if_pos rfl, List.getElem?_append_right (by omega), ht]
    simp
  · rw [if_neg e]
    by_cases hlt : j < k
    · rw [List.getElem?_append_left (by omega), List.getElem?_take_of_lt hlt, h.lo j hlt, List.getD_eq_getElem?_getD]
    · rw [List.getElem?_append_right (by omega), ht, h.hi j (by omega) (by omega), show j - k = (j - 1 - k) + 1 by omega, List.getElem?_cons_succ, List.getElem?_drop, List.getD_eq_getElem?_getD, show k + (j - 1 - k) = j - 1 by omega]
theorem ins_len {zs : List Int} {k K : Nat} {v : Int} (h : zs.length = K) (hk : k ≤ K) : (ins zs k v).length = K + 1 := by
  unfold ins
  simp
  omega
theorem ins_mem {zs : List Int} {k : Nat} {v z : Int} : z ∈ ins zs k v ↔ z = v ∨ z ∈ zs := by
  unfold ins
  rw [List.mem_append, List.mem_cons]
  constructor
  · rintro (h | h | h)
    · exact .inr (List.mem_of_mem_take h)
    · exact .inl h
    · exact .inr (List.mem_of_mem_drop h)
  · rintro (h | h)
    · exact .inr (.inl h)
    · rw [← List.take_append_drop k zs] at h
      rcases List.mem_append.1 h with h | h
      · exact .inl h
      · exact .inr (.inr h)
theorem Sh.rise {zs : List Int} {v : Int} {K k : Nat} {f : Nat → Int} (h : Sh zs v K k f) (hs : zs.Pairwise (· < ·)) (hn : v ∉ zs) (hle : k = 0 ∨ f (k - 1) ≤ v) : (ins zs k v).Pairwise (· < ·) := by
  have hl := h.len
  have hk := h.le
  have hlow : ∀ x ∈ zs.take k, x < v := by
    intro x hx
    rcases Nat.eq_zero_or_pos k with e | e
    · subst e; simp at hx
    · have h1 : f (k - 1) ≤ v := hle.resolve_left (by omega)
      rw [h.lo (k - 1) (by omega), List.getD_eq_getElem?_getD, List.getElem?_eq_getElem (by omega)] at h1
      simp at h1
      obtain ⟨j, hj, rfl⟩ := List.mem_iff_getElem.1 hx
      simp at hj ⊢
      have hne : zs[j] ≠ v := fun e => hn (e ▸ List.getElem_mem _)
      by_cases e2 : j = k - 1
      · subst e2; omega
      · have := List.pairwise_iff_getElem.1 hs j (k - 1) (by omega) (by omega) (by omega)
        omega
  have hhi : ∀ x ∈ zs.drop k, v < x := by
    intro x hx
    obtain ⟨j, hj, rfl⟩ := List.mem_iff_getElem.1 hx
    simp at hj ⊢
    have := h.gt (k + j) (by omega) (by omega)
    rw [List.getD_eq_getElem?_getD, List.getElem?_eq_getElem (by omega)] at this
    simpa using this
  unfold ins
  rw [List.pairwise_append]
  refine ⟨hs.sublist (List.take_sublist _ _), ?_, fun a ha b hb => ?_⟩
  · rw [List.pairwise_cons]
    exact ⟨hhi, hs.sublist (List.drop_sublist _ _)⟩
  · have h1 := hlow a ha
    rcases List.mem_cons.1 hb with e | e
    · subst e; exact h1
    · have := hhi b e; omega
/-- A list's numbers, rising, each once; without nought, if nz. -/
structure Rz (nz : Prop) (xs zs : List Int) : Prop where
  up : zs.Pairwise (· < ·)
  mem : ∀ z, z ∈ zs ↔ z ∈ xs ∧ (nz → z ≠ 0)
theorem Rz.skip {nz : Prop} {xs zs : List Int} {v : Int} (h : Rz nz xs zs) (hv : (nz ∧ v = 0) ∨ v ∈ zs) : Rz nz (xs ++ [v]) zs := by
  refine ⟨h.up, fun z => ?_⟩
  rw [h.mem z, List.mem_append, List.mem_singleton]
  constructor
  · rintro ⟨h1, h2⟩
    exact ⟨.inl h1, h2⟩
  · rintro ⟨h1 | h1, h2⟩
    · exact ⟨h1, h2⟩
    · subst h1
      rcases hv with ⟨h3, h4⟩ | h3
      · exact absurd h4 (h2 h3)
      · exact (h.mem z).1 h3
theorem Rz.add {nz : Prop} {xs zs : List Int} {v : Int} {K k : Nat} {f : Nat → Int} (h : Rz nz xs zs) (hz : nz → v ≠ 0) (hn : v ∉ zs) (hs : Sh zs v K k f) (hle : k = 0 ∨ f (k - 1) ≤ v) : Rz nz (xs ++ [v]) (ins zs k v) := by
  refine ⟨hs.rise h.up hn hle, fun z => ?_⟩
  rw [ins_mem, h.mem z, List.mem_append, List.mem_singleton]
  constructor
  · rintro (h1 | ⟨h1, h2⟩)
    · subst h1; exact ⟨.inr rfl, hz⟩
    · exact ⟨.inl h1, h2⟩
  · rintro ⟨h1 | h1, h2⟩
    · exact .inr ⟨h1, h2⟩
    · exact .inl h1
set_option maxRecDepth 100000 in
set_option maxHeartbeats 8000000 in
theorem rising_any (w : World) (A0 : Option Addr) (N c0 : Nat) (xs : List Int) (hN : xs.length = N) (hr : Reads w w.heap.size 1 A0 N (Zs xs)) (hb : N ≤ 1000000) :
    Calls Try.prog 16 #[.slice A0 N c0] w (fun e w' => ∃ (A : Option Addr) (c : Nat) (zs : List Int), e = .returned (.slice A zs.length c) ∧ w'.ownsRow w.heap.size 3 1 (.slice A zs.length c) zs.length (Zs zs) ∧ Rz True xs zs ∧ zs.length ≤ N ∧ Below w.heap.size w w') := by
  have HN := Lib.hid hN
  have Hr := Lib.hid hr
  clear hN hr
  go_enter Try.func16, Try.ntmps16
  go_wp2_with fail
  go_loopw [3, 4] (fun v3 v4 wr => ∃ (A : Option Addr) (n c i : Nat) (zs : List Int), v3 = .slice A n c ∧ v4 = .int .i64 (i : Int) ∧ i ≤ N ∧ n ≤ i ∧ Hid (wr.ownsRow w.heap.size 3 1 (.slice A n c) n (Zs zs)) ∧ Hid (Rz True (xs.take i) zs) ∧ Hid (Below w.heap.size w wr))
    (fun _ v4 _ => N - (intOf v4).toNat)
  case atStart => exact ⟨none, 0, 0, 0, [], rfl, rfl, Nat.zero_le _, Nat.le_refl _, Lib.hid ⟨by simp [Zs], .inl ⟨rfl, rfl⟩⟩, Lib.hid ⟨by simp, by simp⟩, Lib.hid (Below.refl _ _)⟩
  case round =>
    obtain ⟨A, n, c, i, zs, rfl, rfl, hiN, hni, hown, hrz, hbel⟩ := hrel
    have hzl := Lib.hid (show zs.length = n by have := hown.out.1; simpa [Zs] using this)
    rcases Nat.lt_or_ge i N with hlt | hge
    · have hlx : i < xs.length := by rw [HN.out]; exact hlt
      obtain ⟨ad, u, hA1, hadb, hu, hcl⟩ := Hr.out.at_ hlt
      subst hA1
      rw [Zs_get _ _ hlx, Option.some.injEq] at hu
      subst hu
      have htk := Lib.hid (List.take_succ_eq_append_getElem hlx)
      have hc1 := (hbel.out.cell (by rw [block_of_add]; exact hadb)).trans hcl
      generalize xs[i] = v at hc1 htk
      have hwi := wrap_small (z := (i : Int) + 1) (by omega) (by omega)
      have hhas := has_any wr A n c zs v hzl.out (Reads.of_own hown.out) (by omega)
      clear hcl
      by_cases hv0 : v = 0
      · have hb0 : (v == 0) = true := by simp [hv0]
        have Hv0 := Lib.hid hv0
        clear hv0 hhas
        go_wp2_with fail
        refine ⟨⟨A, n, c, i + 1, zs, rfl, by go_num, by omega, by omega, hown, Lib.hid (by rw [htk.out]; exact hrz.out.skip (.inl ⟨trivial, Hv0.out⟩)), hbel⟩, ?_⟩
        show N - ((i : Int) + 1).toNat < N - ((i : Int)).toNat
        omega
      have hb0 : (v == 0) = false := by simp [hv0]
      have Hv0 := Lib.hid hv0
      clear hv0
      by_cases hm : v ∈ zs
      · rw [decide_eq_true hm] at hhas
        have Hhas := Lib.hid hhas
        have Hm := Lib.hid hm
        clear hhas hm
        go_wp2_with (first
          | (go_at_call 10; refine Hhas.out.mono ?_; rintro e w4 ⟨rfl, rfl⟩)
          | fail)
        refine ⟨⟨A, n, c, i + 1, zs, rfl, by go_num, by omega, by omega, hown, Lib.hid (by rw [htk.out]; exact hrz.out.skip (.inr Hm.out)), hbel⟩, ?_⟩
        show N - ((i : Int) + 1).toNat < N - ((i : Int)).toNat
        omega
      · rw [decide_eq_false hm] at hhas
        have Hhas := Lib.hid hhas
        have Hm := Lib.hid hm
        clear hhas hm
        obtain ⟨i0, hi, hz0, hz1, hz2⟩ := info_parts infoI
        go_wp2_with (first
          | (go_at_call 10; refine Hhas.out.mono ?_; rintro e w4 ⟨rfl, rfl⟩)
          | (at_builtin; refine wpList_pushZ _ rfl (.tmp 27) (.tmp 32) 22 rfl w.heap.size 3 i0 .i64 8 Try.underlying22 hi hz0 hz1 hz2 A n c _ rfl hown.out v 1 rfl (by unfold maxLen; omega) (by omega) hbel.out.size ?_; intro g cp w1 hown1 hgrow1 hsz1 hg1; have Hown1 := Lib.hid hown1; have Hb1 := Lib.hid (hbel.out.grown hgrow1 hbel.out.size (fun q hq => (hown.out.lt q hq).1)); clear hown1 hgrow1 hg1)
          | fail)
        have e1 : Zs zs ++ [Value.int .i64 v] = (List.range (n + 1)).map fun j => Value.int .i64 ((zs ++ [v]).getD j 0) := by
          have := Zs_range (zs ++ [v])
          rw [show (zs ++ [v]).length = n + 1 by simp [hzl.out]] at this
          rw [← this]
          simp [Zs]
        have hrow := IRow.of_own (by have := Hown1.out; rw [e1] at this; exact this) (by omega)
        obtain ⟨g2, hg2, hgB, hrow⟩ := hrow
        cases hg2
        have Hrow := Lib.hid hrow
        have HgB := Lib.hid hgB
        have Hsh := Lib.hid (Sh.start (v := v) hzl.out)
        clear hrow hgB e1 Hown1 hsz1
        generalize (fun j => (zs ++ [v]).getD j 0) = f0 at Hrow Hsh
        have hc1w := Lib.hid (show w.cell? (ad.add i) = some (.int .i64 v) by rw [← hbel.out.cell (by rw [block_of_add]; exact hadb)]; exact hc1)
        clear hc1
        go_loopw [5] (fun v5 wq => ∃ (k : Nat) (f : Nat → Int), v5 = .int .i64 (k : Int) ∧ k ≤ n ∧ Hid (IRow wq g cp (n + 1) f) ∧ Hid (Sh zs v n k f) ∧ Hid (Below w.heap.size w wq))
          (fun v5 _ => (intOf v5).toNat)
        case atStart => exact ⟨n, f0, rfl, Nat.le_refl _, Hrow, Hsh, Hb1⟩
        case round =>
          clear Hrow Hsh Hb1
          obtain ⟨k, f, rfl, hkn, hrow, hsh, hb1⟩ := hrel
          have hc1 : ∀ p, (wr.drewN p).cell? (ad.add i) = some (.int .i64 v) := fun p => (hb1.out.cell (by rw [block_of_add]; exact hadb)).trans hc1w.out
          rcases Nat.eq_zero_or_pos k with hk0 | hk0
          · have hg0 : decide ((k : Int) > 0) = false := by simp; omega
            have hg1 : decide (0 < k) = false := by simp; omega
            have Hk0 := Lib.hid hk0
            clear hk0
            go_upto_region 8 with fail
            go_quiet (fail)
            have hc2 := hc1 nq
            have hfz : (wr.drewN nq).frozen? ⟨g, k, none⟩ = false := hrow.out.frozen k
            have hck : (wr.drewN nq).cell? ⟨g, k, none⟩ = some (.int .i64 (f k)) := hrow.out.cell (by omega)
            go_wp2_with fail
            have hr2 := hrow.out.set_ k v
            have hown3 := hr2.own w.heap.size HgB.out
            rw [Zs_of_fun (ins_len (k := k) (v := v) hzl.out (by omega)) hsh.out.fin] at hown3
            refine ⟨⟨some ⟨g, 0, none⟩, n + 1, cp, i + 1, ins zs k v, rfl, by go_num, by omega, by omega, Lib.hid hown3, Lib.hid (by rw [htk.out]; exact hrz.out.add (fun _ => Hv0.out) Hm.out hsh.out (.inl Hk0.out)), Lib.hid (below_drewN (hb1.out.setCell (p := ⟨g, k, none⟩) HgB.out (.int .i64 v)) nq)⟩, ?_⟩
            show N - ((i : Int) + 1).toNat < N - ((i : Int)).toNat
            omega
          · obtain ⟨k1, hk1⟩ : ∃ k1, k = k1 + 1 := ⟨k - 1, by omega⟩
            have hwk : IntKind.i64.wrap ((k : Int) - 1) = (k1 : Int) := by rw [wrap_small (by omega) (by omega)]; omega
            have hd2 : ∀ p, (wr.drewN p).cell? ⟨g, k1, none⟩ = some (.int .i64 (f k1)) := fun p => hrow.out.cell (by omega)
            have hk1n : k1 < n + 1 := by omega
            have hg0 : decide ((k : Int) > 0) = true := by simp; omega
            have hg1 : decide (0 < k) = true := by simp; omega
            have Hk1 := Lib.hid hk1
            clear hk0 hk1
            go_upto_region 8 with fail
            by_cases hgt : v < f k1
            · have hm1 : decide (f k1 > v) = true := by simp; omega
              have hm2 : decide (v < f k1) = true := by simp; omega
              have Hgt := Lib.hid hgt
              clear hgt
              go_quiet (fail)
              have hd3 := hd2 nq
              have hfz : (wr.drewN nq).frozen? ⟨g, k, none⟩ = false := hrow.out.frozen k
              have hck : (wr.drewN nq).cell? ⟨g, k, none⟩ = some (.int .i64 (f k)) := hrow.out.cell (by omega)
              go_wp2_with fail
              have hsh2 : Sh zs v n (k1 + 1) f := by rw [← Hk1.out]; exact hsh.out
              have hsh3 := hsh2.step Hgt.out
              rw [← Hk1.out] at hsh3
              refine ⟨⟨k1, upd f k (f k1), by go_num, by omega, Lib.hid (hrow.out.set_ k (f k1)), Lib.hid hsh3, Lib.hid (below_drewN (hb1.out.setCell (p := ⟨g, k, none⟩) HgB.out (.int .i64 (f k1))) nq)⟩, ?_⟩
              show ((k1 : Int)).toNat < ((k : Int)).toNat
              have := Hk1.out
              omega
            · have hm1 : decide (f k1 > v) = false := by simp; omega
              have hm2 : decide (v < f k1) = false := by simp; omega
              have Hgt := Lib.hid hgt
              clear hgt
              go_quiet (fail)
              have hc2 := hc1 nq
              have hfz : (wr.drewN nq).frozen? ⟨g, k, none⟩ = false := hrow.out.frozen k
              have hck : (wr.drewN nq).cell? ⟨g, k, none⟩ = some (.int .i64 (f k)) := hrow.out.cell (by omega)
              go_wp2_with fail
              have hr2 := hrow.out.set_ k v
              have hown3 := hr2.own w.heap.size HgB.out
              rw [Zs_of_fun (ins_len (k := k) (v := v) hzl.out (by omega)) hsh.out.fin] at hown3
              refine ⟨⟨some ⟨g, 0, none⟩, n + 1, cp, i + 1, ins zs k v, rfl, by go_num, by omega, by omega, Lib.hid hown3, Lib.hid (by rw [htk.out]; exact hrz.out.add (fun _ => Hv0.out) Hm.out hsh.out (.inr (by rw [Hk1.out]; have := Hgt.out; simp; omega))), Lib.hid (below_drewN (hb1.out.setCell (p := ⟨g, k, none⟩) HgB.out (.int .i64 v)) nq)⟩, ?_⟩
              show N - ((i : Int) + 1).toNat < N - ((i : Int)).toNat
              omega
    · go_wp2_with fail
      go_ret
      obtain rfl : i = N := by omega
      have e1 : xs.take i = xs := by rw [← HN.out]; exact List.take_length
      have h1 := hown.out
      have h2 := hrz.out
      rw [e1] at h2
      refine ⟨A, c, zs, by rw [hzl.out]; simp, by rw [hzl.out]; exact h1, h2, by rw [hzl.out]; exact hni, hbel.out⟩
set_option maxRecDepth 100000 in
set_option maxHeartbeats 8000000 in
theorem order_any (w : World) (A0 : Option Addr) (N c0 : Nat) (xs : List Int) (hN : xs.length = N) (hr : Reads w w.heap.size 1 A0 N (Zs xs)) (hb : N ≤ 1000000) :
    Calls Try.prog 17 #[.slice A0 N c0] w (fun e w' => ∃ (A : Option Addr) (c : Nat) (zs : List Int), e = .returned (.slice A zs.length c) ∧ w'.ownsRow w.heap.size 3 1 (.slice A zs.length c) zs.length (Zs zs) ∧ Rz False xs zs ∧ zs.length ≤ N ∧ Below w.heap.size w w') := by
  have HN := Lib.hid hN
  have Hr := Lib.hid hr
  clear hN hr
  go_enter Try.func17, Try.ntmps17
  go_wp2_with fail
  go_loopw [3, 4] (fun v3 v4 wr => ∃ (A : Option Addr) (n c i : Nat) (zs : List Int), v3 = .slice A n c ∧ v4 = .int .i64 (i : Int) ∧ i ≤ N ∧ n ≤ i ∧ Hid (wr.ownsRow w.heap.size 3 1 (.slice A n c) n (Zs zs)) ∧ Hid (Rz False (xs.take i) zs) ∧ Hid (Below w.heap.size w wr))
    (fun _ v4 _ => N - (intOf v4).toNat)
  case atStart => exact ⟨none, 0, 0, 0, [], rfl, rfl, Nat.zero_le _, Nat.le_refl _, Lib.hid ⟨by simp [Zs], .inl ⟨rfl, rfl⟩⟩, Lib.hid ⟨by simp, by simp⟩, Lib.hid (Below.refl _ _)⟩
  case round =>
    obtain ⟨A, n, c, i, zs, rfl, rfl, hiN, hni, hown, hrz, hbel⟩ := hrel
    have hzl := Lib.hid (show zs.length = n by have := hown.out.1; simpa [Zs] using this)
    rcases Nat.lt_or_ge i N with hlt | hge
    · have hlx : i < xs.length := by rw [HN.out]; exact hlt
      obtain ⟨ad, u, hA1, hadb, hu, hcl⟩ := Hr.out.at_ hlt
      subst hA1
      rw [Zs_get _ _ hlx, Option.some.injEq] at hu
      subst hu
      have htk := Lib.hid (List.take_succ_eq_append_getElem hlx)
      have hc1 := (hbel.out.cell (by rw [block_of_add]; exact hadb)).trans hcl
      generalize xs[i] = v at hc1 htk
      have hwi := wrap_small (z := (i : Int) + 1) (by omega) (by omega)
      have hhas := has_any wr A n c zs v hzl.out (Reads.of_own hown.out) (by omega)
      clear hcl
      by_cases hm : v ∈ zs
      · rw [decide_eq_true hm] at hhas
        have Hhas := Lib.hid hhas
        have Hm := Lib.hid hm
        clear hhas hm
        go_wp2_with (first
          | (go_at_call 10; refine Hhas.out.mono ?_; rintro e w4 ⟨rfl, rfl⟩)
          | fail)
        refine ⟨⟨A, n, c, i + 1, zs, rfl, by go_num, by omega, by omega, hown, Lib.hid (by rw [htk.out]; exact hrz.out.skip (.inr Hm.out)), hbel⟩, ?_⟩
        show N - ((i : Int) + 1).toNat < N - ((i : Int)).toNat
        omega
      · rw [decide_eq_false hm] at hhas
        have Hhas := Lib.hid hhas
        have Hm := Lib.hid hm
        clear hhas hm
        obtain ⟨i0, hi, hz0, hz1, hz2⟩ := info_parts infoI
        go_wp2_with (first
          | (go_at_call 10; refine Hhas.out.mono ?_; rintro e w4 ⟨rfl, rfl⟩)
          | (at_builtin; refine wpList_pushZ _ rfl (.tmp 20) (.tmp 25) 22 rfl w.heap.size 3 i0 .i64 8 Try.underlying22 hi hz0 hz1 hz2 A n c _ rfl hown.out v 1 rfl (by unfold maxLen; omega) (by omega) hbel.out.size ?_; intro g cp w1 hown1 hgrow1 hsz1 hg1; have Hown1 := Lib.hid hown1; have Hb1 := Lib.hid (hbel.out.grown hgrow1 hbel.out.size (fun q hq => (hown.out.lt q hq).1)); clear hown1 hgrow1 hg1)
          | fail)
        have e1 : Zs zs ++ [Value.int .i64 v] = (List.range (n + 1)).map fun j => Value.int .i64 ((zs ++ [v]).getD j 0) := by
          have := Zs_range (zs ++ [v])
          rw [show (zs ++ [v]).length = n + 1 by simp [hzl.out]] at this
          rw [← this]
          simp [Zs]
        have hrow := IRow.of_own (by have := Hown1.out; rw [e1] at this; exact this) (by omega)
        obtain ⟨g2, hg2, hgB, hrow⟩ := hrow
        cases hg2
        have Hrow := Lib.hid hrow
        have HgB := Lib.hid hgB
        have Hsh := Lib.hid (Sh.start (v := v) hzl.out)
        clear hrow hgB e1 Hown1 hsz1
        generalize (fun j => (zs ++ [v]).getD j 0) = f0 at Hrow Hsh
        have hc1w := Lib.hid (show w.cell? (ad.add i) = some (.int .i64 v) by rw [← hbel.out.cell (by rw [block_of_add]; exact hadb)]; exact hc1)
        clear hc1
        go_loopw [5] (fun v5 wq => ∃ (k : Nat) (f : Nat → Int), v5 = .int .i64 (k : Int) ∧ k ≤ n ∧ Hid (IRow wq g cp (n + 1) f) ∧ Hid (Sh zs v n k f) ∧ Hid (Below w.heap.size w wq))
          (fun v5 _ => (intOf v5).toNat)
        case atStart => exact ⟨n, f0, rfl, Nat.le_refl _, Hrow, Hsh, Hb1⟩
        case round =>
          clear Hrow Hsh Hb1
          obtain ⟨k, f, rfl, hkn, hrow, hsh, hb1⟩ := hrel
          have hc1 : ∀ p, (wr.drewN p).cell? (ad.add i) = some (.int .i64 v) := fun p => (hb1.out.cell (by rw [block_of_add]; exact hadb)).trans hc1w.out
          rcases Nat.eq_zero_or_pos k with hk0 | hk0
          · have hg0 : decide ((k : Int) > 0) = false := by simp; omega
            have hg1 : decide (0 < k) = false := by simp; omega
            have Hk0 := Lib.hid hk0
            clear hk0
            go_upto_region 8 with fail
            go_quiet (fail)
            have hc2 := hc1 nq
            have hfz : (wr.drewN nq).frozen? ⟨g, k, none⟩ = false := hrow.out.frozen k
            have hck : (wr.drewN nq).cell? ⟨g, k, none⟩ = some (.int .i64 (f k)) := hrow.out.cell (by omega)
            go_wp2_with fail
            have hr2 := hrow.out.set_ k v
            have hown3 := hr2.own w.heap.size HgB.out
            rw [Zs_of_fun (ins_len (k := k) (v := v) hzl.out (by omega)) hsh.out.fin] at hown3
            refine ⟨⟨some ⟨g, 0, none⟩, n + 1, cp, i + 1, ins zs k v, rfl, by go_num, by omega, by omega, Lib.hid hown3, Lib.hid (by rw [htk.out]; exact hrz.out.add (fun h => h.elim) Hm.out hsh.out (.inl Hk0.out)), Lib.hid (below_drewN (hb1.out.setCell (p := ⟨g, k, none⟩) HgB.out (.int .i64 v)) nq)⟩, ?_⟩
            show N - ((i : Int) + 1).toNat < N - ((i : Int)).toNat
            omega
          · obtain ⟨k1, hk1⟩ : ∃ k1, k = k1 + 1 := ⟨k - 1, by omega⟩
            have hwk : IntKind.i64.wrap ((k : Int) - 1) = (k1 : Int) := by rw [wrap_small (by omega) (by omega)]; omega
            have hd2 : ∀ p, (wr.drewN p).cell? ⟨g, k1, none⟩ = some (.int .i64 (f k1)) := fun p => hrow.out.cell (by omega)
            have hk1n : k1 < n + 1 := by omega
            have hg0 : decide ((k : Int) > 0) = true := by simp; omega
            have hg1 : decide (0 < k) = true := by simp; omega
            have Hk1 := Lib.hid hk1
            clear hk0 hk1
            go_upto_region 8 with fail
            by_cases hgt : v < f k1
            · have hm1 : decide (f k1 > v) = true := by simp; omega
              have hm2 : decide (v < f k1) = true := by simp; omega
              have Hgt := Lib.hid hgt
              clear hgt
              go_quiet (fail)
              have hd3 := hd2 nq
              have hfz : (wr.drewN nq).frozen? ⟨g, k, none⟩ = false := hrow.out.frozen k
              have hck : (wr.drewN nq).cell? ⟨g, k, none⟩ = some (.int .i64 (f k)) := hrow.out.cell (by omega)
              go_wp2_with fail
              have hsh2 : Sh zs v n (k1 + 1) f := by rw [← Hk1.out]; exact hsh.out
              have hsh3 := hsh2.step Hgt.out
              rw [← Hk1.out] at hsh3
              refine ⟨⟨k1, upd f k (f k1), by go_num, by omega, Lib.hid (hrow.out.set_ k (f k1)), Lib.hid hsh3, Lib.hid (below_drewN (hb1.out.setCell (p := ⟨g, k, none⟩) HgB.out (.int .i64 (f k1))) nq)⟩, ?_⟩
              show ((k1 : Int)).toNat < ((k : Int)).toNat
              have := Hk1.out
              omega
            · have hm1 : decide (f k1 > v) = false := by simp; omega
              have hm2 : decide (v < f k1) = false := by simp; omega
              have Hgt := Lib.hid hgt
              clear hgt
              go_quiet (fail)
              have hc2 := hc1 nq
              have hfz : (wr.drewN nq).frozen? ⟨g, k, none⟩ = false := hrow.out.frozen k
              have hck : (wr.drewN nq).cell? ⟨g, k, none⟩ = some (.int .i64 (f k)) := hrow.out.cell (by omega)
              go_wp2_with fail
              have hr2 := hrow.out.set_ k v
              have hown3 := hr2.own w.heap.size HgB.out
              rw [Zs_of_fun (ins_len (k := k) (v := v) hzl.out (by omega)) hsh.out.fin] at hown3
              refine ⟨⟨some ⟨g, 0, none⟩, n + 1, cp, i + 1, ins zs k v, rfl, by go_num, by omega, by omega, Lib.hid hown3, Lib.hid (by rw [htk.out]; exact hrz.out.add (fun h => h.elim) Hm.out hsh.out (.inr (by rw [Hk1.out]; have := Hgt.out; simp; omega))), Lib.hid (below_drewN (hb1.out.setCell (p := ⟨g, k, none⟩) HgB.out (.int .i64 v)) nq)⟩, ?_⟩
              show N - ((i : Int) + 1).toNat < N - ((i : Int)).toNat
              omega
    · go_wp2_with fail
      go_ret
      obtain rfl : i = N := by omega
      have e1 : xs.take i = xs := by rw [← HN.out]; exact List.take_length
      have h1 := hown.out
      have h2 := hrz.out
      rw [e1] at h2
      refine ⟨A, c, zs, by rw [hzl.out]; simp, by rw [hzl.out]; exact h1, h2, by rw [hzl.out]; exact hni, hbel.out⟩
end Go.Proofs.Ytogdmmjonojdfaa
