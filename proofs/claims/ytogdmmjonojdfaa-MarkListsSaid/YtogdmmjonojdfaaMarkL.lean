/- mark: the laws' own has and same. -/
import Derived.Test.YtogdmmjonojdfaaMarkK
namespace Go.Proofs.Ytogdmmjonojdfaa
open Go.RowKit
set_option linter.unusedVariables false
def Zs (zs : List Int) : List Value := zs.map (Value.int .i64)
theorem Zs_get (zs : List Int) (j : Nat) (h : j < zs.length) : (Zs zs)[j]? = some (.int .i64 zs[j]) := by simp [Zs, h]
theorem has_any (w : World) (A : Option Addr) (n c : Nat) (zs : List Int) (z : Int) (hn : zs.length = n) (hr : Reads w w.heap.size 1 A n (Zs zs)) (hb : n ≤ 1000000) :
    Calls Try.prog 10 #[.slice A n c, .int .i64 z] w (fun e w' => e = .returned (.bool (decide (z ∈ zs))) ∧ w' = w) := by
  have Hn := Lib.hid hn
  have Hr := Lib.hid hr
  clear hn hr
  go_enter Try.func10, Try.ntmps10
  go_wp2_with fail
  go_loopw [5] (fun v wr => ∃ j : Nat, v = .int .i64 (j : Int) ∧ j ≤ n ∧ Hid (z ∉ zs.take j) ∧ Hid (wr = w))
    (fun v _ => n - (intOf v).toNat)
  case atStart => exact ⟨0, rfl, Nat.zero_le _, Lib.hid (by simp), Lib.hid rfl⟩
  case round =>
    obtain ⟨j, rfl, hj, hz, hw⟩ := hrel
    rcases Nat.lt_or_ge j n with hlt | hge
    · have hlz : j < zs.length := by rw [Hn.out]; exact hlt
      obtain ⟨ad, u, hA1, hadb, hu, hcl⟩ := Hr.out.at_ hlt
      subst hA1
      rw [Zs_get _ _ hlz, Option.some.injEq] at hu
      subst hu
      have htk := Lib.hid (List.take_succ_eq_append_getElem hlz)
      have hmem := Lib.hid (List.getElem_mem hlz)
      have hwj := wrap_small (z := (j : Int) + 1) (by omega) (by omega)
      rw [← hw.out] at hcl
      generalize zs[j] = y at hcl htk hmem
      by_cases e : y = z
      · go_wp2_with fail
        go_ret
        exact ⟨by rw [decide_eq_true (by rw [← e]; exact hmem.out)]; simp, hw.out⟩
      · go_wp2_with fail
        refine ⟨⟨j + 1, by go_num, by omega, Lib.hid ?_, hw⟩, ?_⟩
        · rw [htk.out]
          intro h
          rcases List.mem_append.1 h with h | h
          · exact hz.out h
          · simp at h; exact e h.symm
        · show n - ((j : Int) + 1).toNat < n - ((j : Int)).toNat
          omega
    · have hjk : j = n := by omega
      subst hjk
      go_wp2_with fail
      go_ret
      have e1 : zs.take j = zs := by rw [← Hn.out]; exact List.take_length
      have hz2 := hz.out
      rw [e1] at hz2
      exact ⟨by rw [decide_eq_false hz2]; simp, hw.out⟩
theorem same_any (w : World) (A C : Option Addr) (n c m d : Nat) (xs ys : List Int) (hn : xs.length = n) (hm : ys.length = m) (hr : Reads w w.heap.size 1 A n (Zs xs)) (hs : Reads w w.heap.size 1 C m (Zs ys)) (hb : n ≤ 1000000) :
    Calls Try.prog 12 #[.slice A n c, .slice C m d] w (fun e w' => e = .returned (.bool (decide (xs = ys))) ∧ ∃ q, w' = w.drewN q) := by
  have Hn := Lib.hid hn
  have Hm := Lib.hid hm
  have Hr := Lib.hid hr
  have Hs := Lib.hid hs
  clear hn hr hm hs
  by_cases hnm : n = m
  · subst hnm
    go_enter Try.func12, Try.ntmps12
    go_wp2_with fail
    go_loopw [5] (fun v wr => ∃ j : Nat, v = .int .i64 (j : Int) ∧ j ≤ n ∧ Hid (xs.take j = ys.take j) ∧ Hid (∃ q, wr = w.drewN q))
      (fun v _ => n - (intOf v).toNat)
    case atStart => exact ⟨0, rfl, Nat.zero_le _, Lib.hid (by simp), Lib.hid ⟨0, rfl⟩⟩
    case round =>
      obtain ⟨j, rfl, hj, hz, hw⟩ := hrel
      obtain ⟨q, hq⟩ := hw.out
      rcases Nat.lt_or_ge j n with hlt | hge
      · have hlx : j < xs.length := by rw [Hn.out]; exact hlt
        have hly : j < ys.length := by rw [Hm.out]; exact hlt
        obtain ⟨ad, u, hA1, hadb, hu, hcl⟩ := Hr.out.at_ hlt
        subst hA1
        rw [Zs_get _ _ hlx, Option.some.injEq] at hu
        subst hu
        obtain ⟨ad2, u, hA2, hadb2, hu, hcl2⟩ := Hs.out.at_ hlt
        subst hA2
        rw [Zs_get _ _ hly, Option.some.injEq] at hu
        subst hu
        have htx := Lib.hid (List.take_succ_eq_append_getElem hlx)
        have hty := Lib.hid (List.take_succ_eq_append_getElem hly)
        have hwj := wrap_small (z := (j : Int) + 1) (by omega) (by omega)
        have hd1 : ∀ p, (wr.drewN p).cell? (ad.add j) = some (.int .i64 xs[j]) := fun p => by rw [hq]; exact hcl
        have hd2 : ∀ p, (wr.drewN p).cell? (ad2.add j) = some (.int .i64 ys[j]) := fun p => by rw [hq]; exact hcl2
        have Hq := Lib.hid hq
        have Hxy := Lib.hid (show xs[j] = ys[j] ↔ xs[j] = ys[j] from Iff.rfl)
        have Hgx := Lib.hid (show xs.getD j 0 = xs[j] by simp [hlx])
        have Hgy := Lib.hid (show ys.getD j 0 = ys[j] by simp [hly])
        clear hq hcl hcl2 Hxy
        generalize xs[j] = x at hd1 htx Hgx
        generalize ys[j] = y at hd2 hty Hgy
        by_cases e : x = y
        · have hb1 : (x != y) = false := by simp [e]
          have Hte := Lib.hid e
          clear e
          go_wp2_with fail
          go_quiet (fail)
          go_wp2_with fail
          refine ⟨⟨j + 1, by go_num, by omega, Lib.hid ?_, Lib.hid ⟨q + nq, by rw [Hq.out]; simp⟩⟩, ?_⟩
          · rw [htx.out, hty.out, hz.out, Hte.out]
          · show n - ((j : Int) + 1).toNat < n - ((j : Int)).toNat
            omega
        · have hb1 : (x != y) = true := by simp [e]
          have Hte := Lib.hid e
          clear e
          go_wp2_with fail
          go_quiet (fail)
          go_wp2_with fail
          go_ret
          have hne : ¬ xs = ys := fun e => Hte.out (by rw [← Hgx.out, ← Hgy.out, e])
          exact ⟨by rw [decide_eq_false hne]; simp, q + nq, by rw [Hq.out]; simp⟩
      · have hjk : j = n := by omega
        subst hjk
        go_wp2_with fail
        go_ret
        have e1 : xs.take j = xs := by rw [← Hn.out]; exact List.take_length
        have e2 : ys.take j = ys := by rw [← Hm.out]; exact List.take_length
        have hz2 := hz.out
        rw [e1, e2] at hz2
        exact ⟨by rw [decide_eq_true hz2]; simp, q, rfl⟩
  · have hne : ¬ xs = ys := fun e => hnm (by rw [← Hn.out, ← Hm.out, e])
    have Hne := Lib.hid hne
    have hb2 : ((n : Int) != (m : Int)) = true := by simp; omega
    clear hne
    go_enter Try.func12, Try.ntmps12
    go_wp2_with fail
    go_ret
    exact ⟨by rw [decide_eq_false Hne.out]; simp, 0, rfl⟩
end Go.Proofs.Ytogdmmjonojdfaa
