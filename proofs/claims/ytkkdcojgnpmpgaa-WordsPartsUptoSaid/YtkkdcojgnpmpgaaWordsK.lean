/- The walk of the document's Split, as far as the number of parts goes. -/
import Derived.Test.YtkkdcojgnpmpgaaWordsJ
namespace Go.Proofs.Ytkkdcojgnpmpgaa
open Go.RowKit
set_option linter.unusedVariables false
theorem sl_from (T : ByteArray) (u : Nat) (W : World) (h : u ≤ T.size) : (Instr.slice 9 (.string T) (some (.int .i64 (u : Int))) none none).run Try.prog W = .ok (.string (T.extract u T.size)) W := by
  have hi : 0 ≤ (u : Int) ∧ (u : Int) ≤ ((T.size : Nat) : Int) := ⟨by omega, by omega⟩
  simp [Instr.slice, Instr.sliceBounds, Instr.sliceBound, asIntOf, run_underlying Try.underlying9, hi]
  intro hc
  omega
theorem sl_to (T : ByteArray) (v : Nat) (W : World) (h : v ≤ T.size) : (Instr.slice 9 (.string T) none (some (.int .i64 (v : Int))) none).run Try.prog W = .ok (.string (T.extract 0 v)) W := by
  have hi : 0 ≤ (v : Int) ∧ (v : Int) ≤ ((T.size : Nat) : Int) := ⟨by omega, by omega⟩
  simp [Instr.slice, Instr.sliceBounds, Instr.sliceBound, asIntOf, run_underlying Try.underlying9, hi]
  intro hc
  omega
theorem strB_drop (l : List Nat) (u : Nat) : (strB l).extract u (strB l).size = strB (l.drop u) := by
  apply ByteArray.ext
  rw [ByteArray.data_extract]
  apply Array.ext'
  rw [strB_size]
  simp only [Array.toList_extract, strB, List.map_drop, List.extract]
  apply List.take_of_length_le
  simp
theorem strB_take (l : List Nat) (v : Nat) : (strB l).extract 0 v = strB (l.take v) := by
  apply ByteArray.ext
  rw [ByteArray.data_extract]
  apply Array.ext'
  simp [strB, List.map_take]
theorem info9 : (Try.prog.info? 9).map (fun i => (i.zero, i.size, i.bytes)) = some (some (.string ⟨#[]⟩), 1, 16) := by kernel_rfl
def szOf : Value → Nat | .string T => T.size | _ => 0
theorem not_empty (T : ByteArray) (h : T.size ≠ 0) : T.toList.isEmpty = false := by
  rw [ByteArray.toList_eq]
  cases e : T.data.toList with
  | nil =>
    exfalso
    apply h
    show T.data.size = 0
    rw [← Array.length_toList, e]
    rfl
  | cons _ _ => rfl
set_option maxRecDepth 100000 in
set_option maxHeartbeats 2000000 in
theorem rsplit_any (l : List Nat) (n : Nat) (hl : l.length = n) (hn : n ≤ 1000000) (hb : ∀ i, l.getD i 0 < 256) (w : World) :
    Calls Try.prog 16 #[.string (strB l)] w (SplPost l w) := by
  obtain ⟨i0, hi, hz0, hz1, hz2⟩ := info_parts info9
  have Hl := Lib.hid hl
  have Hb := Lib.hid hb
  obtain ⟨S, hS⟩ : ∃ S, S = strB l := ⟨_, rfl⟩
  rw [← hS]
  have HS := Lib.hid hS
  clear hl hb hS
  go_enter Try.func16, Try.ntmps16
  go_wp2_with fail
  go_loopw [0, 4] (fun bv ov ws => ∃ (T : ByteArray) (X : Option Addr) (q m cx : Nat) (l2 : List Nat) (xs : List Value), bv = .string T ∧ ov = .slice X m cx ∧ m + q ≤ n ∧ Hid (T.size = q) ∧ Hid (T = strB l2) ∧ Hid (l2.length = q) ∧ Hid (∀ i, l2.getD i 0 < 256) ∧ Hid (ws.ownsRow w.heap.size 9 1 (.slice X m cx) m xs) ∧ Hid (Below w.heap.size w ws) ∧ Hid (spl 0 l = spl m l2)) (fun bv _ _ => szOf bv)
  case atStart => exact ⟨S, none, n, 0, 0, l, [], rfl, rfl, by omega, Lib.hid (by rw [HS.out, strB_size]; exact Hl.out), HS, Hl, Hb, Lib.hid ⟨rfl, .inl ⟨rfl, rfl⟩⟩, Lib.hid (Below.refl _ _), Lib.hid rfl⟩
  case round =>
    obtain ⟨T, X, q, m, cx, l2, xs, rfl, rfl, hmq, hTq, hT, hl2, hb2, hown, hbel, hsp⟩ := hrel
    have hsz := hbel.out.size
    by_cases hq : 0 < q
    · have hl0 : l2.length ≠ 0 := by have := hl2.out; omega
      have hne0 := not_empty T (by have := hTq.out; omega)
      have hv2 := rvar_any l2 q hl2.out (by omega) hb2.out wr
      rw [← hT.out] at hv2
      have Hv2 := Lib.hid hv2
      clear hv2
      go_wp2_with fail
      refine Hv2.out.mono ?_
      rintro e w2 ⟨rfl, rfl⟩
      clear hne0
      by_cases he : (vr l2).2.2 = 0
      · have hu := vr_used he
        have htn := fun h => spl_torn (m := m) hl0 he h
        have hgo := fun h => spl_go (m := m) hl0 he h
        rw [List.length_drop] at htn hgo
        have Htn := Lib.hid htn
        have Hgo := Lib.hid hgo
        rw [he]
        clear Hv2
        generalize (vr l2).2.1 = u at *
        generalize (vr l2).1 = v at *
        have hu2 : u ≤ q := by have := hl2.out; omega
        obtain ⟨T2, hT2⟩ : ∃ T2, T2 = T.extract u T.size := ⟨_, rfl⟩
        have hsl : ∀ W, (Instr.slice 9 (.string T) (some (.int .i64 (u : Int))) none none).run Try.prog W = .ok (.string T2) W := fun W => by
          rw [hT2]; exact sl_from T u W (by rw [hTq.out]; exact hu2)
        have hT2e : T2 = strB (l2.drop u) := by rw [hT2, hT.out, strB_drop]
        obtain ⟨q2, hq2⟩ : ∃ q2, q2 = q - u := ⟨_, rfl⟩
        have hT2q : T2.size = q2 := by rw [hT2e, strB_size, List.length_drop, hl2.out, hq2]
        have HT2 := Lib.hid hT2e
        have hwq : IntKind.u64.wrap (q2 : Int) = (q2 : Int) := IntWalk.u64_in _ (by omega)
        have hq21 : q2 + 1 ≤ q := by omega
        have Hq2 := Lib.hid hq2
        clear he htn hgo hu hT2 hT2e hq2
        by_cases hbig : q2 < v
        · have hres : Hid (spl 0 l = (4, 0)) := Lib.hid (by rw [hsp.out]; exact Htn.out (by rw [hl2.out, ← Hq2.out]; exact hbig))
          go_wp2_with fail
          go_ret2
          exact ⟨none, 0, by rw [hres.out]; rfl, hbel.out⟩
        · have hres : Hid (spl 0 l = spl (m + 1) ((l2.drop u).drop v)) := Lib.hid (by rw [hsp.out]; exact Hgo.out (by rw [hl2.out, ← Hq2.out]; exact hbig))
          have hvq : v ≤ q2 := by omega
          have hwv : IntKind.i64.wrap (v : Int) = (v : Int) := IntWalk.i64_in _ (by omega)
          obtain ⟨T3, hT3⟩ : ∃ T3, T3 = T2.extract 0 v := ⟨_, rfl⟩
          obtain ⟨T4, hT4⟩ : ∃ T4, T4 = T2.extract v T2.size := ⟨_, rfl⟩
          have hsh : ∀ W, (Instr.slice 9 (.string T2) none (some (.int .i64 (v : Int))) none).run Try.prog W = .ok (.string T3) W := fun W => by
            rw [hT3]; exact sl_to T2 v W (by rw [hT2q]; exact hvq)
          have hsl2 : ∀ W, (Instr.slice 9 (.string T2) (some (.int .i64 (v : Int))) none none).run Try.prog W = .ok (.string T4) W := fun W => by
            rw [hT4]; exact sl_from T2 v W (by rw [hT2q]; exact hvq)
          have hT4e : T4 = strB ((l2.drop u).drop v) := by rw [hT4, HT2.out, strB_drop]
          have hl4 : ((l2.drop u).drop v).length = q2 - v := by rw [List.length_drop, List.length_drop, hl2.out, ← Hq2.out]
          have HT4q : Hid (T4.size = q2 - v) := Lib.hid (by rw [hT4e, strB_size, hl4])
          have HT4 := Lib.hid hT4e
          have Hl4 := Lib.hid hl4
          clear hT3 hT4 hT4e hl4
          go_wp2_with (at_builtin; go_loud (refine wpList_append_any _ rfl (.tmp 27) (.tmp 32) 41 rfl w.heap.size 9 i0 (.string ⟨#[]⟩) 1 16 Try.underlying41 hi hz0 hz1 hz2 rfl (by decide) _ m xs rfl (hown.out.alloc _) (wr.heap.size + 1) (some ⟨wr.heap.size, 0, none⟩) 1 _ [.string T3] rfl (one_reads wr 9 (.string T3)) (by intro u hu; rw [List.mem_singleton] at hu; subst hu; rfl) (by unfold maxLen; omega) (by omega) (by simp; omega) ?_; intro v' w7 hown7 hgrow7 hat; obtain ⟨A7, c7, rfl⟩ := own_shape hown7; have HOwn7 := Lib.hid hown7; have HB7 := Lib.hid ((hbel.out.alloc hsz _).grown hgrow7 (by simp; omega) (fun k hk => (hown.out.lt k hk).1)); clear hown7 hat))
          go_wp2_with fail
          go_roundw
          case rel => exact ⟨T4, A7, q2 - v, m + 1, c7, (l2.drop u).drop v, _, rfl, rfl, by omega, HT4q, HT4, Hl4, Lib.hid (drop_lt (drop_lt hb2.out u) v), HOwn7, HB7, hres⟩
          case measure => show T4.size < T.size; have h1 := HT4q.out; have h2 := hTq.out; omega
      · have hres : Hid (spl 0 l = ((vr l2).2.2, 0)) := Lib.hid (by rw [hsp.out]; exact spl_bad hl0 he)
        clear Hv2
        generalize (vr l2).2.2 = e2 at *
        generalize (vr l2).2.1 = u at *
        generalize (vr l2).1 = v at *
        have hne : ((e2 : Int) == 0) = false := by rw [beq_eq_false_iff_ne]; omega
        clear he
        go_wp2_with fail
        go_ret2
        exact ⟨none, 0, by rw [hres.out]; rfl, hbel.out⟩
    · have hl20 : l2 = [] := List.eq_nil_of_length_eq_zero (by have := hl2.out; omega)
      have hres : Hid (spl 0 l = (0, m)) := Lib.hid (by rw [hsp.out, hl20]; rfl)
      have hTn : T = ⟨#[]⟩ := by rw [hT.out, hl20]; rfl
      have hem : ((⟨#[]⟩ : ByteArray).toList == (⟨#[]⟩ : ByteArray).toList) = true := beq_self_eq_true _
      clear hl20
      subst hTn
      go_wp2_with fail
      go_ret2
      exact ⟨X, cx, by rw [hres.out]; rfl, hbel.out⟩
end Go.Proofs.Ytkkdcojgnpmpgaa
