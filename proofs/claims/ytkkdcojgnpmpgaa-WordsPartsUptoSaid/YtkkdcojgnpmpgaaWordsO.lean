/- The walk of words.Split, the parts' contents with it. -/
import Derived.Test.YtkkdcojgnpmpgaaWordsN
namespace Go.Proofs.Ytkkdcojgnpmpgaa
open Go.RowKit
set_option linter.unusedVariables false
theorem take_lt {l : List Nat} (hb : ∀ i, l.getD i 0 < 256) (k : Nat) : ∀ i, (l.take k).getD i 0 < 256 := by
  intro i
  have := hb i
  simp only [List.getD, List.getElem?_take] at *
  split
  · exact this
  · simp
def SlPost (l : List Nat) (w : World) (e : Ending) (w' : World) : Prop :=
  ∃ X c xs, e = .returned (.tuple #[.slice X (sl [] l).2.length c, .int .i64 (((sl [] l).1 : Nat) : Int)]) ∧ Reads w' w'.heap.size 1 X (sl [] l).2.length xs ∧ PR w' xs (sl [] l).2 ∧ Below w.heap.size w w'
set_option maxRecDepth 100000 in
set_option maxHeartbeats 2000000 in
theorem splitc_any (A : Option Addr) (n cap : Nat) (l : List Nat) (hl : l.length = n) (hn : n ≤ 1000000) (hnc : n ≤ cap) (hcm : cap ≤ 9223372036854775807) (hb : ∀ i, l.getD i 0 < 256) (w : World) (hr : Reads w w.heap.size 1 A n (Ints .u8 l)) :
    Calls Try.prog 15 #[.slice A n cap] w (SlPost l w) := by
  obtain ⟨i0, hi, hz0, hz1, hz2⟩ := info_parts info37
  have Hl := Lib.hid hl
  have Hr := Lib.hid hr
  have Hb := Lib.hid hb
  clear hl hr hb
  go_enter Try.func15, Try.ntmps15
  go_wp2_with fail
  go_loopw [0, 4] (fun bv ov ws => ∃ (D X : Option Addr) (q c m cx : Nat) (l2 : List Nat) (xs : List Value) (acc : List (List Nat)), bv = .slice D q c ∧ ov = .slice X m cx ∧ m + q ≤ n ∧ q ≤ c ∧ c ≤ 9223372036854775807 ∧ Hid (l2.length = q) ∧ Hid (∀ i, l2.getD i 0 < 256) ∧ Hid (Reads w w.heap.size 1 D q (Ints .u8 l2)) ∧ Hid (ws.ownsRow w.heap.size 22 1 (.slice X m cx) m xs) ∧ Hid (Below w.heap.size w ws) ∧ Hid (m = acc.length) ∧ Hid (PR ws xs acc) ∧ Hid (sl [] l = sl acc l2)) (fun bv _ _ => lenOf bv)
  case atStart => exact ⟨A, none, n, cap, 0, 0, l, [], [], rfl, rfl, by omega, hnc, hcm, Hl, Hb, Hr, Lib.hid ⟨rfl, .inl ⟨rfl, rfl⟩⟩, Lib.hid (Below.refl _ _), Lib.hid rfl, Lib.hid ⟨rfl, fun i p h => by simp at h⟩, Lib.hid rfl⟩
  case round =>
    obtain ⟨D, X, q, c, m, cx, l2, xs, acc, rfl, rfl, hmq, hqc, hc63, hl2, hb2, hr2, hown, hbel, hma, hpr, hsp⟩ := hrel
    have hsz := hbel.out.size
    by_cases hq : 0 < q
    · have hl0 : l2.length ≠ 0 := by have := hl2.out; omega
      go_wp2_with fail
      refine (var_any D q c l2 hl2.out (by omega) hb2.out wr ((hr2.out.below hbel.out).more hsz)).mono ?_
      rintro e w2 ⟨rfl, rfl⟩
      by_cases he : (vr l2).2.2 = 0
      · have hu := vr_used he
        have htn := fun h => sl_torn (acc := acc) hl0 he h
        have hgo := fun h => sl_go (acc := acc) hl0 he h
        rw [List.length_drop] at htn hgo
        have Htn := Lib.hid htn
        have Hgo := Lib.hid hgo
        rw [he]
        generalize (vr l2).2.1 = u at *
        generalize (vr l2).1 = v at *
        have hu2 : u ≤ q := by have := hl2.out; omega
        obtain ⟨P, hP⟩ : ∃ P, P = if c = u then D else D.map (·.add u) := ⟨_, rfl⟩
        have hsl : ∀ W, (Instr.slice 22 (.slice D q c) (some (.int .i64 (u : Int))) none none).run Try.prog W = .ok (.slice P (q - u) (c - u)) W := by
          intro W
          rw [hP]
          exact slice_l .i64 D q c u W hu2
        have hrP := hr2.out.cut (cap := c) hu2 hqc
        rw [Nat.mul_one, ← hP, dropI] at hrP
        have HrP := Lib.hid hrP
        obtain ⟨q2, hq2⟩ : ∃ q2, q2 = q - u := ⟨_, rfl⟩
        obtain ⟨c2, hc2⟩ : ∃ c2, c2 = c - u := ⟨_, rfl⟩
        have hwq : IntKind.u64.wrap (q2 : Int) = (q2 : Int) := IntWalk.u64_in _ (by omega)
        have hqc2 : q2 ≤ c2 := by omega
        have hq21 : q2 + 1 ≤ q := by omega
        have hc21 : c2 ≤ 9223372036854775807 := by omega
        have Hq2 := Lib.hid hq2
        have Hu1 := Lib.hid hu.1
        rw [← hq2, ← hc2] at hsl
        rw [← hq2] at HrP
        clear he htn hgo hu hrP hP hq2 hc2
        by_cases hbig : q2 < v
        · have hres : Hid (sl [] l = (4, [])) := Lib.hid (by rw [hsp.out]; exact Htn.out (by rw [hl2.out, ← Hq2.out]; exact hbig))
          go_wp2_with fail
          go_ret2
          exact ⟨none, 0, [], by rw [hres.out]; rfl, by rw [hres.out]; exact Reads.none_, by rw [hres.out]; exact ⟨rfl, fun i p h => by simp at h⟩, hbel.out⟩
        · have hres : Hid (sl [] l = sl (acc ++ [(l2.drop u).take v]) ((l2.drop u).drop v)) := Lib.hid (by rw [hsp.out]; exact Hgo.out (by rw [hl2.out, ← Hq2.out]; exact hbig))
          have hvq : v ≤ q2 := by omega
          have hsh : ∀ W, (Instr.slice 22 (.slice P q2 c2) none (some (.int .u64 (v : Int))) none).run Try.prog W = .ok (.slice P v c2) W := fun W => slice_h .u64 P q2 c2 v W (by omega)
          obtain ⟨P2, hP2⟩ : ∃ P2, P2 = if c2 = v then P else P.map (·.add v) := ⟨_, rfl⟩
          have hsl2 : ∀ W, (Instr.slice 22 (.slice P q2 c2) (some (.int .u64 (v : Int))) none none).run Try.prog W = .ok (.slice P2 (q2 - v) (c2 - v)) W := by
            intro W
            rw [hP2]
            exact slice_l .u64 P q2 c2 v W hvq
          have hrP2 := HrP.out.cut (cap := c2) hvq hqc2
          rw [Nat.mul_one, ← hP2, dropI] at hrP2
          have HrP2 := Lib.hid hrP2
          have hrv := HrP.out.take_ hvq
          rw [takeI] at hrv
          have Hrv := Lib.hid ((hrv.below hbel.out).more hsz)
          clear hrP2 hrv hP2
          go_wp2_with fail
          refine (clone_any P v c2 ((l2.drop u).take v) wr.heap.size wr (by omega) (Nat.le_refl _) Hrv.out).mono ?_
          rintro e w3 ⟨A3, c3, rfl, hown3, hb3⟩
          have hcap3 := cons_row hown3
          have Hb3 := Lib.hid (hbel.out.trans (hb3.mono hsz))
          have Hown3 := Lib.hid (own_below hown.out hb3)
          have hlv : Hid (((l2.drop u).take v).length = v) := Lib.hid (by rw [List.length_take, List.length_drop, hl2.out, ← Hq2.out]; omega)
          have Hpart := Lib.hid (own_part hlv.out (take_lt (drop_lt hb2.out u) v) hown3)
          have Hpr3 := Lib.hid (hpr.out.below hb3)
          have hsz3 := Hb3.out.size
          clear hown3 hb3
          go_wp2_with fail
          refine (clip_any A3 v c3 hcap3.1 hcap3.2 w3).mono ?_
          rintro e w4 ⟨rfl, rfl⟩
          go_wp2_with (at_builtin; go_loud (refine wpList_append_any _ rfl (.tmp 28) (.tmp 34) 37 rfl w.heap.size 22 i0 (.slice none 0 0) 1 24 Try.underlying37 hi hz0 hz1 hz2 rfl (by decide) _ m xs rfl (Hown3.out.alloc _) (w3.heap.size + 1) (some ⟨w3.heap.size, 0, none⟩) 1 _ [.slice A3 v v] rfl (one_reads w3 22 (.slice A3 v v)) (by intro u hu; rw [List.mem_singleton] at hu; subst hu; rfl) (by unfold maxLen; omega) (by omega) (by simp; omega) ?_; intro v' w7 hown7 hgrow7 hat; obtain ⟨A7, c7, rfl⟩ := own_shape hown7; have HOwn7 := Lib.hid hown7; have HP7 := Lib.hid (((Hpr3.out.below ((Below.refl _ _).alloc (Nat.le_refl _) _)).push (c := v) (Hpart.out.below ((Below.refl _ _).alloc (Nat.le_refl _) (.cells #[.slice A3 v v] 22)))).grown hgrow7 (fun g hg => own_type (Hown3.out.alloc _) hg)); have HB7 := Lib.hid ((Hb3.out.alloc hsz3 _).grown hgrow7 (by simp; omega) (fun k hk => (Hown3.out.lt k hk).1)); clear hown7 hat))
          have hsz7 := HB7.out.size
          go_wp2_with fail
          go_roundw
          case rel => exact ⟨P2, A7, q2 - v, c2 - v, m + 1, c7, (l2.drop u).drop v, _, acc ++ [(l2.drop u).take v], rfl, rfl, by omega, by omega, by omega, Lib.hid (by rw [List.length_drop, List.length_drop, hl2.out]; have := Hq2.out; omega), Lib.hid (drop_lt (drop_lt hb2.out u) v), HrP2, HOwn7, HB7, Lib.hid (by rw [List.length_append, ← hma.out]; rfl), (by have := HP7; rw [hlv.out] at this; exact this), hres⟩
          case measure => simp [lenOf]; omega
      · have hres : Hid (sl [] l = ((vr l2).2.2, [])) := Lib.hid (by rw [hsp.out]; exact sl_bad hl0 he)
        generalize (vr l2).2.2 = e2 at *
        generalize (vr l2).2.1 = u at *
        generalize (vr l2).1 = v at *
        have hne : ((e2 : Int) == 0) = false := by rw [beq_eq_false_iff_ne]; omega
        clear he
        go_wp2_with fail
        go_ret2
        exact ⟨none, 0, [], by rw [hres.out]; rfl, by rw [hres.out]; exact Reads.none_, by rw [hres.out]; exact ⟨rfl, fun i p h => by simp at h⟩, hbel.out⟩
    · have hl20 : l2 = [] := List.eq_nil_of_length_eq_zero (by have := hl2.out; omega)
      have hres : Hid (sl [] l = (0, acc)) := Lib.hid (by rw [hsp.out, hl20]; rfl)
      have hcap := cons_row hown.out
      clear hl20
      go_wp2_with fail
      refine (clip2_any X m cx hcap.1 hcap.2 wr).mono ?_
      rintro e w2 ⟨rfl, rfl⟩
      go_wp2_with fail
      go_ret2
      exact ⟨X, m, xs, by rw [hres.out, hma.out]; rfl, by rw [hres.out]; have := Reads.of_own hown.out; rw [hma.out] at this; exact this, by rw [hres.out]; exact hpr.out, hbel.out⟩
end Go.Proofs.Ytkkdcojgnpmpgaa
