/- The walk of words.Split, as far as the number of parts goes. -/
import Derived.Test.YtkkdcojgnpmpgaaWordsI
import Derived.WalkLawsBesides
import Derived.WalkSpells
import Derived.Lib.BufferMore
namespace Go.Proofs.Ytkkdcojgnpmpgaa
open Go.RowKit
set_option linter.unusedVariables false
theorem own_shape {w : World} {B : Nat} {e : TypeId} {v : Value} {n : Nat} {xs : List Value} (h : w.ownsRow B e 1 v n xs) : ∃ A c, v = .slice A n c := by
  rcases h.2 with ⟨rfl, rfl⟩ | ⟨g, cap, cur, rfl, _⟩
  · exact ⟨none, 0, rfl⟩
  · exact ⟨_, cap, rfl⟩
def ClPost (n : Nat) (l : List Nat) (B : Nat) (w : World) (e : Ending) (w' : World) : Prop :=
  ∃ A c, e = .returned (.slice A n c) ∧ w'.ownsRow B 5 1 (.slice A n c) n (Ints .u8 l) ∧ Below w.heap.size w w'
set_option maxRecDepth 100000 in
set_option maxHeartbeats 1000000 in
theorem clone_any (A : Option Addr) (n cap : Nat) (l : List Nat) (B : Nat) (w : World) (hn : n ≤ 10000000) (hB : B ≤ w.heap.size) (hr : Reads w w.heap.size 1 A n (Ints .u8 l)) :
    Calls Try.prog 22 #[.slice A n cap] w (ClPost n l B w) := by
  obtain ⟨i0, hi, hz0, hz1, hz2⟩ := info_parts info5
  have hl : l.length = n := by have := hr.1; rw [Ints_length] at this; omega
  rcases A with _ | ad
  · have h0 : n = 0 := by
      rcases Nat.eq_zero_or_pos n with h0 | h0
      · exact h0
      · obtain ⟨ad, e, _⟩ := hr.2 h0; cases e
    subst h0
    have hl0 := List.eq_nil_of_length_eq_zero hl
    subst hl0
    have hq : ∀ W : World, (binOp .eql 22 (.slice none 0 cap) (.slice none 0 0)).run Try.prog W = .ok (.bool true) W := fun W => Lib.run_eql_slice_nil_nil W 0 cap Try.underlying22
    go_enter Try.func22, Try.ntmps22
    go_wp2_with fail
    go_ret
    exact ⟨none, 0, rfl, ⟨rfl, .inl ⟨rfl, rfl⟩⟩, Below.refl _ _⟩
  · have hq : ∀ W : World, (binOp .eql 22 (.slice (some ad) n cap) (.slice none 0 0)).run Try.prog W = .ok (.bool false) W := fun W => Lib.run_eql_slice_some_nil W ad n cap Try.underlying22
    have hown : (w.alloc (.cells #[] 5)).ownsRow B 5 1 (.slice (some ⟨w.heap.size, 0, none⟩) 0 0) 0 [] :=
      ⟨rfl, .inr ⟨w.heap.size, 0, #[], rfl, hB, Blk.new w 5 #[], Nat.le_refl _, by decide, rfl, rfl⟩⟩
    have hr1 := hr.alloc (Nat.le_refl _) (.cells #[] 5)
    go_enter Try.func22, Try.ntmps22
    go_wp2_with (at_builtin; refine wpList_append_any _ rfl (.tmp 5) (.tmp 6) 22 rfl B 5 i0 (.int .u8 0) 1 1 Try.underlying22 hi hz0 hz1 hz2 rfl (by decide) _ 0 [] rfl hown w.heap.size (some ad) n cap (Ints .u8 l) rfl hr1 (Ints_one _ _) (by unfold maxLen; omega) (by omega) (by simp; omega) ?_; intro v' w1 hown1 hgrow1 hat; obtain ⟨A1, c1, rfl⟩ := own_shape hown1; have Hown := Lib.hid hown1; have Hgrow := Lib.hid hgrow1; clear hown1 hgrow1 hat)
    go_ret
    refine ⟨A1, c1, by simp, ?_, ?_⟩
    · have := Hown.out
      simpa using this
    · exact ((Below.refl _ w).alloc (Nat.le_refl _) _).grown Hgrow.out (by simp) (fun k hk => by cases hk; exact Nat.le_refl _)

theorem own_below {w w' : World} {B e n : Nat} {v : Value} {xs : List Value} (h : w.ownsRow B e 1 v n xs) (hb : Below w.heap.size w w') : w'.ownsRow B e 1 v n xs :=
  h.kept (row := none) ⟨hb.os, hb.tape, hb.output, hb.size, fun q hq _ => hb.block q hq⟩ (by cases hv : v.ownBlock <;> simp)
theorem info37 : (Try.prog.info? 22).map (fun i => (i.zero, i.size, i.bytes)) = some (some (.slice none 0 0), 1, 24) := by kernel_rfl
theorem size5 (W : World) : (sizeOf (Try.prog.elem 22)).run Try.prog W = .ok 1 W := by
  obtain ⟨i0, hi, hz0, hz1, hz2⟩ := info_parts info5
  have e : Try.prog.elem 22 = 5 := by kernel_rfl
  have e2 : Try.prog.cellsOf 5 = 1 := by kernel_rfl
  rw [e, run_sizeOf W hi, e2]
theorem slice_l (k : IntKind) (A : Option Addr) (n c a : Nat) (W : World) (h1 : a ≤ n) : (Instr.slice 22 (.slice A n c) (some (.int k (a : Int))) none none).run Try.prog W = .ok (.slice (if c = a then A else A.map (·.add a)) (n - a) (c - a)) W := by
  have e := run_slice_l (P := Try.prog) W 22 A n c Try.underlying22 k (a : Int) (by omega) (by omega)
  rw [e]
  rw [size5]
  simp [sliced, Result.andThen]
theorem slice_h (k : IntKind) (A : Option Addr) (n c a : Nat) (W : World) (h1 : a ≤ c) : (Instr.slice 22 (.slice A n c) none (some (.int k (a : Int))) none).run Try.prog W = .ok (.slice A a c) W := by
  have e := run_slice_h (P := Try.prog) W 22 A n c Try.underlying22 k (a : Int) (by omega) (by omega)
  rw [e]
  rw [size5]
  have e2 : A.map (fun x : Addr => x.add 0) = A := by
    cases A with
    | none => rfl
    | some a => simp [Addr.add]
  simp [sliced, Result.andThen, e2]
set_option maxHeartbeats 400000 in
theorem clip2_any (A : Option Addr) (n cap : Nat) (hc : n ≤ cap) (hm : cap ≤ maxLen) (w : World) :
    Calls Try.prog 23 #[.slice A n cap] w fun e w' => e = .returned (.slice A n n) ∧ w = w' := by
  unfold maxLen at hm
  go_enter Try.func23, Try.ntmps23
  go_wp2_with fail
  go_ret
  exact ⟨rfl, rfl⟩
def lenOf : Value → Nat | .slice _ n _ => n | _ => 0
theorem one_reads (w : World) (e : TypeId) (v : Value) : Reads (w.alloc (.cells #[v] e)) (w.heap.size + 1) 1 (some ⟨w.heap.size, 0, none⟩) 1 [v] := by
  refine ⟨rfl, fun _ => ⟨_, rfl, by simp, fun j u hu => ?_⟩⟩
  have hj : j = 0 := by have := (List.getElem?_eq_some_iff.1 hu).1; simpa using this
  subst hj
  have h := (Blk.new w e #[v]).cell 0
  exact h.trans hu
def SplPost (l : List Nat) (w : World) (e : Ending) (w' : World) : Prop :=
  ∃ X c, e = .returned (.tuple #[.slice X (spl 0 l).2 c, .int .i64 (((spl 0 l).1 : Nat) : Int)]) ∧ Below w.heap.size w w'
theorem Reads.take_ {w : World} {B n k : Nat} {A : Option Addr} {xs : List Value} (h : Reads w B 1 A n xs) (hk : k ≤ n) : Reads w B 1 A k (xs.take k) := by
  refine ⟨by rw [List.length_take, h.1]; omega, fun hp => ?_⟩
  obtain ⟨ad, e, hb, hc⟩ := h.2 (by omega)
  refine ⟨ad, e, hb, fun j u hu => hc j u ?_⟩
  rw [List.getElem?_take] at hu
  split at hu
  · exact hu
  · cases hu
theorem dropI (l : List Nat) (k : Nat) : (Ints .u8 l).drop k = Ints .u8 (l.drop k) := by simp [Ints]
theorem takeI (l : List Nat) (k : Nat) : (Ints .u8 l).take k = Ints .u8 (l.take k) := by simp [Ints, List.map_take]
theorem drop_lt {l : List Nat} (hb : ∀ i, l.getD i 0 < 256) (k : Nat) : ∀ i, (l.drop k).getD i 0 < 256 := by
  intro i
  have := hb (k + i)
  simpa [List.getD] using this
set_option maxRecDepth 100000 in
set_option maxHeartbeats 2000000 in
theorem split_any (A : Option Addr) (n cap : Nat) (l : List Nat) (hl : l.length = n) (hn : n ≤ 1000000) (hnc : n ≤ cap) (hcm : cap ≤ 9223372036854775807) (hb : ∀ i, l.getD i 0 < 256) (w : World) (hr : Reads w w.heap.size 1 A n (Ints .u8 l)) :
    Calls Try.prog 15 #[.slice A n cap] w (SplPost l w) := by
  obtain ⟨i0, hi, hz0, hz1, hz2⟩ := info_parts info37
  have Hl := Lib.hid hl
  have Hr := Lib.hid hr
  have Hb := Lib.hid hb
  clear hl hr hb
  go_enter Try.func15, Try.ntmps15
  go_wp2_with fail
  go_loopw [0, 4] (fun bv ov ws => ∃ (D X : Option Addr) (q c m cx : Nat) (l2 : List Nat) (xs : List Value), bv = .slice D q c ∧ ov = .slice X m cx ∧ m + q ≤ n ∧ q ≤ c ∧ c ≤ 9223372036854775807 ∧ Hid (l2.length = q) ∧ Hid (∀ i, l2.getD i 0 < 256) ∧ Hid (Reads w w.heap.size 1 D q (Ints .u8 l2)) ∧ Hid (ws.ownsRow w.heap.size 22 1 (.slice X m cx) m xs) ∧ Hid (Below w.heap.size w ws) ∧ Hid (spl 0 l = spl m l2)) (fun bv _ _ => lenOf bv)
  case atStart => exact ⟨A, none, n, cap, 0, 0, l, [], rfl, rfl, by omega, hnc, hcm, Hl, Hb, Hr, Lib.hid ⟨rfl, .inl ⟨rfl, rfl⟩⟩, Lib.hid (Below.refl _ _), Lib.hid rfl⟩
  case round =>
    obtain ⟨D, X, q, c, m, cx, l2, xs, rfl, rfl, hmq, hqc, hc63, hl2, hb2, hr2, hown, hbel, hsp⟩ := hrel
    have hsz := hbel.out.size
    by_cases hq : 0 < q
    · have hl0 : l2.length ≠ 0 := by have := hl2.out; omega
      go_wp2_with fail
      refine (var_any D q c l2 hl2.out (by omega) hb2.out wr ((hr2.out.below hbel.out).more hsz)).mono ?_
      rintro e w2 ⟨rfl, rfl⟩
      by_cases he : (vr l2).2.2 = 0
      · have hu := vr_used he
        have htn := fun h => spl_torn (m := m) hl0 he h
        have hgo := fun h => spl_go (m := m) hl0 he h
        rw [List.length_drop] at htn hgo
        have Htn := Lib.hid htn
        have Hgo := Lib.hid hgo
        rw [he]
        generalize (vr l2).2.1 = u at *
        generalize (vr l2).1 = v at *
        have hu2 : u ≤ q := by have := hl2.out; omega
        obtain ⟨P, hP⟩ : ∃ P, P = if c = u then D else D.map (·.add u) := ⟨_, rfl⟩
        have hsl : ∀ W, (Instr.slice 22 (.slice D q c) (some (.int .i64 (u : Int))) none none).run Try.prog W = .ok (.slice P (q - u) (c - u)) W := by
          intro W
          rw [hP]
          exact slice_l .i64 D q c u W hu2
        have hrP := hr2.out.cut (cap := c) hu2 hqc
        rw [Nat.mul_one, ← hP, dropI] at hrP
        have HrP := Lib.hid hrP
        obtain ⟨q2, hq2⟩ : ∃ q2, q2 = q - u := ⟨_, rfl⟩
        obtain ⟨c2, hc2⟩ : ∃ c2, c2 = c - u := ⟨_, rfl⟩
        have hwq : IntKind.u64.wrap (q2 : Int) = (q2 : Int) := IntWalk.u64_in _ (by omega)
        have hqc2 : q2 ≤ c2 := by omega
        have hq21 : q2 + 1 ≤ q := by omega
        have hc21 : c2 ≤ 9223372036854775807 := by omega
        have Hq2 := Lib.hid hq2
        have Hu1 := Lib.hid hu.1
        rw [← hq2, ← hc2] at hsl
        rw [← hq2] at HrP
        clear he htn hgo hu hrP hP hq2 hc2
        by_cases hbig : q2 < v
        · have hres : Hid (spl 0 l = (4, 0)) := Lib.hid (by rw [hsp.out]; exact Htn.out (by rw [hl2.out, ← Hq2.out]; exact hbig))
          go_wp2_with fail
          go_ret2
          exact ⟨none, 0, by rw [hres.out]; rfl, hbel.out⟩
        · have hres : Hid (spl 0 l = spl (m + 1) ((l2.drop u).drop v)) := Lib.hid (by rw [hsp.out]; exact Hgo.out (by rw [hl2.out, ← Hq2.out]; exact hbig))
          have hvq : v ≤ q2 := by omega
          have hsh : ∀ W, (Instr.slice 22 (.slice P q2 c2) none (some (.int .u64 (v : Int))) none).run Try.prog W = .ok (.slice P v c2) W := fun W => slice_h .u64 P q2 c2 v W (by omega)
          obtain ⟨P2, hP2⟩ : ∃ P2, P2 = if c2 = v then P else P.map (·.add v) := ⟨_, rfl⟩
          have hsl2 : ∀ W, (Instr.slice 22 (.slice P q2 c2) (some (.int .u64 (v : Int))) none none).run Try.prog W = .ok (.slice P2 (q2 - v) (c2 - v)) W := by
            intro W
            rw [hP2]
            exact slice_l .u64 P q2 c2 v W hvq
          have hrP2 := HrP.out.cut (cap := c2) hvq hqc2
          rw [Nat.mul_one, ← hP2, dropI] at hrP2
          have HrP2 := Lib.hid hrP2
          have hrv := HrP.out.take_ hvq
          rw [takeI] at hrv
          have Hrv := Lib.hid ((hrv.below hbel.out).more hsz)
          clear hrP2 hrv hP2
          go_wp2_with fail
          refine (clone_any P v c2 ((l2.drop u).take v) wr.heap.size wr (by omega) (Nat.le_refl _) Hrv.out).mono ?_
          rintro e w3 ⟨A3, c3, rfl, hown3, hb3⟩
          have hcap3 := cons_row hown3
          have Hb3 := Lib.hid (hbel.out.trans (hb3.mono hsz))
          have Hown3 := Lib.hid (own_below hown.out hb3)
          have hsz3 := Hb3.out.size
          clear hown3 hb3
          go_wp2_with fail
          refine (clip_any A3 v c3 hcap3.1 hcap3.2 w3).mono ?_
          rintro e w4 ⟨rfl, rfl⟩
          go_wp2_with (at_builtin; go_loud (refine wpList_append_any _ rfl (.tmp 28) (.tmp 34) 37 rfl w.heap.size 22 i0 (.slice none 0 0) 1 24 Try.underlying37 hi hz0 hz1 hz2 rfl (by decide) _ m xs rfl (Hown3.out.alloc _) (w3.heap.size + 1) (some ⟨w3.heap.size, 0, none⟩) 1 _ [.slice A3 v v] rfl (one_reads w3 22 (.slice A3 v v)) (by intro u hu; rw [List.mem_singleton] at hu; subst hu; rfl) (by unfold maxLen; omega) (by omega) (by simp; omega) ?_; intro v' w7 hown7 hgrow7 hat; obtain ⟨A7, c7, rfl⟩ := own_shape hown7; have HOwn7 := Lib.hid hown7; have HB7 := Lib.hid ((Hb3.out.alloc hsz3 _).grown hgrow7 (by simp; omega) (fun k hk => (Hown3.out.lt k hk).1)); clear hown7 hat))
          have hsz7 := HB7.out.size
          go_wp2_with fail
          go_roundw
          case rel => exact ⟨P2, A7, q2 - v, c2 - v, m + 1, c7, (l2.drop u).drop v, _, rfl, rfl, by omega, by omega, by omega, Lib.hid (by rw [List.length_drop, List.length_drop, hl2.out]; have := Hq2.out; omega), Lib.hid (drop_lt (drop_lt hb2.out u) v), HrP2, HOwn7, HB7, hres⟩
          case measure => simp [lenOf]; omega
      · have hres : Hid (spl 0 l = ((vr l2).2.2, 0)) := Lib.hid (by rw [hsp.out]; exact spl_bad hl0 he)
        generalize (vr l2).2.2 = e2 at *
        generalize (vr l2).2.1 = u at *
        generalize (vr l2).1 = v at *
        have hne : ((e2 : Int) == 0) = false := by rw [beq_eq_false_iff_ne]; omega
        clear he
        go_wp2_with fail
        go_ret2
        exact ⟨none, 0, by rw [hres.out]; rfl, hbel.out⟩
    · have hl20 : l2 = [] := List.eq_nil_of_length_eq_zero (by have := hl2.out; omega)
      have hres : Hid (spl 0 l = (0, m)) := Lib.hid (by rw [hsp.out, hl20]; rfl)
      have hcap := cons_row hown.out
      clear hl20
      go_wp2_with fail
      refine (clip2_any X m cx hcap.1 hcap.2 wr).mono ?_
      rintro e w2 ⟨rfl, rfl⟩
      go_wp2_with fail
      go_ret2
      exact ⟨X, m, by rw [hres.out]; rfl, hbel.out⟩
end Go.Proofs.Ytkkdcojgnpmpgaa
