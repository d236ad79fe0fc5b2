/- The walk of FramePieces. -/
import Derived.Test.YtmpiacoddifjiaaFrameN
namespace Go.Proofs.Ytmpiacoddifjiaa
open Go.RowKit
set_option linter.unusedVariables false
theorem new2_any (w : World) : Calls Try.prog 10 #[] w fun e w' => e = .returned (.pointer (some ⟨w.heap.size, 0, none⟩)) ∧ Blk w' w.heap.size 46 #[.slice none 0 0, .int .i64 ((0 : Nat) : Int), .bool false] ∧ Below w.heap.size w w' := by
  go_enter Try.func10, Try.ntmps10
  go_wp2_with fail
  go_ret
  exact ⟨rfl, Blk.new w 46 _, (Below.refl _ _).alloc (Nat.le_refl _) _⟩
theorem Frm.fresh {w : World} {B G : Nat} (hB : B ≤ G) (h : Blk w G 46 #[.slice none 0 0, .int .i64 ((0 : Nat) : Int), .bool false]) : Frm w B G [] 0 false := ⟨hB, none, 0, 0, rfl, h, ⟨rfl, .inl ⟨rfl, rfl⟩⟩⟩
theorem keep.Frm.fresh {w : World} {B G : Nat} (hB : G < B) (h : Blk w G 46 #[.slice none 0 0, .int .i64 ((0 : Nat) : Int), .bool false]) : keep.Frm w B G [] 0 false := ⟨hB, none, 0, 0, rfl, h, ⟨rfl, .inl ⟨rfl, rfl⟩⟩⟩
theorem stn0 (l : List Nat) (b : Bool) : stn l 0 b = 0 := by unfold stn skn; split <;> (try split) <;> simp
/-- What Feed leaves, told by the law of one byte after the other. -/
def FedPost (B G : Nat) (p m : List Nat) (w : World) (e : Ending) (w' : World) : Prop :=
  e = .returned (.tuple #[]) ∧ ∃ X Y, Frm w' B G X 0 Y ∧ X.length ≤ p.length + m.length ∧ (∀ i, X.getD i 0 < 256) ∧
    runE ([], false) (p ++ m) = runE ([], false) p ++ runE ([], Y) X ∧ runS ([], false) (p ++ m) = runS ([], Y) X ∧ Below B w w'
theorem fed_any (B G : Nat) (p m : List Nat) (S : Option Addr) (k sc : Nat) (w : World) (hb : ∀ i, p.getD i 0 < 256) (hbm : ∀ i, m.getD i 0 < 256) (hl : p.length + k ≤ 10000000) (hB : B ≤ w.heap.size)
    (hf : Frm w B G (runS ([], false) p).1 0 (runS ([], false) p).2) (hr : Reads w w.heap.size 1 S k (Ints .u8 m)) :
    Calls Try.prog 11 #[.pointer (some ⟨G, 0, none⟩), .slice S k sc] w (FedPost B G p m w) := by
  have hmk : m.length = k := by have := hr.1; rw [Ints_length] at this; omega
  have hcb : ∀ i, (runS ([], false) p).1.getD i 0 < 256 := runS_lt (by intro i; simp) hb
  have hcl := lenS p ([], false)
  simp only [List.length_nil, Nat.zero_add] at hcl
  refine (feed_any B G _ m 0 _ S k sc w hcb hbm (by omega) (by decide) hB hf hr).mono ?_
  rintro e w' ⟨h1, h2, h3⟩
  rw [stn0] at h2
  obtain ⟨m1, m2⟩ := run_more (ok_start false) p m
  obtain ⟨s1, s2⟩ := run_settle ((runS ([], false) p).1 ++ m) (runS ([], false) p).2
  refine ⟨h1, _, _, h2, ?_, stl_lt (getD_append_lt hcb hbm) _ _, ?_, ?_, h3⟩
  · have := stl_len ((runS ([], false) p).1 ++ m) 0 (runS ([], false) p).2
    rw [List.length_append] at this
    omega
  · rw [m1, s1]
  · rw [m2, s2]
theorem take_more (l : List Nat) (a j : Nat) : l.take (a + j) = l.take a ++ (l.drop a).take j := by rw [List.take_add]
theorem str_same {a b : ByteArray} (h : a = b) : (a.toList == b.toList) = true := by rw [h]; exact beq_self_eq_true _
theorem size5 (W : World) : (sizeOf (Try.prog.elem 26)).run Try.prog W = .ok 1 W := by
  obtain ⟨i0, hi, hz0, hz1, hz2⟩ := info_parts info5
  have e : Try.prog.elem 26 = 5 := by kernel_rfl
  have e2 : Try.prog.cellsOf 5 = 1 := by kernel_rfl
  rw [e, run_sizeOf W hi, e2]
theorem slice_lh (A : Option Addr) (n c a j : Nat) (W : World) (h1 : a + j ≤ c) : (Instr.slice 26 (.slice A n c) (some (.int .i64 (a : Int))) (some (.int .i64 ((a : Int) + (j : Int)))) none).run Try.prog W = .ok (.slice (if c = a then A else A.map (·.add a)) j (c - a)) W := by
  have e := run_slice_lh (P := Try.prog) W 26 A n c Try.underlying26 .i64 .i64 (a : Int) ((a : Int) + (j : Int)) (by omega) (by omega) (by omega)
  rw [e]
  have e2 : ((a : Int) + (j : Int)).toNat = a + j := by omega
  have e3 : a + j - a = j := by omega
  rw [size5]
  simp [sliced, e2, e3, Result.andThen]
theorem slice_l (A : Option Addr) (n c a : Nat) (W : World) (h1 : a ≤ n) : (Instr.slice 26 (.slice A n c) (some (.int .i64 (a : Int))) none none).run Try.prog W = .ok (.slice (if c = a then A else A.map (·.add a)) (n - a) (c - a)) W := by
  have e := run_slice_l (P := Try.prog) W 26 A n c Try.underlying26 .i64 (a : Int) (by omega) (by omega)
  rw [e]
  rw [size5]
  simp [sliced, Result.andThen]
set_option maxRecDepth 100000 in
set_option maxHeartbeats 2000000 in
theorem pieces_big (A C : Option Addr) (n c m d : Nat) (w : World) (h : 3000 < n) (hn : n ≤ 9223372036854775807) :
    Calls Try.prog 4 #[.slice A n c, .slice C m d] w fun e w' => e = .returned (.bool true) ∧ Below w.heap.size w w' := by
  go_enter Try.func4, Try.ntmps4
  go_wp2_with fail
  refine (awake_any _).mono ?_
  rintro e w2 ⟨rfl, hb2⟩
  have Hb2 := Lib.hid hb2
  clear hb2
  go_wp2_with fail
  go_ret
  exact ⟨rfl, Hb2.out⟩
set_option maxRecDepth 100000 in
set_option maxHeartbeats 2000000 in
theorem pieces_any (A C : Option Addr) (n c m d : Nat) (l : List Nat) (zs : List Int) (w : World) (hl : l.length = n) (hn : n ≤ 3000) (hnc : n ≤ c) (hc63 : c ≤ 9223372036854775807) (hb : ∀ i, l.getD i 0 < 256) (hr : Reads w w.heap.size 1 A n (Ints .u8 l))
    (hz : zs.length = m) (hm63 : m ≤ 9223372036854775807) (hrz : Reads w w.heap.size 1 C m (zs.map (Value.int .i64))) :
    Calls Try.prog 4 #[.slice A n c, .slice C m d] w fun e w' => e = .returned (.bool true) ∧ Below w.heap.size w w' := by
  have Hr := Lib.hid hr
  have Hrz := Lib.hid hrz
  have Hb := Lib.hid hb
  have Hl := Lib.hid hl
  clear hr hrz hb hl
  have h3 : ¬ 3000 < n := by omega
  go_enter Try.func4, Try.ntmps4
  go_wp2_with fail
  refine (new2_any w).mono ?_
  rintro e w1 ⟨rfl, hk1, hb1⟩
  have Hk1 := Lib.hid hk1
  have Hb1 := Lib.hid hb1
  clear hk1 hb1
  go_wp2_with fail
  refine (new2_any w1).mono ?_
  rintro e w2 ⟨rfl, hk2, hb2⟩
  have hG1 := Hk1.out.lt
  have hG2 := hk2.lt
  have Hk2 := Lib.hid hk2
  have Hb2 := Lib.hid (Hb1.out.trans (hb2.mono Hb1.out.size))
  have Hf2 := Lib.hid (keep.Frm.fresh (B := w2.heap.size) (by have := hb2.size; omega) (Hk1.out.below hb2 hG1))
  clear hk2 hb2
  go_wp2_with fail
  refine (keep.feed_any w2.heap.size w.heap.size [] l 0 false A n c w2 (by intro i; simp) Hb.out (by simp; omega) (by decide) (Nat.le_refl _) Hf2.out ((Hr.out.below Hb2.out).more Hb2.out.size)).mono ?_
  rintro e w3 ⟨rfl, hf3, hb3⟩
  have e1 : stl ([] ++ l) 0 false = l := by simp [stl, skp]
  rw [e1, stn0] at hf3
  have Hf3 := Lib.hid hf3
  have Hb3 := Lib.hid hb3
  clear hf3 hb3 e1
  go_wp2_with fail
  refine (keep.drain_any w2.heap.size w.heap.size l false w3 Hb.out (by have := Hl.out; omega) Hb3.out.size Hf3.out).mono ?_
  rintro e w4 ⟨rfl, _, hb4⟩
  have Hk4 := Lib.hid (Hb3.out.trans hb4)
  have Hg4 : Hid (Frm w4 w.heap.size w1.heap.size [] 0 false) := Lib.hid (Frm.fresh Hb1.out.size ((Hk4.out.block _ hG2 (by omega)).trans Hk2.out))
  have Hb4 : Hid (Below w.heap.size w w4) := Lib.hid (Hb2.out.trans (Hk4.out.to_below.mono (by have := Hb2.out.size; omega)))
  clear hb4
  obtain ⟨V, hV⟩ : ∃ V, V = strB (render (runE ([], false) l)) := ⟨_, rfl⟩
  rw [← hV]
  have HV := Lib.hid hV
  clear hV
  go_wp2_with fail
  go_loopw [8, 9, 10] (fun s at_ i ws => ∃ (k a : Nat) (T : ByteArray), i = .int .i64 k ∧ at_ = .int .i64 a ∧ s = .string T ∧ a ≤ n ∧ k ≤ m ∧ Hid (T = strB (render (runE ([], false) (l.take a)))) ∧ Hid (Frm ws w.heap.size w1.heap.size (runS ([], false) (l.take a)).1 0 (runS ([], false) (l.take a)).2) ∧ Hid (Below w.heap.size w ws)) (fun _ _ i _ => m - (intOf i).toNat)
  case atStart => exact ⟨0, 0, _, rfl, rfl, rfl, by omega, by omega, Lib.hid rfl, Hg4, Hb4⟩
  case round =>
    obtain ⟨k, a, T, rfl, rfl, rfl, ha, hkm, hT, hF, hbel⟩ := hrel
    have hTs : T.size ≤ 18000 := by
      have h1 := render_len (l.take a) ([], false)
      rw [hT.out, strB_size]
      simp at h1
      omega
    have hBr := hbel.out.size
    by_cases hgo : k < m ∧ k < 60
    · obtain ⟨hk1, hk2⟩ := hgo
      have hz2 := Hrz.out.below hbel.out
      obtain ⟨ad, u, hA, _, hu, hcell⟩ := hz2.at_ hk1
      subst hA
      rw [List.getElem?_map, List.getElem?_eq_getElem (by omega), Option.map_some, Option.some.injEq] at hu
      subst hu
      generalize zs[k]'(by omega) = z at *
      obtain ⟨N, hN, hmask⟩ := mask z 63 (by decide)
      have hmk : bits .and .i64 z 63 = (N : Int) := hmask
      clear hmask hz2
      obtain ⟨j, hj⟩ : ∃ j, j = min N (n - a) := ⟨_, rfl⟩
      have hmin : min (N : Int) ((n : Int) - (a : Int)) = (j : Int) := by omega
      have hjn : j ≤ n - a := by omega
      have hja : a + j ≤ n := by omega
      obtain ⟨P, hP⟩ : ∃ P, P = if c = a then A else A.map (·.add a) := ⟨_, rfl⟩
      have hsl := fun W => slice_lh A n c a j W (by omega)
      have hpr := (Hr.out.below hbel.out).cut (cap := c) ha hnc
      rw [Nat.mul_one, ← hP] at hpr
      rw [← hP] at hsl
      have e1 : (Ints .u8 l).drop a = Ints .u8 (l.drop a) := by simp [Ints]
      rw [e1] at hpr
      have hpr2 := hpr.take_ (k := j) (by omega)
      rw [Ints_take] at hpr2
      have hlt : (l.take a).length = a := by rw [List.length_take]; have := Hl.out; omega
      have Hlt := Lib.hid hlt
      have hm2 : Hid (((l.drop a).take j).length = j) := Lib.hid (by rw [List.length_take, List.length_drop]; have := Hl.out; omega)
      have Hpr := Lib.hid (hpr2.more hBr)
      clear hpr e1 hlt hj hP hpr2
      go_wp2_with fail
      refine (fed_any w.heap.size w1.heap.size (l.take a) ((l.drop a).take j) P j _ wr (take_lt Hb.out a) (take_lt (drop_lt Hb.out a) _) (by have := Hlt.out; omega) hBr hF.out Hpr.out).mono ?_
      rintro e w5 ⟨rfl, X, Y, hf5, hx, hxb, hE, hS, hb5⟩
      rw [← take_more] at hE hS
      have Hf5 := Lib.hid hf5
      have Hb5 := Lib.hid (hbel.out.trans hb5)
      have HE := Lib.hid hE
      have HS := Lib.hid hS
      have Hxb := Lib.hid hxb
      have Hxl : X.length ≤ 3000 := by have := Hlt.out; have := hm2.out; omega
      clear hf5 hb5 hE hS hxb hx
      go_wp2_with fail
      refine (drain_any w.heap.size w1.heap.size X Y w5 Hxb.out (by omega) Hb5.out.size Hf5.out).mono ?_
      rintro e w6 ⟨rfl, hf6, hb6⟩
      have Hf6 := Lib.hid hf6
      have Hb6 := Lib.hid (Hb5.out.trans hb6)
      clear hf6 hb6
      obtain ⟨D, hD⟩ : ∃ D, D = strB (render (runE ([], Y) X)) := ⟨_, rfl⟩
      rw [← hD]
      have hDs : D.size ≤ 18000 := by
        have h1 := render_len X ([], Y)
        rw [hD, strB_size]
        simp at h1
        omega
      have HD := Lib.hid hD
      clear hD
      go_wp2_with fail
      go_roundw
      case rel =>
        refine ⟨k + 1, _, _, by go_num, by go_num, rfl, by omega, by omega, Lib.hid ?_, Lib.hid ?_, Hb6⟩
        · rw [hT.out, HD.out, strB_append, HE.out, render_append]
        · rw [HS.out]; exact Hf6.out
      case measure => simp [intOf]; omega
    · obtain ⟨P, hP⟩ : ∃ P, P = if c = a then A else A.map (·.add a) := ⟨_, rfl⟩
      have hsl := fun W => slice_l A n c a W ha
      have hpr := (Hr.out.below hbel.out).cut (cap := c) ha hnc
      rw [Nat.mul_one, ← hP] at hpr
      rw [← hP] at hsl
      have e1 : (Ints .u8 l).drop a = Ints .u8 (l.drop a) := by simp [Ints]
      rw [e1] at hpr
      have hlt : (l.take a).length = a := by rw [List.length_take]; have := Hl.out; omega
      have Hlt := Lib.hid hlt
      have hm2 : Hid ((l.drop a).length = n - a) := Lib.hid (by rw [List.length_drop]; have := Hl.out; omega)
      have Hpr := Lib.hid (hpr.more hBr)
      clear e1 hlt hP hpr
      by_cases hkm2 : k < m
      all_goals (
        first | (have hk60 : ¬ k < 60 := fun h => hgo ⟨hkm2, h⟩) | skip
        go_wp2_with fail
        refine (fed_any w.heap.size w1.heap.size (l.take a) (l.drop a) P (n - a) _ wr (take_lt Hb.out a) (drop_lt Hb.out a) (by have := Hlt.out; omega) hBr hF.out Hpr.out).mono ?_
        rintro e w5 ⟨rfl, X, Y, hf5, hx, hxb, hE, hS, hb5⟩
        rw [List.take_append_drop] at hE hS
        have Hf5 := Lib.hid hf5
        have Hb5 := Lib.hid (hbel.out.trans hb5)
        have HE := Lib.hid hE
        have Hxb := Lib.hid hxb
        have Hxl : X.length ≤ 3000 := by have := Hlt.out; have := hm2.out; omega
        clear hf5 hb5 hE hS hxb hx
        go_wp2_with fail
        refine (drain_any w.heap.size w1.heap.size X Y w5 Hxb.out (by omega) Hb5.out.size Hf5.out).mono ?_
        rintro e w6 ⟨rfl, hf6, hb6⟩
        have Hb6 := Lib.hid (Hb5.out.trans hb6)
        clear hf6 hb6
        obtain ⟨D, hD⟩ : ∃ D, D = strB (render (runE ([], Y) X)) := ⟨_, rfl⟩
        rw [← hD]
        have hDs : D.size ≤ 18000 := by
          have h1 := render_len X ([], Y)
          rw [hD, strB_size]
          simp at h1
          omega
        have hq : ((T ++ D).toList == V.toList) = true := str_same (by rw [hT.out, hD, strB_append, ← render_append, ← HE.out, HV.out])
        clear hD
        go_wp2_with fail
        refine (awake_any _).mono ?_
        rintro e w7 ⟨rfl, hb7⟩
        have Hb7 := Lib.hid (Hb6.out.trans (hb7.mono Hb6.out.size))
        clear hb7
        go_wp2_with fail
        go_ret
        exact ⟨rfl, Hb7.out⟩)
end Go.Proofs.Ytmpiacoddifjiaa
