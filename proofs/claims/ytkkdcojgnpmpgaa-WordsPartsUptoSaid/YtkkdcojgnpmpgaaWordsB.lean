/- The walks of words.Uvar, slices.Clip, awake: what they return. -/
import Derived.Test.YtkkdcojgnpmpgaaWordsA
namespace Go.Proofs.Ytkkdcojgnpmpgaa
open Go.RowKit
set_option linter.unusedVariables false

/-- A number by sevens. -/
def uvl : Nat → Nat → List Nat
  | 0, x => [x % 128]
  | f + 1, x => if x < 128 then [x] else (x % 128 + 128) :: uvl f (x / 128)
def uv (x : Nat) : List Nat := uvl 9 x

set_option maxHeartbeats 400000 in
theorem clip_any (A : Option Addr) (n cap : Nat) (hc : n ≤ cap) (hm : cap ≤ maxLen) (w : World) :
    Calls Try.prog 20 #[.slice A n cap] w fun e w' => e = .returned (.slice A n n) ∧ w = w' := by
  unfold maxLen at hm
  go_enter Try.func20, Try.ntmps20
  go_wp2_with fail
  go_ret
  exact ⟨rfl, rfl⟩

theorem uv_more (y : Nat) : bits .or .u8 ((y : Int) % 256) 128 = ((y % 128 + 128 : Nat) : Int) := by
  have e : ((y : Int) % 256) = ((y % 256 : Nat) : Int) := by omega
  rw [e]
  have h := u8_or_nat (y % 256) 128 (by omega) (by decide)
  have h2 : y % 256 ||| 128 = y % 128 + 128 := by
    have hb : ∀ z : Fin 256, z.val ||| 128 = z.val % 128 + 128 := by decide +kernel
    have := hb ⟨y % 256, Nat.mod_lt _ (by decide)⟩
    simp only at this
    rw [this]
    omega
  rw [h2] at h
  exact h
theorem info5 : (Try.prog.info? 5).map (fun i => (i.zero, i.size, i.bytes)) = some (some (.int .u8 0), 1, 1) := by kernel_rfl
theorem uv_room (y j : Nat) (h : 128 ≤ y) (hy : y < 2 ^ (64 - 7 * j)) : j + 1 ≤ 9 := by
  rcases Nat.lt_or_ge 8 j with hj | hj
  · have : (2 : Nat) ^ (64 - 7 * j) ≤ 2 ^ 1 := Nat.pow_le_pow_right (by decide) (by omega)
    omega
  · omega
theorem uv_less (y j : Nat) (hy : y < 2 ^ (64 - 7 * j)) : y / 128 < 2 ^ (64 - 7 * (j + 1)) := by
  rw [Nat.div_lt_iff_lt_mul (by decide)]
  refine Nat.lt_of_lt_of_le hy ?_
  rw [show (128 : Nat) = 2 ^ 7 from by decide, ← Nat.pow_add]
  exact Nat.pow_le_pow_right (by decide) (by omega)
theorem uv_step (acc : List Nat) (y j : Nat) (h : 128 ≤ y) (hj : j + 1 ≤ 9) : acc ++ uvl (9 - j) y = acc ++ [y % 128 + 128] ++ uvl (9 - (j + 1)) (y / 128) := by
  have e : 9 - j = (9 - (j + 1)) + 1 := by omega
  rw [e]
  conv => lhs; unfold uvl
  rw [if_neg (by omega), List.append_assoc]
  rfl
theorem uv_last (acc : List Nat) (y j : Nat) (h : y < 128) : acc ++ uvl (9 - j) y = acc ++ [y] := by
  cases hf : 9 - j with
  | zero => simp [uvl]; omega
  | succ f => simp [uvl, h]
def UvPost (x : Nat) (w : World) (e : Ending) (w' : World) : Prop :=
  ∃ A, e = .returned (.slice A (uv x).length (uv x).length) ∧ Reads w' w'.heap.size 1 A (uv x).length (Ints .u8 (uv x)) ∧ Below w.heap.size w w'
set_option maxRecDepth 100000 in
set_option maxHeartbeats 1000000 in
theorem uvar_any (x : Nat) (hx : x < 18446744073709551616) (w : World) :
    Calls Try.prog 19 #[.int .u64 (x : Int)] w (UvPost x w) := by
  obtain ⟨i0, hi, hz0, hz1, hz2⟩ := info_parts info5
  have Hx := Lib.hid hx
  clear hx
  go_enter Try.func19, Try.ntmps19
  go_wp2_with fail
  go_loopw [0, 3] (fun v b wr => ∃ (y j cap : Nat) (A : Option Addr) (acc : List Nat), v = .int .u64 (y : Int) ∧ b = .slice A j cap ∧ j ≤ 9 ∧ acc.length = j ∧ y < 2 ^ (64 - 7 * j) ∧ wr.ownsRow w.heap.size 5 1 (.slice A j cap) j (Ints .u8 acc) ∧ Below w.heap.size w wr ∧ Hid (uv x = acc ++ uvl (9 - j) y)) (fun v _ _ => (intOf v).toNat)
  case atStart => exact ⟨x, 0, 0, none, [], rfl, rfl, by omega, rfl, by have := Hx.out; omega, ⟨rfl, .inl ⟨rfl, rfl⟩⟩, Below.refl _ _, Lib.hid (by simp [uv])⟩
  case round =>
    obtain ⟨y, j, cap, A, acc, rfl, rfl, hj, hacc, hy, hown, hbel, huv⟩ := hrel
    have Hy := Lib.hid hy
    clear hy
    by_cases hlt : 128 ≤ y
    · have hE := Lib.hid (uv_more y)
      go_wp2_with (at_builtin; refine wpList_push wr rfl (.tmp 8) (.tmp 12) 22 rfl w.heap.size 5 i0 .u8 1 Try.underlying22 hi hz0 hz1 hz2 A j cap acc rfl hown _ (y % 128 + 128) 1 hE.out rfl (by unfold maxLen; omega) (by omega) hbel.size ?_; intro g cap' w1 hown1 hgrow1 hsz1 hg1 hgB)
      go_roundw
      case rel =>
        refine ⟨y / 128, j + 1, cap', _, acc ++ [y % 128 + 128], by go_num, rfl, ?_, by simp [hacc], ?_, hown1, hbel.grown hgrow1 hbel.size (fun q hq => (hown.lt q hq).1), Lib.hid ?_⟩
        · have := Hy.out; exact uv_room y j hlt this
        · exact uv_less y j Hy.out
        · rw [huv.out]; exact uv_step acc y j hlt (uv_room y j hlt Hy.out)
      case measure => simp [intOf]; omega
    · have hE := Lib.hid (show ((y : Int)) = ((y : Nat) : Int) from rfl)
      go_wp2_with (first | (at_builtin; refine wpList_push wr rfl (.tmp 14) (.tmp 17) 22 rfl w.heap.size 5 i0 .u8 1 Try.underlying22 hi hz0 hz1 hz2 A j cap acc rfl hown _ y 1 hE.out rfl (by unfold maxLen; omega) (by omega) hbel.size ?_; intro g cap' w1 hown1 hgrow1 hsz1 hg1 hgB) | (go_at_call 20; refine (clip_any _ _ _ (cons_row hown1).1 (cons_row hown1).2 _).mono ?_; rintro e w' ⟨rfl, rfl⟩))
      go_ret
      have e : uv x = acc ++ [y] := by rw [huv.out]; exact uv_last acc y j (by omega)
      refine ⟨some ⟨g, 0, none⟩, ?_, ?_, hbel.grown hgrow1 hbel.size (fun q hq => (hown.lt q hq).1)⟩
      · rw [e]; simp [hacc]
      · rw [e]
        have hr := Reads.of_own hown1
        have hl2 : (acc ++ [y]).length = j + 1 := by simp [hacc]
        rw [hl2]
        exact hr
end Go.Proofs.Ytkkdcojgnpmpgaa
