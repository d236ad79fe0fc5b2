/- Plain facts on packed words, bit by bit. -/
import Derived.Test.YtkkdcojgnpmpgaaWordsP
namespace Go.Proofs.Ytkkdcojgnpmpgaa
open Go.RowKit
set_option linter.unusedVariables false

theorem byte_bit (c i : Nat) (hc : c < 256) (hi : 8 ≤ i) : c.testBit i = false := by
  apply Nat.testBit_lt_two_pow
  exact Nat.lt_of_lt_of_le hc (Nat.pow_le_pow_right (n := 2) (i := 8) (by decide) hi)
theorem pkw_bit (l : List Nat) (hb : ∀ i, l.getD i 0 < 256) : ∀ n j i, (pkw l n j).testBit i = (decide (i < 64) && decide (8 * j + i / 8 < n) && (l.getD (8 * j + i / 8) 0).testBit (i % 8)) := by
  intro n
  induction n with
  | zero => intro j i; simp [pkw]
  | succ n ih =>
    intro j i
    by_cases hj : n / 8 = j
    · subst hj
      rw [← pkw_step l hb n, Nat.testBit_or, ih, Nat.mul_comm (l.getD n 0), Nat.testBit_two_pow_mul]
      have hc := hb n
      by_cases h1 : 8 * (n / 8) + i / 8 = n
      · have e1 : i - 8 * (n % 8) = i % 8 := by omega
        have e2 : 8 * (n % 8) ≤ i := by omega
        have e3 : i < 64 := by omega
        rw [h1, e1]
        simp [e2, e3]
      · rcases Nat.lt_or_ge (8 * (n / 8) + i / 8) n with h2 | h2
        · have e2 : ¬ 8 * (n % 8) ≤ i := by omega
          have e4 : 8 * (n / 8) + i / 8 < n + 1 := by omega
          simp [e2, h2, e4]
        · have e5 : ¬ 8 * (n / 8) + i / 8 < n := by omega
          have e6 : ¬ 8 * (n / 8) + i / 8 < n + 1 := by omega
          have e7 : (l.getD n 0).testBit (i - 8 * (n % 8)) = false := byte_bit _ _ hc (by omega)
          rw [e7]
          simp [e5, e6]
    · have e : pkw l (n + 1) j = pkw l n j := by
        conv => lhs; unfold pkw
        rw [if_neg hj]
      rw [e, ih]
      by_cases hi : i < 64
      · have : decide (8 * j + i / 8 < n) = decide (8 * j + i / 8 < n + 1) := by
          rw [decide_eq_decide]
          omega
        rw [this]
      · simp [hi]
/-- The byte at its place. -/
theorem pkw_byte (l : List Nat) (hb : ∀ i, l.getD i 0 < 256) (n j s : Nat) (hs : s < 8) (hn : 8 * j + s < n) : pkw l n j / 2 ^ (8 * s) % 256 = l.getD (8 * j + s) 0 := by
  apply Nat.eq_of_testBit_eq
  intro i
  rw [show (256 : Nat) = 2 ^ 8 from by decide, Nat.testBit_mod_two_pow, ← Nat.shiftRight_eq_div_pow, Nat.testBit_shiftRight, pkw_bit l hb]
  by_cases hi : i < 8
  · have e1 : (8 * s + i) / 8 = s := by omega
    have e2 : (8 * s + i) % 8 = i := by omega
    have e3 : 8 * s + i < 64 := by omega
    rw [e1, e2]
    simp [hi, e3, hn]
  · rw [byte_bit _ i (hb _) (by omega)]
    simp [hi]
/-- Bytes behind the end are nought. -/
theorem pkw_byte_end (l : List Nat) (hb : ∀ i, l.getD i 0 < 256) (n j s : Nat) (hs : s < 8) (hn : n ≤ 8 * j + s) : pkw l n j / 2 ^ (8 * s) % 256 = 0 := by
  apply Nat.eq_of_testBit_eq
  intro i
  rw [show (256 : Nat) = 2 ^ 8 from by decide, Nat.testBit_mod_two_pow, ← Nat.shiftRight_eq_div_pow, Nat.testBit_shiftRight, pkw_bit l hb]
  by_cases hi : i < 8
  · have e1 : (8 * s + i) / 8 = s := by omega
    have e4 : ¬ 8 * j + s < n := by omega
    rw [e1]
    simp [e4]
  · simp [hi]
theorem getD_set (l : List Nat) (k v i : Nat) (hk : k < l.length) : (l.set k v).getD i 0 = if i = k then v else l.getD i 0 := by
  by_cases h : i = k
  · subst h; simp [List.getD, hk]
  · have h' : k ≠ i := fun e => h e.symm
    simp [List.getD, h, h']
theorem pkw_xor (l : List Nat) (hb : ∀ i, l.getD i 0 < 256) (k y : Nat) (hk : k < l.length) (hy : y < 256) (j : Nat) :
    pkw (l.set k (l.getD k 0 ^^^ y)) l.length j = if j = k / 8 then pkw l l.length j ^^^ (y * 2 ^ (8 * (k % 8))) else pkw l l.length j := by
  have hx : l.getD k 0 ^^^ y < 256 := by
    have := Nat.xor_lt_two_pow (n := 8) (hb k) hy
    exact this
  have hb' : ∀ i, (l.set k (l.getD k 0 ^^^ y)).getD i 0 < 256 := by
    intro i
    rw [getD_set _ _ _ _ hk]
    split
    · exact hx
    · exact hb i
  apply Nat.eq_of_testBit_eq
  intro i
  rw [pkw_bit _ hb', getD_set _ _ _ _ hk]
  by_cases hj : j = k / 8
  · rw [if_pos hj, Nat.testBit_xor, pkw_bit l hb, Nat.mul_comm y, Nat.testBit_two_pow_mul]
    by_cases h1 : 8 * j + i / 8 = k
    · have e1 : i - 8 * (k % 8) = i % 8 := by omega
      have e2 : 8 * (k % 8) ≤ i := by omega
      rw [if_pos h1, h1, e1, Nat.testBit_xor]
      by_cases hi : i < 64
      · simp [hi, e2, hk]
      · exfalso; omega
    · rw [if_neg h1]
      by_cases e2 : 8 * (k % 8) ≤ i
      · have e7 : y.testBit (i - 8 * (k % 8)) = false := by
          apply byte_bit _ _ hy
          omega
        rw [e7]; simp
      · simp [e2]
  · rw [if_neg hj, pkw_bit l hb]
    by_cases h1 : 8 * j + i / 8 = k
    · have : ¬ i < 64 := by omega
      simp [this]
    · rw [if_neg h1]
end Go.Proofs.Ytkkdcojgnpmpgaa
