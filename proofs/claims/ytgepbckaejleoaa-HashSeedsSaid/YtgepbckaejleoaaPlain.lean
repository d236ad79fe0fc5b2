/- Plain facts on words of 64 bits: mixing and FNV steps, and that each can be turned back. -/
import Derived.Laws.Bits64
import Derived.Laws.Bits64b
namespace Go.Proofs.Ytgepbckaejleoaa

def two64 : Nat := 18446744073709551616
def oddN : Nat := 15485907386658061715
def primeN : Nat := 1099511628211
def beginN : Nat := 14695981039346656037
def xs (x : Nat) : Nat := x ^^^ x / 4294967296
def ms (x : Nat) : Nat := (x ^^^ x / 4294967296) * oddN % two64
def msN : Nat → Nat → Nat
  | 0, x => x
  | k + 1, x => ms (msN k x)
def mix (x : Nat) : Nat := xs (msN 2 x)
def fnv (h b : Nat) : Nat := (h ^^^ b) * primeN % two64
def seedByte (s k : Nat) : Nat := s / 2 ^ (8 * k) % 256
def seedH (s : Nat) : Nat → Nat
  | 0 => beginN
  | k + 1 => fnv (seedH s k) (seedByte s k)
def keyH (h : Nat) (l : List UInt8) : Nat := l.foldl (fun h c => fnv h c.toNat) h
def ofN (s : Nat) (l : List UInt8) : Nat := mix (keyH (seedH s 8) l)

theorem ms_lt (x : Nat) : ms x < two64 := Nat.mod_lt _ (by decide)
theorem fnv_lt (h b : Nat) : fnv h b < two64 := Nat.mod_lt _ (by decide)
theorem msN_lt (k x : Nat) (h : x < two64) : msN k x < two64 := by
  cases k
  · exact h
  · exact ms_lt _
theorem seedH_lt (s k : Nat) : seedH s k < two64 := by
  cases k
  · show beginN < two64
    decide
  · exact fnv_lt _ _
theorem keyH_lt (h : Nat) (l : List UInt8) (hh : h < two64) : keyH h l < two64 := by
  unfold keyH
  induction l generalizing h with
  | nil => exact hh
  | cons c l ih => rw [List.foldl_cons]; exact ih _ (fnv_lt _ _)
theorem keyH_snoc (h : Nat) (l : List UInt8) (c : UInt8) : keyH h (l ++ [c]) = fnv (keyH h l) c.toNat := by
  unfold keyH; rw [List.foldl_append, List.foldl_cons, List.foldl_nil]
theorem xs_lt (x : Nat) (h : x < two64) : xs x < two64 := by
  unfold xs
  have : two64 = 2 ^ 64 := by decide
  rw [this] at h ⊢
  exact Nat.xor_lt_two_pow h (Nat.lt_of_le_of_lt (Nat.div_le_self _ _) h)
theorem mix_lt (x : Nat) (h : x < two64) : mix x < two64 := xs_lt _ (msN_lt 2 x h)

theorem xs_xs (x : Nat) (h : x < two64) : xs (xs x) = x := by
  unfold xs
  have e : (4294967296 : Nat) = 2 ^ 32 := by decide
  rw [e, ← Nat.shiftRight_eq_div_pow, ← Nat.shiftRight_eq_div_pow]
  apply Nat.eq_of_testBit_eq
  intro i
  simp only [Nat.testBit_xor, Nat.testBit_shiftRight]
  have h0 : x.testBit (32 + (32 + i)) = false := by
    apply Nat.testBit_lt_two_pow
    have : two64 = 2 ^ 64 := by decide
    rw [this] at h
    exact Nat.lt_of_lt_of_le h (Nat.pow_le_pow_right (by decide) (by omega))
  rw [h0]
  cases x.testBit i <;> cases x.testBit (32 + i) <;> rfl

theorem mul_back (a b x : Nat) (hab : a * b % two64 = 1) (h : x < two64) : x * a % two64 * b % two64 = x := by
  rw [Nat.mod_mul_mod, Nat.mul_assoc, Nat.mul_mod, hab, Nat.mul_one, Nat.mod_mod, Nat.mod_eq_of_lt h]

def newt : Nat → Nat
  | 0 => oddN
  | k + 1 => newt k * ((2 + (two64 - oddN * newt k % two64)) % two64) % two64
def invN : Nat := newt 6
theorem inv_ok : oddN * invN % two64 = 1 := by decide +kernel
theorem newt_lt (k : Nat) : newt k < two64 := by
  cases k
  · show oddN < two64
    decide
  · exact Nat.mod_lt _ (by decide)
def primeInv : Nat := 14886173955864302971
theorem prime_ok : primeN * primeInv % two64 = 1 := by decide +kernel

theorem ms_back (x : Nat) (h : x < two64) : ms x * invN % two64 = xs x := by
  have := mul_back oddN invN (xs x) inv_ok (xs_lt x h)
  exact this
theorem mix_back (x : Nat) (h : x < two64) : xs (xs (xs (mix x) * invN % two64) * invN % two64) = x := by
  unfold mix
  rw [xs_xs _ (msN_lt 2 x h)]
  show xs (xs (ms (ms x) * invN % two64) * invN % two64) = x
  rw [ms_back _ (ms_lt x), xs_xs _ (ms_lt x), ms_back _ h, xs_xs _ h]
theorem mix_inj (a b : Nat) (ha : a < two64) (hb : b < two64) : mix a = mix b ↔ a = b :=
  ⟨fun h => by rw [← mix_back a ha, ← mix_back b hb, h], fun h => by rw [h]⟩
theorem xor_cancel (a b : Nat) : a ^^^ b ^^^ b = a := by rw [Nat.xor_assoc, Nat.xor_self, Nat.xor_zero]
theorem fnv_back (h b : Nat) (hh : h < two64) (hb : b < two64) : (fnv h b * primeInv % two64) = h ^^^ b := by
  unfold fnv
  refine mul_back primeN primeInv _ prime_ok ?_
  have : two64 = 2 ^ 64 := by decide
  rw [this] at hh hb ⊢
  exact Nat.xor_lt_two_pow hh hb
theorem fnv_inj_left (h h' b : Nat) (hh : h < two64) (hh' : h' < two64) (hb : b < two64) (e : fnv h b = fnv h' b) : h = h' := by
  have e2 := congrArg (· * primeInv % two64) e
  simp only [fnv_back _ _ hh hb, fnv_back _ _ hh' hb] at e2
  rw [← xor_cancel h b, ← xor_cancel h' b, e2]
theorem fnv_inj_right (h b b' : Nat) (hh : h < two64) (hb : b < two64) (hb' : b' < two64) (e : fnv h b = fnv h b') : b = b' := by
  have e2 := congrArg (· * primeInv % two64) e
  simp only [fnv_back _ _ hh hb, fnv_back _ _ hh hb'] at e2
  rw [← xor_cancel b h, ← xor_cancel b' h, Nat.xor_comm b h, Nat.xor_comm b' h, e2]

theorem seedH_byte (s : Nat) (hs : s < 256) : ∀ k, 1 ≤ k → k ≤ 8 → seedByte s k = 0 := by
  intro k h1 _
  unfold seedByte
  rw [Nat.div_eq_of_lt]
  refine Nat.lt_of_lt_of_le hs ?_
  calc 256 = 2 ^ 8 := by decide
    _ ≤ 2 ^ (8 * k) := Nat.pow_le_pow_right (by decide) (by omega)
theorem seedH_inj (a b : Nat) (ha : a < 256) (hb : b < 256) : ∀ k, k ≤ 7 → seedH a (k + 1) = seedH b (k + 1) → a = b := by
  intro k
  induction k with
  | zero =>
    intro _ e
    have e' : fnv beginN (seedByte a 0) = fnv beginN (seedByte b 0) := e
    have := fnv_inj_right beginN _ _ (by decide) (Nat.lt_of_lt_of_le (Nat.mod_lt _ (by decide)) (by decide)) (Nat.lt_of_lt_of_le (Nat.mod_lt _ (by decide)) (by decide)) e'
    unfold seedByte at this
    simp at this
    omega
  | succ k ih =>
    intro hk e
    have e' : fnv (seedH a (k + 1)) (seedByte a (k + 1)) = fnv (seedH b (k + 1)) (seedByte b (k + 1)) := e
    rw [seedH_byte a ha _ (by omega) (by omega), seedH_byte b hb _ (by omega) (by omega)] at e'
    exact ih (by omega) (fnv_inj_left _ _ 0 (seedH_lt _ _) (seedH_lt _ _) (by decide) e')
theorem keyH_nil (h : Nat) : keyH h [] = h := rfl
theorem ofN_seeds (a b : Nat) (ha : a < 256) (hb : b < 256) : ofN a [] = ofN b [] ↔ a = b := by
  unfold ofN
  rw [mix_inj _ _ (keyH_lt _ _ (seedH_lt _ _)) (keyH_lt _ _ (seedH_lt _ _)), keyH_nil, keyH_nil]
  constructor
  · intro e
    exact seedH_inj a b ha hb 7 (by omega) e
  · intro e
    rw [e]
theorem pre_bits (h d i : Nat) (hd : d ≤ 64) (hi : i < d) : h / 2 ^ (64 - d) / 2 ^ (d - 1 - i) = h / 2 ^ (63 - i) := by
  rw [Nat.div_div_eq_div_mul, ← Nat.pow_add]
  congr 2
  omega
end Go.Proofs.Ytgepbckaejleoaa
