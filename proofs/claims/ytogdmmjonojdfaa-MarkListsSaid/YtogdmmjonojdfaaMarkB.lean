/- mark, plain: a heap's order. No program in sight. -/
import Derived.Test.YtogdmmjonojdfaaMarkA
namespace Go.Proofs.Ytogdmmjonojdfaa
set_option linter.unusedVariables false

def swp (f : Nat → Int) (i j : Nat) : Nat → Int := upd (upd f i (f j)) j (f i)
def Pm (n : Nat) (f g : Nat → Int) : Prop := ((List.range n).map f).Perm ((List.range n).map g)
theorem Pm.refl (n : Nat) (f : Nat → Int) : Pm n f f := List.Perm.refl _
theorem Pm.trans {n : Nat} {f g h : Nat → Int} (a : Pm n f g) (b : Pm n g h) : Pm n f h := List.Perm.trans a b
theorem Pm.symm {n : Nat} {f g : Nat → Int} (a : Pm n f g) : Pm n g f := List.Perm.symm a
theorem swp_i (f : Nat → Int) (i j : Nat) : swp f i j i = f j := by unfold swp upd; split <;> simp_all
theorem swp_j (f : Nat → Int) (i j : Nat) : swp f i j j = f i := by unfold swp upd; simp
theorem swp_o (f : Nat → Int) {i j k : Nat} (h1 : k ≠ i) (h2 : k ≠ j) : swp f i j k = f k := by unfold swp upd; simp [h1, h2]
theorem swp_perm {n : Nat} (f : Nat → Int) {i j : Nat} (hi : i < n) (hj : j < n) : Pm n (swp f i j) f := by
  have e : (List.range n).map (swp f i j) = (((List.range n).map f).toArray.swap i j (by simp [hi]) (by simp [hj])).toList := by
    apply List.ext_getElem
    · simp
    · intro k h1 h2
      have hk : k < n := by simpa using h1
      simp [List.getElem_set]
      by_cases h4 : j = k
      · subst h4; simp [swp_j]
      · by_cases h3 : i = k
        · subst h3; simp [h4, swp_i]
        · simp [h3, h4, swp_o f (fun e => h3 e.symm) (fun e => h4 e.symm)]
  unfold Pm
  rw [e]
  have := Array.swap_perm (xs := ((List.range n).map f).toArray) (i := i) (j := j) (by simp [hi]) (by simp [hj])
  simpa using this.toList

def Hp (n : Nat) (f : Nat → Int) : Prop := ∀ i, 0 < i → i < n → f ((i - 1) / 2) ≤ f i
theorem Hp.min {n : Nat} {f : Nat → Int} (h : Hp n f) : ∀ i, i < n → f 0 ≤ f i := by
  intro i
  induction i using Nat.strongRecOn with
  | _ i ih =>
    intro hi
    rcases Nat.eq_zero_or_pos i with e | e
    · subst e; exact Int.le_refl _
    · have := ih ((i - 1) / 2) (by omega) (by omega)
      have := h i e hi
      omega
structure Up (n : Nat) (f : Nat → Int) (j : Nat) : Prop where
  lt : j < n
  a : ∀ i, 0 < i → i < n → i ≠ j → f ((i - 1) / 2) ≤ f i
  b : ∀ i, 0 < i → i < n → (i - 1) / 2 = j → 0 < j → f ((j - 1) / 2) ≤ f i
theorem Up.start {n : Nat} {f : Nat → Int} (h : Hp n f) (x : Int) : Up (n + 1) (upd f n x) n := by
  refine ⟨by omega, fun i h1 h2 h3 => ?_, fun i h1 h2 h3 h4 => by omega⟩
  have h5 : i < n := by omega
  unfold upd
  rw [if_neg (by omega), if_neg (by omega)]
  exact h i h1 h5
theorem Up.stop {n j : Nat} {f : Nat → Int} (h : Up n f j) (hs : j = 0 ∨ f ((j - 1) / 2) ≤ f j) : Hp n f := by
  intro i h1 h2
  by_cases e : i = j
  · subst e
    rcases hs with hs | hs
    · omega
    · exact hs
  · exact h.a i h1 h2 e
theorem Up.step {n j : Nat} {f : Nat → Int} (h : Up n f j) (hj : 0 < j) (hl : f j < f ((j - 1) / 2)) : Up n (swp f ((j - 1) / 2) j) ((j - 1) / 2) := by
  have hlt := h.lt
  refine ⟨by omega, fun i h1 h2 h3 => ?_, fun i h1 h2 h3 h4 => ?_⟩
  · by_cases e : i = j
    · subst e
      rw [swp_i, swp_j]; omega
    · rw [swp_o f h3 e]
      by_cases e1 : (i - 1) / 2 = j
      · rw [e1, swp_j]; exact h.b i h1 h2 e1 hj
      · by_cases e2 : (i - 1) / 2 = (j - 1) / 2
        · rw [e2, swp_i]
          have := h.a i h1 h2 e
          rw [e2] at this
          omega
        · rw [swp_o f e2 e1]; exact h.a i h1 h2 e
  · have e3 : ((j - 1) / 2 - 1) / 2 ≠ (j - 1) / 2 := by omega
    have e4 : ((j - 1) / 2 - 1) / 2 ≠ j := by omega
    rw [swp_o f e3 e4]
    have hp := h.a ((j - 1) / 2) h4 (by omega) (by omega)
    by_cases e : i = j
    · subst e
      rw [swp_j]; exact hp
    · rw [swp_o f (by omega) e]
      have := h.a i h1 h2 e
      rw [h3] at this
      omega
structure Dn (n : Nat) (f : Nat → Int) (i : Nat) : Prop where
  a : ∀ k, 0 < k → k < n → (k - 1) / 2 ≠ i → f ((k - 1) / 2) ≤ f k
  b : ∀ k, 0 < k → k < n → (k - 1) / 2 = i → 0 < i → f ((i - 1) / 2) ≤ f k
theorem Dn.start {n : Nat} {f : Nat → Int} (h : Hp (n + 1) f) : Dn n (swp f 0 n) 0 := by
  refine ⟨fun k h1 h2 h3 => ?_, fun k h1 h2 h3 h4 => by omega⟩
  rw [swp_o f h3 (by omega), swp_o f (by omega) (by omega)]
  exact h k h1 (by omega)
theorem Dn.stop {n i : Nat} {f : Nat → Int} (h : Dn n f i) (hs : ∀ k, 0 < k → k < n → (k - 1) / 2 = i → f i ≤ f k) : Hp n f := by
  intro k h1 h2
  by_cases e : (k - 1) / 2 = i
  · rw [e]; exact hs k h1 h2 e
  · exact h.a k h1 h2 e
theorem Dn.step {n i j : Nat} {f : Nat → Int} (h : Dn n f i) (hj : 0 < j) (hn : j < n) (hp : (j - 1) / 2 = i) (hm : ∀ k, 0 < k → k < n → (k - 1) / 2 = i → f j ≤ f k) (hl : f j < f i) : Dn n (swp f i j) j := by
  have hij : i < j := by omega
  refine ⟨fun k h1 h2 h3 => ?_, fun k h1 h2 h3 h4 => ?_⟩
  · by_cases e : (k - 1) / 2 = i
    · rw [e, swp_i]
      by_cases e1 : k = j
      · subst e1; rw [swp_j]; omega
      · rw [swp_o f (by omega) e1]; exact hm k h1 h2 e
    · rw [swp_o f e h3]
      by_cases e1 : k = j
      · omega
      · by_cases e2 : k = i
        · subst e2
          rw [swp_i]
          exact h.b j hj hn hp h1
        · rw [swp_o f e2 e1]; exact h.a k h1 h2 e
  · rw [hp, swp_i, swp_o f (by omega) (by omega)]
    have := h.a k h1 h2 (by omega)
    rw [h3] at this
    exact this
end Go.Proofs.Ytogdmmjonojdfaa
