/- mark: MarkFrom's plain law: From's rounds are no others than the law's own. -/
import Derived.Test.YtogdmmjonojdfaaMarkU
namespace Go.Proofs.Ytogdmmjonojdfaa
open Go.RowKit
set_option linter.unusedVariables false
/-- What is asked next. -/
def Nx (out asked : List Nat) (x : Nat) : Prop := x ∈ out ∧ x ∉ asked ∧ ∀ y ∈ out, y ∉ asked → x ≤ y
theorem Nx.uniq {out asked : List Nat} {x y : Nat} (h : Nx out asked x) (k : Nx out asked y) : x = y := by
  have h1 := h.2.2 y k.1 k.2.1
  have h2 := k.2.2 x h.1 h.2.1
  omega
theorem Fr.uniq {roots : List Nat} {ans : Nat → List Nat × Int} {most : Int} {o1 a1 : List Nat} (h : Fr roots ans most o1 a1) : ∀ {o2 a2 : List Nat}, Fr roots ans most o2 a2 → a2.length = a1.length → o2 = o1 ∧ a2 = a1 := by
  induction h with
  | start =>
    intro o2 a2 k e
    cases k with
    | start => exact ⟨rfl, rfl⟩
    | step => simp at e
  | @step out asked x h1 hx hxa hm hl ha ih =>
    intro o2 a2 k e
    cases k with
    | start => simp at e
    | @step out' asked' x' k1 kx kxa km kl ka =>
      obtain ⟨rfl, rfl⟩ := ih k1 (by simpa using e)
      obtain rfl : x' = x := Nx.uniq ⟨kx, kxa, km⟩ ⟨hx, hxa, hm⟩
      exact ⟨rfl, rfl⟩
def Term (ans : Nat → List Nat × Int) (most : Int) (out asked : List Nat) : Prop := ∀ x, Nx out asked x → (out.length : Int) ≤ most → (ans x).2 ≠ 0
theorem Fr.pre {roots : List Nat} {ans : Nat → List Nat × Int} {most : Int} {o a : List Nat} (h : Fr roots ans most o a) : ∀ k, k < a.length → ∃ o', Fr roots ans most o' (a.take k) ∧ ¬ Term ans most o' (a.take k) := by
  induction h with
  | start => intro k hk; simp at hk
  | @step out asked x h1 hx hxa hm hl ha ih =>
    intro k hk
    rcases Nat.lt_or_ge k asked.length with hlt | hge
    · obtain ⟨o', h2, h3⟩ := ih k hlt
      have e : (asked ++ [x]).take k = asked.take k := List.take_append_of_le_length (by omega)
      rw [e]
      exact ⟨o', h2, h3⟩
    · have hk2 : k = asked.length := by simp at hk; omega
      subst hk2
      rw [List.take_left']
      · exact ⟨out, h1, fun ht => ht x ⟨hx, hxa, hm⟩ hl ha⟩
      · rfl
theorem Fr.end_ {roots : List Nat} {ans : Nat → List Nat × Int} {most : Int} {o1 a1 o2 a2 : List Nat} (h1 : Fr roots ans most o1 a1) (t1 : Term ans most o1 a1) (h2 : Fr roots ans most o2 a2) (t2 : Term ans most o2 a2) : o2 = o1 ∧ a2 = a1 := by
  rcases Nat.lt_trichotomy a1.length a2.length with h | h | h
  · obtain ⟨o', k1, k2⟩ := h2.pre a1.length h
    obtain ⟨e1, e2⟩ := h1.uniq k1 (by simp; omega)
    rw [e1, e2] at k2
    exact absurd t1 k2
  · exact h1.uniq h2 h.symm
  · obtain ⟨o', k1, k2⟩ := h1.pre a2.length h
    obtain ⟨e1, e2⟩ := h2.uniq k1 (by simp; omega)
    rw [e1, e2] at k2
    exact absurd t2 k2
/-- How the rounds end: what was found, what was asked, the error's number. -/
def End (roots : List Nat) (ans : Nat → List Nat × Int) (most : Int) (out asked : List Nat) (e : Int) : Prop :=
  (Fr roots ans most out asked ∧ (∀ x ∈ out, x ∈ asked) ∧ e = 0) ∨ (Fr roots ans most out asked ∧ (∃ x ∈ out, x ∉ asked) ∧ most < out.length ∧ e = 5) ∨
  (∃ a0 x, asked = a0 ++ [x] ∧ Fr roots ans most out a0 ∧ Nx out a0 x ∧ (out.length : Int) ≤ most ∧ (ans x).2 ≠ 0 ∧ e = (ans x).2)
theorem End.base {roots : List Nat} {ans : Nat → List Nat × Int} {most : Int} {out asked : List Nat} {e : Int} (h : End roots ans most out asked e) : ∃ a, Fr roots ans most out a ∧ Term ans most out a ∧
    ((a = asked ∧ (∀ x ∈ out, x ∈ a) ∧ e = 0) ∨ (a = asked ∧ (∃ x ∈ out, x ∉ a) ∧ most < out.length ∧ e = 5) ∨ (∃ x, asked = a ++ [x] ∧ Nx out a x ∧ (out.length : Int) ≤ most ∧ e = (ans x).2)) := by
  rcases h with ⟨h1, h2, h3⟩ | ⟨h1, h2, h3, h4⟩ | ⟨a0, x, h1, h2, h3, h4, h5, h6⟩
  · exact ⟨asked, h1, fun x hx => absurd (h2 x hx.1) hx.2.1, .inl ⟨rfl, h2, h3⟩⟩
  · exact ⟨asked, h1, fun x _ hl => by omega, .inr (.inl ⟨rfl, h2, h3, h4⟩)⟩
  · exact ⟨a0, h2, fun y hy _ => by rw [hy.uniq h3]; exact h5, .inr (.inr ⟨x, h1, h3, h4, h6⟩)⟩
theorem End.uniq {roots : List Nat} {ans : Nat → List Nat × Int} {most : Int} {o1 a1 o2 a2 : List Nat} {e1 e2 : Int} (h : End roots ans most o1 a1 e1) (k : End roots ans most o2 a2 e2) : o2 = o1 ∧ a2 = a1 ∧ e2 = e1 := by
  obtain ⟨b1, h1, t1, h⟩ := h.base
  obtain ⟨b2, h2, t2, k⟩ := k.base
  obtain ⟨rfl, rfl⟩ := h1.end_ t1 h2 t2
  refine ⟨rfl, ?_⟩
  rcases h with ⟨rfl, ha, rfl⟩ | ⟨rfl, ⟨x, hx, hxa⟩, hb, rfl⟩ | ⟨x, rfl, hx, hm, rfl⟩
  · rcases k with ⟨rfl, ka, rfl⟩ | ⟨rfl, ⟨y, ky, kya⟩, kb, rfl⟩ | ⟨y, rfl, ky, km, rfl⟩
    · exact ⟨rfl, rfl⟩
    · exact absurd (ha y ky) kya
    · exact absurd (ha y ky.1) ky.2.1
  · rcases k with ⟨rfl, ka, rfl⟩ | ⟨rfl, _, kb, rfl⟩ | ⟨y, rfl, ky, km, rfl⟩
    · exact absurd (ka x hx) hxa
    · exact ⟨rfl, rfl⟩
    · omega
  · rcases k with ⟨rfl, ka, rfl⟩ | ⟨rfl, _, kb, rfl⟩ | ⟨y, rfl, ky, km, rfl⟩
    · exact absurd (ka x hx.1) hx.2.1
    · omega
    · rw [ky.uniq hx]
      exact ⟨rfl, rfl⟩
/-- What the law holds as found: the same numbers, rising. -/
structure Fd (out : List Nat) (zs : List Int) : Prop where
  up : zs.Pairwise (· < ·)
  mem : ∀ z, z ∈ zs ↔ ∃ x ∈ out, z = (x : Int)
theorem rise_ext : ∀ {xs ys : List Int}, xs.Pairwise (· < ·) → ys.Pairwise (· < ·) → (∀ z, z ∈ xs ↔ z ∈ ys) → xs = ys
  | [], [], _, _, _ => rfl
  | [], y :: ys, _, _, h => by have := (h y).2 (by simp); simp at this
  | x :: xs, [], _, _, h => by have := (h x).1 (by simp); simp at this
  | x :: xs, y :: ys, hx, hy, h => by
    have hx1 := List.pairwise_cons.1 hx
    have hy1 := List.pairwise_cons.1 hy
    have e : x = y := by
      have h1 := (h x).1 (by simp)
      have h2 := (h y).2 (by simp)
      rcases List.mem_cons.1 h1 with h1 | h1
      · exact h1
      · rcases List.mem_cons.1 h2 with h2 | h2
        · exact h2.symm
        · have := hy1.1 x h1
          have := hx1.1 y h2
          omega
    subst e
    congr 1
    refine rise_ext hx1.2 hy1.2 (fun z => ?_)
    constructor
    · intro hz
      have h1 := (h z).1 (by simp [hz])
      rcases List.mem_cons.1 h1 with h1 | h1
      · have := hx1.1 z hz; omega
      · exact h1
    · intro hz
      have h1 := (h z).2 (by simp [hz])
      rcases List.mem_cons.1 h1 with h1 | h1
      · have := hy1.1 z hz; omega
      · exact h1
theorem Fd.of_perm {out l : List Nat} {zs : List Int} (h : Fd out zs) (hp : l.Perm out) (hs : l.Pairwise (· ≤ ·)) (hn : out.Nodup) : l.map Int.ofNat = zs := by
  refine rise_ext ?_ h.up (fun z => ?_)
  · rw [List.pairwise_map]
    exact (strict_of hs (hp.nodup_iff.2 hn)).imp (fun h => by simpa using h)
  · rw [h.mem z, List.mem_map]
    constructor
    · rintro ⟨x, hx, rfl⟩
      exact ⟨x, hp.mem_iff.1 hx, rfl⟩
    · rintro ⟨x, hx, rfl⟩
      exact ⟨x, hp.mem_iff.2 hx, rfl⟩
theorem Fd.start {l : List Nat} {zs : List Int} (h : Rz True (l.map Int.ofNat) zs) : Fd (entL [] l) zs := by
  refine ⟨h.up, fun z => ?_⟩
  rw [h.mem z, List.mem_map]
  constructor
  · rintro ⟨⟨x, hx, rfl⟩, h0⟩
    exact ⟨x, entL_mem.2 (.inr ⟨hx, fun e => h0 trivial (by subst e; rfl)⟩), rfl⟩
  · rintro ⟨x, hx, rfl⟩
    rcases entL_mem.1 hx with h1 | ⟨h1, h2⟩
    · cases h1
    · exact ⟨⟨x, h1, rfl⟩, fun _ e => h2 (by omega)⟩
theorem Fd.step {out l : List Nat} {zs zs' : List Int} (h : Fd out zs) (h0 : ∀ x ∈ out, x ≠ 0) (k : Rz True (zs ++ l.map Int.ofNat) zs') : Fd (entL out l) zs' := by
  refine ⟨k.up, fun z => ?_⟩
  rw [k.mem z, List.mem_append, h.mem z, List.mem_map]
  constructor
  · rintro ⟨⟨x, hx, rfl⟩ | ⟨x, hx, rfl⟩, hz⟩
    · exact ⟨x, entL_mem.2 (.inl hx), rfl⟩
    · exact ⟨x, entL_mem.2 (.inr ⟨hx, fun e => hz trivial (by subst e; rfl)⟩), rfl⟩
  · rintro ⟨x, hx, rfl⟩
    rcases entL_mem.1 hx with h1 | ⟨h1, h2⟩
    · exact ⟨.inl ⟨x, h1, rfl⟩, fun _ e => h0 x h1 (by omega)⟩
    · exact ⟨.inr ⟨x, h1, rfl⟩, fun _ e => h2 (by omega)⟩
theorem Fd.len {out : List Nat} {zs : List Int} (h : Fd out zs) (hn : out.Nodup) : zs.length = out.length := by
  have hp : zs.Perm (out.map Int.ofNat) := by
    refine (List.perm_ext_iff_of_nodup (h.up.imp (fun h => by omega)) ?_).2 (fun z => ?_)
    · exact List.pairwise_map.2 (hn.imp (fun h e => h (Int.ofNat.inj e)))
    · rw [h.mem z, List.mem_map]
      constructor
      · rintro ⟨x, hx, rfl⟩; exact ⟨x, hx, rfl⟩
      · rintro ⟨x, hx, rfl⟩; exact ⟨x, hx, rfl⟩
  simpa using hp.length_eq
/-- The first that isn't done is what's asked next. -/
theorem Fd.next {out d : List Nat} {zs : List Int} {i x : Nat} (h : Fd out zs) (hx : zs[i]? = some (x : Int)) (hd : ∀ z ∈ zs.take i, z ∈ d.map Int.ofNat) (hxd : ¬ (x : Int) ∈ d.map Int.ofNat) : Nx out d x := by
  refine ⟨?_, fun e => hxd (List.mem_map.2 ⟨x, e, rfl⟩), fun y hy hyd => ?_⟩
  · obtain ⟨y, hy, e⟩ := (h.mem x).1 (List.mem_of_getElem? hx)
    have : x = y := by omega
    exact this ▸ hy
  · have hyz := (h.mem y).2 ⟨y, hy, rfl⟩
    obtain ⟨hi, e1⟩ := List.getElem?_eq_some_iff.1 hx
    obtain ⟨j, hj, e2⟩ := List.mem_iff_getElem.1 hyz
    rcases Nat.lt_or_ge j i with h1 | h1
    · have hm : (y : Int) ∈ zs.take i := by
        rw [List.mem_iff_getElem]
        exact ⟨j, by simp; omega, by simp [e2]⟩
      obtain ⟨y2, hy2, e3⟩ := List.mem_map.1 (hd _ hm)
      have : y2 = y := Int.ofNat.inj e3
      exact absurd (this ▸ hy2) hyd
    · rcases Nat.eq_or_lt_of_le h1 with h2 | h2
      · subst h2
        rw [e1] at e2
        omega
      · have := List.pairwise_iff_getElem.1 h.up i j hi hj h2
        rw [e1, e2] at this
        omega
theorem Fd.all {out d : List Nat} {zs : List Int} (h : Fd out zs) (hd : ∀ z ∈ zs, z ∈ d.map Int.ofNat) : ∀ x ∈ out, x ∈ d := by
  intro x hx
  obtain ⟨y, hy, e⟩ := List.mem_map.1 (hd x ((h.mem x).2 ⟨x, hx, rfl⟩))
  have : y = x := Int.ofNat.inj e
  exact this ▸ hy
end Go.Proofs.Ytogdmmjonojdfaa
