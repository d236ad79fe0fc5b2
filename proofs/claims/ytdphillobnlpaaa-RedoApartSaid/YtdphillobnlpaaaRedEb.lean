/- redo: two logs on one device: plain facts, the closures of RedoApart. -/
import Derived.Test.YtdphillobnlpaaaRedDk
namespace Go.Proofs.Ytdphillobnlpaaa
open Go.RowKit
set_option linter.unusedVariables false
/-- Two logs open, one at 0, one at 64; the words of each as they were written last. -/
structure Tw (s : DS) (x y : Int) : Prop where
  calm : Calm s
  u : U64 s.now
  za : s.now 0 = 0
  zb : s.now 64 = 0
  a0 : s.now 130 = x
  a1 : s.now 131 = x
  b0 : s.now 140 = y
  b1 : s.now 141 = y
/-- Words as they are told when both logs have been opened. -/
structure Uv (g : Nat → Int) (x p y q : Int) : Prop where
  a : g 130 = x ∨ g 130 = p
  b : g 140 = y ∨ g 140 = q
  a1 : g 131 = g 130
  b1 : g 141 = g 140
theorem Uv.congr {g h : Nat → Int} {x p y q : Int} (k : Uv g x p y q) (e : ∀ j, 128 ≤ j → h j = g j) : Uv h x p y q := by
  obtain ⟨k1, k2, k3, k4⟩ := k
  exact ⟨by rw [e 130 (by decide)]; exact k1, by rw [e 140 (by decide)]; exact k2, by rw [e 131 (by decide), e 130 (by decide)]; exact k3, by rw [e 141 (by decide), e 140 (by decide)]; exact k4⟩
/-- The first opening, and the second. -/
def o1 (s : DS) : DS := (runS (homeL s.now 256 0 32) s).1
def o2 (s : DS) : DS := (runS (homeL s.now 256 64 32) s).1
/-- A device whose power came back: both logs open, and the words are told. -/
structure Bk (s : DS) (x p y q : Int) : Prop where
  u : U64 s.now
  c1 : Calm (o1 s)
  u1 : U64 (o1 s).now
  f1 : (o1 s).fuse = -1
  c2 : Calm (o2 (o1 s))
  uv : Uv (o2 (o1 s)).now x p y q
theorem home_nil {s : DS} {at_ : Nat} (h : s.now at_ = 0) : (runS (homeL s.now 256 at_ 32) s).1 = s := by
  rw [homeL_eq (by rw [HdOk, h]; decide), if_pos h]
  rfl
theorem bk_a {s : DS} {g : Nat → Int} {x p y q : Int} (hf : s.fuse = -1) (hc : Calm s) (hr : Ready 0 32 s.now) (hs : Sem 256 0 32 s.now g) (hg : g 64 = 0) (hu : Uv g x p y q) : Bk s x p y q := by
  obtain ⟨f1, f2⟩ := home_free 256 0 32 s hf
  obtain ⟨c1, c2, c3, c4⟩ := (home_fin hc hr (by decide) hs).all f1
  have e : o2 (o1 s) = o1 s := home_nil (by rw [show o1 s = (runS (homeL s.now 256 0 32) s).1 from rfl, c4 64 (by decide)]; exact hg)
  exact ⟨hr.u, c1, c2, f2, by rw [e]; exact c1, by rw [e]; exact hu.congr (fun j hj => c4 j (by omega))⟩
theorem bk_b {s : DS} {g : Nat → Int} {x p y q : Int} (hf : s.fuse = -1) (hc : Calm s) (h0 : s.now 0 = 0) (hr : Ready 64 32 s.now) (hs : Sem 256 64 32 s.now g) (hu : Uv g x p y q) : Bk s x p y q := by
  have e : o1 s = s := home_nil h0
  obtain ⟨f1, f2⟩ := home_free 256 64 32 s hf
  obtain ⟨c1, c2, c3, c4⟩ := (home_fin hc hr (by decide) hs).all f1
  exact ⟨hr.u, by rw [e]; exact hc, by rw [e]; exact hr.u, by rw [e]; exact hf, by rw [e]; exact c1, by rw [e]; exact hu.congr (fun j hj => c4 j (by omega))⟩
/-- What a device is between the turns: whenever the power goes. -/
structure Ap (s : DS) (x p y q : Int) (t : Nat) : Prop where
  bk : ∀ pw, Bk (s.power pw) x p y q
  steps : s.steps ≤ 300000 * t
theorem Tw.ap {s : DS} {x y p q : Int} {t : Nat} (h : Tw s x y) (ht : s.steps ≤ 300000 * t) : Ap s x p y q t := ⟨fun pw => by
  have e := power_calm h.calm pw
  refine bk_b (g := (s.power pw).now) rfl (calm_power s pw) (by rw [e]; exact h.za) ⟨by rw [e]; exact h.u, by rw [HdOk, e, h.zb]; decide⟩ (fun j _ => by rw [hE_zero (by rw [e]; exact h.zb)]) ?_
  rw [e]
  exact ⟨.inl h.a0, .inl h.b0, by rw [h.a0, h.a1], by rw [h.b0, h.b1]⟩, ht⟩
def psA (p : Int) : List (Int × Int) := [(130, p), (131, p)]
def psB (q : Int) : List (Int × Int) := [(140, q), (141, q)]
theorem psA_v (p : Int) : commitV 256 0 32 (psA p) = 0 := rfl
theorem psB_v (q : Int) : commitV 256 64 32 (psB q) = 0 := rfl
theorem puts_A (f : Nat → Int) (p : Int) (j : Nat) : puts f (nat2 (psA p)) j = if j = 131 then p else if j = 130 then p else f j := rfl
theorem puts_B (f : Nat → Int) (q : Int) (j : Nat) : puts f (nat2 (psB q)) j = if j = 141 then q else if j = 140 then q else f j := rfl
theorem ps_val {a b p : Int} (hp : 0 ≤ p ∧ p < 18446744073709551616) : ∀ z ∈ [(a, p), (b, p)], 0 ≤ z.2 ∧ z.2 < 18446744073709551616 := fun z hz => by
  simp at hz
  rcases hz with rfl | rfl <;> exact hp
theorem Tw.commA {s : DS} {x y p : Int} {t : Nat} (h : Tw s x y) (hp : 0 ≤ p ∧ p < 18446744073709551616) (ht : s.steps ≤ 300000 * t) :
    ((commitD 256 0 32 (psA p) s).2 = true → Tw (commitD 256 0 32 (psA p) s).1 p y) ∧ Ap (commitD 256 0 32 (psA p) s).1 x p y y (t + 1) := by
  have hall := commit_all (n := 256) (at_ := 0) (words := 32) h.calm h.u h.za (by decide) (psA_v p) (ps_val hp)
  refine ⟨fun hr => ?_, fun pw => ?_, by have := commit_steps 256 0 32 (psA p) s (by decide); omega⟩
  · obtain ⟨c1, c2, c3, c4⟩ := hall.all hr
    refine ⟨c1, c2, c3, ?_, ?_, ?_, ?_, ?_⟩
    · rw [c4 64 (by decide), puts_A]; exact h.zb
    · rw [c4 130 (by decide), puts_A]; rfl
    · rw [c4 131 (by decide), puts_A]; rfl
    · rw [c4 140 (by decide), puts_A]; exact h.b0
    · rw [c4 141 (by decide), puts_A]; exact h.b1
  · obtain ⟨h1, h2⟩ := hall.cut pw
    rcases h2 with h2 | h2
    · exact bk_a rfl (calm_power _ pw) h1 h2 h.zb ⟨.inl h.a0, .inl h.b0, by rw [h.a0, h.a1], by rw [h.b0, h.b1]⟩
    · refine bk_a rfl (calm_power _ pw) h1 h2 (by rw [puts_A]; exact h.zb) ⟨.inr (by rw [puts_A]; rfl), .inl (by rw [puts_A]; exact h.b0), by rw [puts_A, puts_A]; rfl, ?_⟩
      rw [puts_A, puts_A]
      exact h.b1.trans h.b0.symm
theorem Tw.commB {s : DS} {x y q : Int} {t : Nat} (h : Tw s x y) (hq : 0 ≤ q ∧ q < 18446744073709551616) (ht : s.steps ≤ 300000 * t) :
    ((commitD 256 64 32 (psB q) s).2 = true → Tw (commitD 256 64 32 (psB q) s).1 x q) ∧ Ap (commitD 256 64 32 (psB q) s).1 x x y q (t + 1) := by
  have hall := commit_all (n := 256) (at_ := 64) (words := 32) h.calm h.u h.zb (by decide) (psB_v q) (ps_val hq)
  refine ⟨fun hr => ?_, fun pw => ?_, by have := commit_steps 256 64 32 (psB q) s (by decide); omega⟩
  · obtain ⟨c1, c2, c3, c4⟩ := hall.all hr
    refine ⟨c1, c2, ?_, c3, ?_, ?_, ?_, ?_⟩
    · rw [c4 0 (by decide), puts_B]; exact h.za
    · rw [c4 130 (by decide), puts_B]; exact h.a0
    · rw [c4 131 (by decide), puts_B]; exact h.a1
    · rw [c4 140 (by decide), puts_B]; rfl
    · rw [c4 141 (by decide), puts_B]; rfl
  · obtain ⟨h1, h2⟩ := hall.cut pw
    have h0 : ((commitD 256 64 32 (psB q) s).1.power pw).now 0 = 0 := by
      rw [hall.frame pw 0 (by decide) (by show 0 ∉ [140, 141]; decide)]; exact h.za
    rcases h2 with h2 | h2
    · exact bk_b rfl (calm_power _ pw) h0 h1 h2 ⟨.inl h.a0, .inl h.b0, by rw [h.a0, h.a1], by rw [h.b0, h.b1]⟩
    · refine bk_b rfl (calm_power _ pw) h0 h1 h2 ⟨.inl (by rw [puts_B]; exact h.a0), .inr (by rw [puts_B]; rfl), ?_, by rw [puts_B, puts_B]; rfl⟩
      rw [puts_B, puts_B]
      exact h.a1.trans h.a0.symm
theorem tw_noughts : Tw noughts 0 0 := ⟨calm_noughts, u64_zero, rfl, rfl, rfl, rfl, rfl, rfl⟩
theorem Tw.fuse {s : DS} {x y : Int} (h : Tw s x y) (k : Int) : Tw { s with fuse := k } x y := ⟨h.calm, h.u, h.za, h.zb, h.a0, h.a1, h.b0, h.b1⟩
end Go.Proofs.Ytdphillobnlpaaa
