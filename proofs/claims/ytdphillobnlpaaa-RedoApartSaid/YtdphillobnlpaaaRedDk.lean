/- redo: what stands around a device and its log in the crash laws; a device that may have been cut off. -/
import Derived.Test.YtdphillobnlpaaaRedDa
import Derived.StillTailTactics
namespace Go.Proofs.Ytdphillobnlpaaa
open Go.RowKit
set_option linter.unusedVariables false
/-- What stands around a device and its log in a law that may be cut off. -/
structure En (w0 : World) (G : Dv) (lg bd bg : Nat) (w : World) : Prop where
  D : Blk w bd 23 #[.pointer (some ⟨G.d, 0, none⟩)]
  L : Blk w bg 24 #[.pointer (some ⟨lg, 0, none⟩)]
  log : Lg w lg G 0 64
  lo : ¬ G.own lg
  own : ∀ b, G.own b → w0.heap.size ≤ b ∧ b < bd
  new : w0.heap.size ≤ bd ∧ bd < bg ∧ lg < bd
  mv : Mv (fun _ => False) w0 w
theorem En.go {w0 w w' : World} {G : Dv} {lg bd bg : Nat} {S : Nat → Prop} (h : En w0 G lg bd bg w) (hm : Mv S w w') (hS : ∀ b, S b → G.own b ∨ bg < b) : En w0 G lg bd bg w' := by
  obtain ⟨n1, n2, n3⟩ := h.new
  have k : ∀ b, b ≤ bg → ¬ G.own b → ¬ S b := fun b hb ho e => by rcases hS b e with e | e; exact ho e; omega
  exact ⟨h.D.mv hm (k bd (by omega) (fun e => by have := (h.own _ e).2; omega)), h.L.mv hm (k bg (by omega) (fun e => by have := (h.own _ e).2; omega)), Blk.mv h.log hm (k lg (by omega) h.lo), h.lo, h.own, h.new,
    mv_none h.mv hm (fun b hb e => by rcases hS b e with e | e; have := (h.own _ e).1; omega; omega)⟩
theorem En.to {w0 w w' : World} {G : Dv} {lg bd bg : Nat} (h : En w0 G lg bd bg w) (hm : Mv G.own w w') : En w0 G lg bd bg w' := h.go hm (fun _ e => .inl e)
theorem En.none {w0 w w' : World} {G : Dv} {lg bd bg : Nat} (h : En w0 G lg bd bg w) (hm : Mv (fun _ => False) w w') : En w0 G lg bd bg w' := h.go hm (fun _ e => e.elim)
theorem En.cD {w0 w : World} {G : Dv} {lg bd bg : Nat} (h : En w0 G lg bd bg w) : w.cell? ⟨bd, 0, .none⟩ = some (.pointer (some ⟨G.d, 0, .none⟩)) := (h.D.cell 0).trans rfl
theorem En.cL {w0 w : World} {G : Dv} {lg bd bg : Nat} (h : En w0 G lg bd bg w) : w.cell? ⟨bg, 0, .none⟩ = some (.pointer (some ⟨lg, 0, .none⟩)) := (h.L.cell 0).trans rfl
theorem En.lt {w0 w : World} {G : Dv} {lg bd bg : Nat} (h : En w0 G lg bd bg w) : ∀ b, G.own b → b < w.heap.size := fun b e => by have := (h.own b e).2; have := h.D.lt; omega
theorem En.start {w0 w1 w2 : World} {G : Dv} {lg bd bg : Nat} (hO : Opened w0 w1 G lg 256 0 64 noughts) (hbd : bd = w1.heap.size) (hbg : bg = w1.heap.size + 1)
    (h2 : w2 = (w1.alloc (.cells #[.pointer (some ⟨G.d, 0, .none⟩)] 23)).alloc (.cells #[.pointer (some ⟨lg, 0, .none⟩)] 24)) :
    En w0 G lg bd bg w2 ∧ DevA w2 G.own G 256 noughts ∧ bg + 1 = w2.heap.size := by
  have m2 : Mv (fun _ => False) w1 w2 := by rw [h2]; exact ((Mv.refl _ w1).alloc _).alloc _
  have hs := hO.mv.size
  have hl := hO.lgL.lt
  refine ⟨⟨?_, ?_, Blk.mv hO.lgL m2 (fun e => e), hO.lgO, fun b e => ⟨hO.fresh.own b e, by have := hO.dev.own_lt2 b e; omega⟩, ⟨by omega, by omega, by omega⟩, hO.mv.trans m2⟩, dev_turn hO.dev calm_noughts m2 (fun _ _ e => e), ?_⟩
  · rw [h2, hbd]; exact (Blk.new w1 _ _).alloc _
  · rw [h2, hbg]; exact blk_new _ _ _ (by simp)
  · rw [h2, hbg]; simp
/-- A device that may have been cut off: whenever the power goes, it is as behind f2, or (b = false) as behind f. -/
structure Cu (s : DS) (f f2 : Nat → Int) (b : Bool) (t : Nat) : Prop where
  cut : ∀ p, Rd (s.power p) f2 ∨ (b = false ∧ Rd (s.power p) f)
  steps : s.steps ≤ 300000 * t
theorem Cu.le {s : DS} {f f2 : Nat → Int} {b : Bool} {t t' : Nat} (h : Cu s f f2 b t) (ht : t ≤ t') : Cu s f f2 b t' := ⟨h.cut, by have := h.steps; omega⟩
theorem Cu.fused {s : DS} {f f2 : Nat → Int} {b : Bool} {t : Nat} (h : Cu s f f2 b t) (p : Nat → Bool) (k : Int) : Calm { s.power p with fuse := k } ∧ U64 ({ s.power p with fuse := k } : DS).now := by
  rcases h.cut p with h | ⟨_, h⟩
  · exact ⟨h.calm, h.rdy.u⟩
  · exact ⟨h.calm, h.rdy.u⟩
theorem Cu.open {s : DS} {f f2 : Nat → Int} {b : Bool} {t : Nat} (h : Cu s f f2 b t) (p : Nat → Bool) (k : Int) : Cu (runS (homeL ({ s.power p with fuse := k } : DS).now 256 0 64) { s.power p with fuse := k }).1 f f2 b (t + 1) := by
  refine ⟨fun p' => ?_, ?_⟩
  · rcases h.cut p with h | ⟨h0, h⟩
    · exact .inl ((h.fuse k).cut p')
    · exact .inr ⟨h0, (h.fuse k).cut p'⟩
  · have h1 := home_steps 256 0 64 { s.power p with fuse := k } (by decide)
    have h2 := h.steps
    have h3 : ({ s.power p with fuse := k } : DS).steps = s.steps := rfl
    omega
theorem Cu.powered {s : DS} {f f2 : Nat → Int} {b : Bool} {t : Nat} (h : Cu s f f2 b t) (p : Nat → Bool) : Cu (s.power p) f f2 b t := by
  refine ⟨fun p' => ?_, h.steps⟩
  rcases h.cut p with h | ⟨h0, h⟩
  · exact .inl (h.power p')
  · exact .inr ⟨h0, h.power p'⟩
/-- The last opening, which nothing cuts off. -/
theorem Cu.whole {s : DS} {f f2 : Nat → Int} {b : Bool} {t : Nat} (h : Cu s f f2 b t) (p : Nat → Bool) : (Wh (runS (homeL (s.power p).now 256 0 64) (s.power p)).1 f2 ∨ (b = false ∧ Wh (runS (homeL (s.power p).now 256 0 64) (s.power p)).1 f)) ∧ (runS (homeL (s.power p).now 256 0 64) (s.power p)).1.fuse = -1 ∧ (runS (homeL (s.power p).now 256 0 64) (s.power p)).1.steps ≤ 300000 * (t + 1) := by
  refine ⟨?_, ?_, ?_⟩
  · rcases h.cut p with h | ⟨h0, h⟩
    · exact .inl (h.open rfl).1
    · exact .inr ⟨h0, (h.open rfl).1⟩
  · exact (home_free 256 0 64 (s.power p) rfl).2
  · have h1 := home_steps 256 0 64 (s.power p) (by decide)
    have h2 := h.steps
    have h3 : (s.power p).steps = s.steps := rfl
    omega
theorem Wh.cu {s : DS} {f : Nat → Int} (h : Wh s f) {ps : List (Int × Int)} {t : Nat} (hc : commitV 256 0 64 ps = 0) (hv : ∀ p ∈ ps, 0 ≤ p.2 ∧ p.2 < 18446744073709551616) (hs : s.steps ≤ 300000 * t) : Cu (commitD 256 0 64 ps s).1 f (puts f (nat2 ps)) (commitD 256 0 64 ps s).2 (t + 1) := by
  refine ⟨fun p => ?_, by have := commit_steps 256 0 64 ps s (by decide); omega⟩
  cases hr : (commitD 256 0 64 ps s).2
  · rcases h.cut hc hv p with h | h
    · exact .inr ⟨rfl, h⟩
    · exact .inl h
  · exact .inl ((h.commit hc hv hr).power p).rd
theorem told_b {w : World} {G : Dv} {n : Nat} {r : DS × Bool} {F : FuncId} {cap : Array Value} (h : Calls Try.prog 24 #[.int .i64 0, .func (.func F) #[] cap] w fun e w' => e = .returned (.int .i64 (if r.2 = true then 0 else 1)) ∧ DevA w' (fun b => G.own b ∨ b = w.heap.size + 1) G n r.1 ∧ Mv G.own w w') :
    Calls Try.prog 24 #[.int .i64 0, .func (.func F) #[] cap] w fun e w' => ∃ q : Int, e = .returned (.int .i64 q) ∧ (q == 0) = r.2 ∧ DevA w' (fun b => G.own b ∨ b = w.heap.size + 1) G n r.1 ∧ Mv G.own w w' := by
  refine h.mono ?_
  rintro e w' ⟨rfl, h1, h2⟩
  refine ⟨_, rfl, ?_, h1, h2⟩
  cases r.2 <;> rfl
theorem wp_loadA {o : Oper} {a : Act} {w : World} {K : Act → World → Prop} {Q : Exit → Act → World → Prop} (x : Operand) (ho : o.op = .load 40 x) (b : Nat) (hx : a.eval x = .pointer (some ⟨b, 0, none⟩)) (f : Nat → Int) (hb : Blk w b 40 (words .u64 256 f))
    (h : K (a.put o.dst (.agg (words .u64 256 f))) w) : o.wp Try.prog a w K Q := by
  have e : (words .u64 256 f).toList.toArray = words .u64 256 f := by simp
  refine wp_load_mid 40 x ho b 0 hx (words .u64 256 f).toList _ (range_words hb) Try.underlying40 rfl ?_ (by rw [e]; exact h)
  rw [Array.length_toList]
  exact info256 f
theorem i64_rng {z : Int} (h : (Lit.int .i64 z).wf = true) : -9223372036854775808 ≤ z ∧ z < 9223372036854775808 := by
  simp only [Lit.wf, IntKind.min, IntKind.max, IntKind.signed, IntKind.bits, Bool.and_eq_true, decide_eq_true_eq, if_true] at h
  omega
theorem wh_noughts : Wh noughts (fun _ => 0) := ⟨calm_noughts, u64_zero, rfl, fun _ _ => rfl⟩
end Go.Proofs.Ytdphillobnlpaaa
