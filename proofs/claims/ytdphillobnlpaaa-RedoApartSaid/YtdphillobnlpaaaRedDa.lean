/- redo: what the crash laws share: fuses, losses of power, calls that may be cut off. Printed by da.py. -/
import Derived.Test.YtdphillobnlpaaaRedCb
namespace Go.Proofs.Ytdphillobnlpaaa
open Go.RowKit
set_option linter.unusedVariables false
theorem fuseC (w : World) (G : Dv) (n : Nat) (s : DS) (k : Int) (h : DevA w G.own G n s) (hk : -9223372036854775808 ≤ k ∧ k < 9223372036854775808) :
    Calls Try.prog 23 #[.pointer (some ⟨G.d, 0, none⟩), .int .i64 k] w fun e w' => e = .returned (.tuple #[]) ∧ DevA w' G.own G n { s with fuse := max k (-1) } ∧ Mv G.own w w' := by
  refine (fuse_any w G.own G n s k h.1 hk).mono ?_
  rintro e w' ⟨rfl, h1, h2⟩
  exact ⟨rfl, h.to h1 h2, h2.mono (fun b _ e => .inl e)⟩
/-- What is kept: the words named, or all others. -/
def pw (zs : List Int) (flip : Bool) (j : Nat) : Bool := decide ((j : Int) ∈ zs) != flip
theorem powerC (w : World) (A : Nat → Prop) (G : Dv) (n : Nat) (s : DS) (flip : Bool) (L : Option Addr) (m c : Nat) (zs : List Int) (h : DevA w A G n s)
    (hr : Reads w w.heap.size 1 L m (zs.map (Value.int .i64))) (hz : ∀ z ∈ zs, (Lit.int .i64 z).wf = true) (hm : m ≤ 9223372036854775807) :
    Calls Try.prog 15 #[.pointer (some ⟨G.d, 0, none⟩), .bool flip, .slice L m c] w fun e w' => e = .returned (.tuple #[]) ∧ DevA w' G.own G n (s.power (pw zs flip)) ∧ Mv G.own w w' := by
  refine (powerA w A G n s flip L m c zs h hr hz hm (pw zs flip) (fun _ => rfl)).mono ?_
  rintro e w' ⟨rfl, h1, h2⟩
  exact ⟨rfl, DevA.rebase h1.1 (fun _ => rfl) (fun _ e => e) h1.own_lt, h2⟩
/-- A call that may be cut off, told. -/
theorem told_r (F : FuncId) (fn : Func) (cap : Array Value) (w : World) (G : Dv) (n : Nat) (r : DS × Bool) (hf : Try.prog.funcs[F]? = some fn) (hn : (fn.name == "runtime.NumGoroutine") = false) (hb : fn.body.isNone = false) (hown : ∀ b, G.own b → b < w.heap.size)
    (h : ∀ v, Mv (fun _ => False) w v → w.heap.size + 1 < v.heap.size → Calls Try.prog F cap v fun e w' => (r.2 = true ∧ e = .returned (.tuple #[]) ∨ r.2 = false ∧ Panics lostV e) ∧ DevA w' (fun b => G.own b ∨ b = w.heap.size + 1) G n r.1 ∧ Mv G.own v w') :
    Calls Try.prog 24 #[.int .i64 0, .func (.func F) #[] cap] w fun e w' => e = .returned (.int .i64 (if r.2 = true then 0 else 1)) ∧ DevA w' (fun b => G.own b ∨ b = w.heap.size + 1) G n r.1 ∧ Mv G.own w w' := by
  have fin : ∀ w1 w', DevA w1 (fun b => G.own b ∨ b = w.heap.size + 1) G n r.1 → Mv G.own w w1 → Mv (fun b => b = w.heap.size + 1) w1 w' → DevA w' (fun b => G.own b ∨ b = w.heap.size + 1) G n r.1 ∧ Mv G.own w w' := fun w1 w' hQ m1 m2 =>
    ⟨hQ.keep m2 (fun b e _ => .inr e) (fun b e1 e2 => by have := hown b e1; omega), m1.trans' m2 (fun b hb e => by omega)⟩
  cases hr : r.2
  · refine (tellL 0 F fn cap w G.own (fun w' => DevA w' (fun b => G.own b ∨ b = w.heap.size + 1) G n r.1) hf hn hb hown (fun v hv hs => (h v hv hs).mono ?_)).mono ?_
    · rintro e w' ⟨⟨h1, _⟩ | ⟨_, h1⟩, h2, h3⟩
      · rw [hr] at h1; cases h1
      · exact ⟨h1, h2, h3⟩
    · rintro e w' ⟨rfl, w1, hQ, m1, m2⟩
      exact ⟨rfl, fin w1 w' hQ m1 m2⟩
  · refine (tellR 0 F fn cap w G.own (fun w' => DevA w' (fun b => G.own b ∨ b = w.heap.size + 1) G n r.1) hf hn hb hown (fun v hv hs => (h v hv hs).mono ?_)).mono ?_
    · rintro e w' ⟨⟨_, h1⟩ | ⟨h1, _⟩, h2, h3⟩
      · exact ⟨h1, h2, h3⟩
      · rw [hr] at h1; cases h1
    · rintro e w' ⟨rfl, w1, hQ, m1, m2⟩
      exact ⟨rfl, fin w1 w' hQ m1 m2⟩
/-- A calm device takes one more block that turns: Told's own. -/
theorem dev_told {w v : World} {G : Dv} {n : Nat} {s : DS} (h : DevA w G.own G n s) (hm : Mv (fun _ => False) w v) (hs : w.heap.size + 1 < v.heap.size) : DevA v (fun b => G.own b ∨ b = w.heap.size + 1) G n s := h.told hm hs
theorem dev_calm {w : World} {A : Nat → Prop} {G : Dv} {n : Nat} {s : DS} (h : DevA w A G n s) (hc : Calm s) : DevA w G.own G n s := DevA.rebase h.1 hc.2.1 (fun _ e => e) h.own_lt
/-- Words as they are to be when the log has been opened. -/
structure Rd (s : DS) (g : Nat → Int) : Prop where
  calm : Calm s
  rdy : Ready 0 64 s.now
  sem : Sem 256 0 64 s.now g
/-- Words as they are when the log is open. -/
structure Wh (s : DS) (g : Nat → Int) : Prop where
  calm : Calm s
  u : U64 s.now
  z : s.now 0 = 0
  same : ∀ j, 64 ≤ j → s.now j = g j
theorem Wh.rd {s : DS} {g : Nat → Int} (h : Wh s g) : Rd s g :=
  ⟨h.calm, ⟨h.u, by rw [HdOk, h.z]; decide⟩, fun j hj => by rw [hE_zero h.z]; exact h.same j (by omega)⟩
theorem Wh.power {s : DS} {g : Nat → Int} (h : Wh s g) (p : Nat → Bool) : Wh (s.power p) g := by
  have e := power_calm h.calm p
  exact ⟨calm_power s p, by rw [e]; exact h.u, by rw [e]; exact h.z, by rw [e]; exact h.same⟩
theorem Wh.fuse {s : DS} {g : Nat → Int} (h : Wh s g) (k : Int) : Wh { s with fuse := k } g := ⟨h.calm, h.u, h.z, h.same⟩
theorem Rd.fuse {s : DS} {g : Nat → Int} (h : Rd s g) (k : Int) : Rd { s with fuse := k } g := ⟨h.calm, h.rdy, h.sem⟩
theorem Rd.power {s : DS} {g : Nat → Int} (h : Rd s g) (p : Nat → Bool) : Rd (s.power p) g := by
  have e := power_calm h.calm p
  exact ⟨calm_power s p, by rw [e]; exact h.rdy, by rw [e]; exact h.sem⟩
/-- An opening that may be cut off, and then the power goes. -/
theorem Rd.cut {s : DS} {g : Nat → Int} (h : Rd s g) (p : Nat → Bool) : Rd ((runS (homeL s.now 256 0 64) s).1.power p) g := by
  obtain ⟨h1, h2⟩ := (home_fin h.calm h.rdy (by decide) h.sem).cut p
  exact ⟨calm_power _ p, h1, h2⟩
theorem Rd.open {s : DS} {g : Nat → Int} (h : Rd s g) (hf : s.fuse = -1) : Wh (runS (homeL s.now 256 0 64) s).1 g ∧ (runS (homeL s.now 256 0 64) s).1.fuse = -1 := by
  obtain ⟨f1, f2⟩ := home_free 256 0 64 s hf
  obtain ⟨c1, c2, c3, c4⟩ := (home_fin h.calm h.rdy (by decide) h.sem).all f1
  exact ⟨⟨c1, c2, c3, fun j hj => c4 j (by omega)⟩, f2⟩
/-- A commit that may be cut off, and then the power goes. -/
theorem Wh.cut {s : DS} {f : Nat → Int} (h : Wh s f) {ps : List (Int × Int)} (hc : commitV 256 0 64 ps = 0) (hv : ∀ p ∈ ps, 0 ≤ p.2 ∧ p.2 < 18446744073709551616) (p : Nat → Bool) :
    Rd ((commitD 256 0 64 ps s).1.power p) f ∨ Rd ((commitD 256 0 64 ps s).1.power p) (puts f (nat2 ps)) := by
  obtain ⟨h1, h2⟩ := (commit_all (n := 256) (at_ := 0) (words := 64) h.calm h.u h.z (by decide) hc hv).cut p
  rcases h2 with h2 | h2
  · exact .inl ⟨calm_power _ p, h1, fun j hj => by rw [h2 j hj]; exact h.same j (by omega)⟩
  · exact .inr ⟨calm_power _ p, h1, fun j hj => by rw [h2 j hj]; exact puts_in _ _ _ j (fun _ => h.same j (by omega))⟩
theorem Wh.commit {s : DS} {f : Nat → Int} (h : Wh s f) {ps : List (Int × Int)} (hc : commitV 256 0 64 ps = 0) (hv : ∀ p ∈ ps, 0 ≤ p.2 ∧ p.2 < 18446744073709551616) (hr : (commitD 256 0 64 ps s).2 = true) :
    Wh (commitD 256 0 64 ps s).1 (puts f (nat2 ps)) := by
  obtain ⟨c1, c2, c3, c4⟩ := (commit_all (n := 256) (at_ := 0) (words := 64) h.calm h.u h.z (by decide) hc hv).all hr
  exact ⟨c1, c2, c3, fun j hj => by rw [c4 j (by omega)]; exact puts_in _ _ _ j (fun _ => h.same j hj)⟩
theorem Wh.tells {s : DS} {g : Nat → Int} (h : Wh s g) : tB s.now g 256 = true := tB_all (fun j hj _ => h.same j hj)
theorem Wh.tells2 {s s' : DS} {g : Nat → Int} (h : Wh s g) (h' : Wh s' g) (f : Nat → Int) : tB s.now f 256 = tB s'.now f 256 := by
  unfold tB
  congr 1
  apply propext
  constructor
  · intro k j h1 h2; rw [h'.same j h2, ← h.same j h2]; exact k j h1 h2
  · intro k j h1 h2; rw [h.same j h2, ← h'.same j h2]; exact k j h1 h2
set_option maxRecDepth 100000 in
set_option maxHeartbeats 4000000 in
/-- The closure that commits. -/
theorem lasts1 (v : World) (A : Nat → Prop) (G : Dv) (s : DS) (lg bg bx : Nat) (A0 : Option Addr) (c0 : Nat) (ps : List (Int × Int)) (k : Nat) (hbg : Blk v bg 24 #[.pointer (some ⟨lg, 0, none⟩)]) (hbx : Blk v bx 30 #[.slice A0 k c0])
    (hk : ps.length = k) (hk1 : k ≤ 1000000) (hD : DevA v A G 256 s) (hd : s.dead = false) (hl : Lg v lg G 0 64) (hlo : ¬ G.own lg) (hv : U64 s.now) (hs : s.steps < 600000000) (hr : WR v v.heap.size A0 ps) (hA0 : ∀ ad, A0 = some ad → ¬ G.own ad.block) (hz : ∀ p ∈ ps, 0 ≤ p.2 ∧ p.2 < 18446744073709551616) :
    Calls Try.prog 29 #[.pointer (some ⟨bg, 0, none⟩), .pointer (some ⟨bx, 0, none⟩)] v fun e w' => ((commitD 256 0 64 ps s).2 = true ∧ e = .returned (.tuple #[]) ∨ (commitD 256 0 64 ps s).2 = false ∧ Panics lostV e) ∧ DevA w' A G 256 (commitD 256 0 64 ps s).1 ∧ Mv G.own v w' := by
  have Hc := Lib.hid (commit_any v A G 256 s lg 0 64 A0 c0 ps k hk hk1 hD hd hl hlo (by decide) (fun j _ => hv j) hs hr hA0 hz)
  have cg : v.cell? ⟨bg, 0, none⟩ = some (.pointer (some ⟨lg, 0, none⟩)) := (hbg.cell 0).trans rfl
  have cx : v.cell? ⟨bx, 0, none⟩ = some (.slice A0 k c0) := (hbx.cell 0).trans rfl
  clear hk hD hd hl hlo hv hs hr hA0 hz hbg hbx
  go_enter Try.func29, Try.ntmps29
  go_wp2_with fail
  refine Hc.out.mono ?_
  rintro e w' ⟨⟨⟨h1, rfl⟩ | ⟨h1, hp⟩, hD2⟩, hm⟩
  · have H1 := Lib.hid h1
    have HD2 := Lib.hid hD2
    have Hm := Lib.hid hm
    clear h1 hD2 hm
    go_wp2_with fail
    go_end0
    exact ⟨.inl ⟨H1.out, rfl⟩, HD2.out, Hm.out⟩
  · unfold Panics at hp
    subst hp
    have H1 := Lib.hid h1
    have HD2 := Lib.hid hD2
    have Hm := Lib.hid hm
    clear h1 hD2 hm
    go_wp2_with fail
    simp only [bodyPost]
    exact ⟨trivial, .inr ⟨H1.out, rfl⟩, HD2.out, Hm.out⟩
set_option maxRecDepth 100000 in
set_option maxHeartbeats 4000000 in
/-- The closure that opens. -/
theorem lasts2 (v : World) (A : Nat → Prop) (G : Dv) (s : DS) (bd : Nat) (hbd : Blk v bd 23 #[.pointer (some ⟨G.d, 0, none⟩)]) (hD : DevA v A G 256 s) (hd : s.dead = false) (hv : U64 s.now) (hs : s.steps < 600000000) :
    Calls Try.prog 30 #[.pointer (some ⟨bd, 0, none⟩)] v fun e w' => ((runS (homeL s.now 256 0 64) s).2 = true ∧ e = .returned (.tuple #[]) ∨ (runS (homeL s.now 256 0 64) s).2 = false ∧ Panics lostV e) ∧ DevA w' A G 256 (runS (homeL s.now 256 0 64) s).1 ∧ Mv G.own v w' := by
  have Ho := Lib.hid (open_any v A G 256 s 0 64 hD hd (by decide) (fun j _ => hv j) (by omega))
  have cd : v.cell? ⟨bd, 0, none⟩ = some (.pointer (some ⟨G.d, 0, none⟩)) := (hbd.cell 0).trans rfl
  clear hD hd hv hs hbd
  go_enter Try.func30, Try.ntmps30
  go_wp2_with fail
  refine Ho.out.mono ?_
  rintro e w' ⟨⟨h1, lg, _, rfl, _⟩ | ⟨h1, hp⟩, hD2, hm⟩
  · have H1 := Lib.hid h1
    have HD2 := Lib.hid hD2
    have Hm := Lib.hid hm
    clear h1 hD2 hm
    go_wp2_with fail
    go_end0
    exact ⟨.inl ⟨H1.out, rfl⟩, HD2.out, Hm.out⟩
  · unfold Panics at hp
    subst hp
    have H1 := Lib.hid h1
    have HD2 := Lib.hid hD2
    have Hm := Lib.hid hm
    clear h1 hD2 hm
    go_wp2_with fail
    simp only [bodyPost]
    exact ⟨trivial, .inr ⟨H1.out, rfl⟩, HD2.out, Hm.out⟩
set_option maxRecDepth 100000 in
set_option maxHeartbeats 4000000 in
/-- The closure that commits. -/
theorem again1 (v : World) (A : Nat → Prop) (G : Dv) (s : DS) (lg bg bx : Nat) (A0 : Option Addr) (c0 : Nat) (ps : List (Int × Int)) (k : Nat) (hbg : Blk v bg 24 #[.pointer (some ⟨lg, 0, none⟩)]) (hbx : Blk v bx 30 #[.slice A0 k c0])
    (hk : ps.length = k) (hk1 : k ≤ 1000000) (hD : DevA v A G 256 s) (hd : s.dead = false) (hl : Lg v lg G 0 64) (hlo : ¬ G.own lg) (hv : U64 s.now) (hs : s.steps < 600000000) (hr : WR v v.heap.size A0 ps) (hA0 : ∀ ad, A0 = some ad → ¬ G.own ad.block) (hz : ∀ p ∈ ps, 0 ≤ p.2 ∧ p.2 < 18446744073709551616) :
    Calls Try.prog 25 #[.pointer (some ⟨bg, 0, none⟩), .pointer (some ⟨bx, 0, none⟩)] v fun e w' => ((commitD 256 0 64 ps s).2 = true ∧ e = .returned (.tuple #[]) ∨ (commitD 256 0 64 ps s).2 = false ∧ Panics lostV e) ∧ DevA w' A G 256 (commitD 256 0 64 ps s).1 ∧ Mv G.own v w' := by
  have Hc := Lib.hid (commit_any v A G 256 s lg 0 64 A0 c0 ps k hk hk1 hD hd hl hlo (by decide) (fun j _ => hv j) hs hr hA0 hz)
  have cg : v.cell? ⟨bg, 0, none⟩ = some (.pointer (some ⟨lg, 0, none⟩)) := (hbg.cell 0).trans rfl
  have cx : v.cell? ⟨bx, 0, none⟩ = some (.slice A0 k c0) := (hbx.cell 0).trans rfl
  clear hk hD hd hl hlo hv hs hr hA0 hz hbg hbx
  go_enter Try.func25, Try.ntmps25
  go_wp2_with fail
  refine Hc.out.mono ?_
  rintro e w' ⟨⟨⟨h1, rfl⟩ | ⟨h1, hp⟩, hD2⟩, hm⟩
  · have H1 := Lib.hid h1
    have HD2 := Lib.hid hD2
    have Hm := Lib.hid hm
    clear h1 hD2 hm
    go_wp2_with fail
    go_end0
    exact ⟨.inl ⟨H1.out, rfl⟩, HD2.out, Hm.out⟩
  · unfold Panics at hp
    subst hp
    have H1 := Lib.hid h1
    have HD2 := Lib.hid hD2
    have Hm := Lib.hid hm
    clear h1 hD2 hm
    go_wp2_with fail
    simp only [bodyPost]
    exact ⟨trivial, .inr ⟨H1.out, rfl⟩, HD2.out, Hm.out⟩
set_option maxRecDepth 100000 in
set_option maxHeartbeats 4000000 in
/-- The closure that opens. -/
theorem again2 (v : World) (A : Nat → Prop) (G : Dv) (s : DS) (bd : Nat) (hbd : Blk v bd 23 #[.pointer (some ⟨G.d, 0, none⟩)]) (hD : DevA v A G 256 s) (hd : s.dead = false) (hv : U64 s.now) (hs : s.steps < 600000000) :
    Calls Try.prog 26 #[.pointer (some ⟨bd, 0, none⟩)] v fun e w' => ((runS (homeL s.now 256 0 64) s).2 = true ∧ e = .returned (.tuple #[]) ∨ (runS (homeL s.now 256 0 64) s).2 = false ∧ Panics lostV e) ∧ DevA w' A G 256 (runS (homeL s.now 256 0 64) s).1 ∧ Mv G.own v w' := by
  have Ho := Lib.hid (open_any v A G 256 s 0 64 hD hd (by decide) (fun j _ => hv j) (by omega))
  have cd : v.cell? ⟨bd, 0, none⟩ = some (.pointer (some ⟨G.d, 0, none⟩)) := (hbd.cell 0).trans rfl
  clear hD hd hv hs hbd
  go_enter Try.func26, Try.ntmps26
  go_wp2_with fail
  refine Ho.out.mono ?_
  rintro e w' ⟨⟨h1, lg, _, rfl, _⟩ | ⟨h1, hp⟩, hD2, hm⟩
  · have H1 := Lib.hid h1
    have HD2 := Lib.hid hD2
    have Hm := Lib.hid hm
    clear h1 hD2 hm
    go_wp2_with fail
    go_end0
    exact ⟨.inl ⟨H1.out, rfl⟩, HD2.out, Hm.out⟩
  · unfold Panics at hp
    subst hp
    have H1 := Lib.hid h1
    have HD2 := Lib.hid hD2
    have Hm := Lib.hid hm
    clear h1 hD2 hm
    go_wp2_with fail
    simp only [bodyPost]
    exact ⟨trivial, .inr ⟨H1.out, rfl⟩, HD2.out, Hm.out⟩
end Go.Proofs.Ytdphillobnlpaaa
