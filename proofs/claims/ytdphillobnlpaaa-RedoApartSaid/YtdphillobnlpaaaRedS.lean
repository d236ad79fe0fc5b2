/- redo: a range over a function whose body may panic; drawn regions within a round. -/
import Derived.RangeFuncWrites
import Derived.RangeFuncLeaves
import Derived.StillTailTactics
import Derived.Test.YtdphillobnlpaaaRedQ
namespace Go.Proofs.Ytdphillobnlpaaa
open Go.RowKit
set_option linter.unusedVariables false
section
variable {f n : Nat} {P : Program} {Q : Exit → Act → World → Prop} {a : Act} {w : World}
/-- Code walked in the frames of one function. -/
def wpK (f : Nat) (P : Program) (c : Code) (Q : Exit → Act → World → Prop) (a : Act) (w : World) : Prop :=
  ∀ (b : Frame) (k : List Item) (cs : List Frame), b.roundOf = none → b.fn = f →
    ∃ e a' w', Q e a' w' ∧ ArrivesIn (Machine.fenced P Fence.wide) P (lone (b.atR a (.code c :: k)) cs w) b k cs e a' w'
theorem wpK_wp {c : Code} (h : c.wp P Q a w) : wpK f P c Q a w := fun b k cs hro _ => (wpIn_wide (n := 0)).2 h b k cs hro trivial (room_wide _)
theorem one_step {m m' : Machine} (h : step P m = .next m') : StepsIn (Machine.fenced P Fence.wide) P m m' := .one (fenced_wide P m) h
theorem wpK_seq {x y : Code} (h : wpK f P x (Exit.then (wpK f P y Q) Q) a w) : wpK f P (.seq x y) Q a w := by
  intro b k cs hro hb
  have s := one_step (stepR_seq (P := P) (b := b) (a := a) (x := x) (y := y) (k := k) (cs := cs) (w := w))
  obtain ⟨e, a1, w1, hq, h1⟩ := h b (.code y :: k) cs hro hb
  cases e with
  | normal =>
    obtain ⟨e2, a2, w2, hq2, h2⟩ := hq b k cs hro hb
    exact ⟨e2, a2, w2, hq2, .of_steps (s.trans h1) h2⟩
  | exit i => exact ⟨_, a1, w1, hq, .of_steps s (.pass (x := .code y) rfl (fun _ _ => .inl (by simp)) h1)⟩
  | goto l => exact ⟨_, a1, w1, hq, .of_steps s (.pass (x := .code y) rfl (fun _ _ => .inl (by simp)) h1)⟩
  | ret => exact ⟨_, a1, w1, hq, .of_steps s (.pass (x := .code y) rfl (fun _ _ => .inl (by simp)) h1)⟩
  | panic c => exact ⟨_, a1, w1, hq, .of_steps s (.pass (x := .code y) rfl (fun _ _ => .inl (by simp)) h1)⟩
  | outgrown => exact ⟨_, a1, w1, hq, .of_steps s (.pass (x := .code y) rfl (fun _ _ => .inl (by simp)) h1)⟩
/-- A block that is left by its end or by a panic. -/
theorem wpK_block {i : Nat} {c : Code} (h : wpK f P c (fun e a w => match e with | .normal => Q .normal a w | .panic ch => Q (.panic ch) a w | _ => False) a w) : wpK f P (.block i c) Q a w := by
  intro b k cs hro hb
  have s := one_step (stepR_block (P := P) (b := b) (a := a) (id := i) (c := c) (k := k) (cs := cs) (w := w))
  obtain ⟨e, a1, w1, hq, h1⟩ := h b (.inBlock i :: k) cs hro hb
  cases e with
  | normal => exact ⟨.normal, a1, w1, hq, (s.trans h1).trans (one_step stepR_inBlock)⟩
  | panic ch => exact ⟨_, a1, w1, hq, .of_steps s h1⟩
  | exit i => exact hq.elim
  | goto l => exact hq.elim
  | ret => exact hq.elim
  | outgrown => exact hq.elim
theorem calls_marks {fn : Func} {c : Code} {args : Array Value} {R : Ending → World → Prop} (hf : P.funcs[f]? = some fn) (hb : fn.body = some c)
    (h : wpK f P c (bodyPostM Fence.wide n P fn R) { tmps := args ++ Array.replicate (fn.ntmps - args.size) undef, defers := [] } w) : Calls P f args w R := by
  refine (callsIn_wide (n := n)).1 ⟨trivial, fun cs hr => ?_⟩
  let b : Frame := { (default : Frame) with fn := f, kind := .normal, roundOf := none }
  have henter : Frame.enter P f args .normal = b.atR { tmps := args ++ Array.replicate (fn.ntmps - args.size) undef, defers := [] } [.code c] := by
    simp [Frame.enter, Frame.atR, hf, hb, b]
  obtain ⟨e, a', w', hq, h1⟩ := h b [] cs rfl rfl
  rw [← henter] at h1
  have fin : ∀ (u : FrameMode) (todo : List Item), LeavesInM Fence.wide n P fn a'.tmps R a'.defers u w' → StepsIn (Machine.fenced P Fence.wide) P (lone (Frame.enter P f args .normal) cs w) (lone { b.atR a' todo with mode := u } cs w') →
      ∃ e w'' fr, R e w'' ∧ ComesIn (Machine.fenced P Fence.wide) P (lone (Frame.enter P f args .normal) cs w) (lone fr cs w'') e ∧ fr.fn = f ∧ fr.leaving P w'' e := fun u todo hl hs => by
    obtain ⟨e', w'', fr', hR, h2, h3, h4⟩ := leaves_stepsInM (F := Fence.wide) (n := n) a'.defers u w' { b.atR a' todo with mode := u } cs rfl rfl rfl hf rfl trivial hr hl
    exact ⟨e', w'', fr', hR, ComesIn.of_steps hs h2, h3, h4⟩
  cases e with
  | normal => exact fin .returning [] hq (StepsIn.trans h1 (one_step (stepR_end rfl)))
  | ret =>
    obtain ⟨todo, hs⟩ := h1.1 rfl
    exact fin .returning todo hq hs
  | panic ch =>
    obtain ⟨todo, hs⟩ := h1
    exact fin (.panicking ch) todo hq hs
  | exit i => exact hq.elim
  | goto l => exact hq.elim
  | outgrown => exact ⟨.outgrown, w', b, hq, h1.resolve_left (by simp [b]), rfl, trivial⟩
/-- How a round's body may end: by its end, or by a panic. -/
def roundEnd {α : Type} (B : Nat) (Kp : World → World → Prop) (I : List α → World → Prop) (Ip : List PanicEntry → World → Prop) (xs : List α) (W : World) : Exit → Act → World → Prop
  | .normal, _, W' => KeepsFrom B W W' ∧ Kp W W' ∧ I xs W'
  | .panic ch, a', W' => a'.defers = [] ∧ KeepsFrom B W W' ∧ Ip ch W'
  | _, _, _ => False
/-- One round, its body's panic taken in. -/
theorem round_steps {l : Nat} {tmps : Array Value} {assign body : Code} {R : Ending → World → Prop} (hk : ∃ fn, P.funcs[f]? = some fn)
    (h : assign.wpIn (Fence.wide.inRound l) n P (Exit.then (fun a1 w1 => ∃ w2, (Instr.beginRound l).run P w1 = .ok () w2 ∧ body.wpIn (Fence.wide.inRound l) n P (fun e a3 w3 => match e with
        | .normal => ∃ v w4, (Instr.endRound l none).run P w3 = .ok v w4 ∧ R (.returned v) w4
        | .panic ch => a3.defers = [] ∧ R (.panicked ch) w3
        | _ => False) a1 w2) (fun _ _ _ => False)) { tmps := tmps, defers := [] } w) :
    RoundIn Fence.wide n P l f tmps assign body w R := by
  refine ⟨trivial, fun c cs hr => ?_⟩
  let b : Frame := { (default : Frame) with fn := f, kind := .normal, roundOf := some l }
  have e0 : Frame.round l f tmps assign body .normal = b.atR { tmps := tmps, defers := [] } [.code assign, .beginRound, .code body] := by simp [Frame.round, Frame.atR, b]
  obtain ⟨e, a1, w1, hq, h1⟩ := h b [.beginRound, .code body] (c :: cs) rfl trivial (room_wide _)
  rw [← e0] at h1
  cases e with
  | normal =>
    obtain ⟨w2, hbr, hbody⟩ := hq
    have s1 := StepsIn.trans h1 (one_step (stepR_beginRound (P := P) (b := b) (a := a1) (k := [.code body]) (cs := c :: cs) rfl hbr))
    obtain ⟨e2, a2, w3, hq2, h2⟩ := hbody b [] (c :: cs) rfl trivial (room_wide _)
    cases e2 with
    | normal =>
      obtain ⟨v, w4, hend, hR⟩ := hq2
      exact ⟨.returned v, w4, hR, StepsIn.trans (StepsIn.trans s1 h2) (one_step (stepR_round_end rfl rfl hend))⟩
    | panic ch =>
      obtain ⟨hd, hR⟩ := hq2
      obtain ⟨todo, hs⟩ := h2
      exact ⟨.panicked ch, w3, hR, StepsIn.trans (StepsIn.trans s1 hs) (one_step (step_leave_panicked ⟨rfl, hd, hk⟩))⟩
    | ret => exact hq2.elim
    | exit i => exact hq2.elim
    | goto i => exact hq2.elim
    | outgrown => exact hq2.elim
  | exit i => exact hq.elim
  | goto i => exact hq.elim
  | ret => exact hq.elim
  | panic ch => exact hq.elim
  | outgrown => exact hq.elim
/-- The statement. -/
theorem wpK_range {α : Type} {g : Operand} {ps : Array Tmp} {assign body : Code} (hk : ∃ fn, P.funcs[f]? = some fn) {gf : Nat} {lb : Array Value} (hg : a.eval g = .func (.func gf) #[] lb)
    (eg : ∀ args w, (callFunc gf args).run P w = .ok (.enter gf args) w) {encs : α → Array Value} (hps : ∀ x, (encs x).size = ps.size) {Kp : World → World → Prop} {S : List α → Prop} {Ok : List α → α → Prop}
    (hseq : ∀ (l : Nat) (J : List α → World → Prop) (Jp : Ending → World → Prop) (W1 : World), (∀ e W, Jp e W → ∃ ch, e = .panicked ch) → Below w.heap.size w W1 →
      (∀ pre x W, J pre W → Ok pre x → YieldAt Fence.wide n P l (encs x) W fun e W' => (e = .returned (.bool true) ∧ J (pre ++ [x]) W' ∧ Kp W W') ∨ Jp e W') → J [] W1 →
      CallsIn Fence.wide (n + 1) P gf (#[.func (.yield l) #[] #[]] ++ lb) W1 fun e W' => ((∃ v, e = .returned v) ∧ ∃ xs, S xs ∧ J xs W') ∨ Jp e W')
    (hKt : ∀ {A B C : World}, Kp A B → Kp B C → Kp A C) (hKb : ∀ (W : World) (l : Nat) (o o' : Obj), w.heap.size ≤ l → W.heap[l]? = some o → o.isCells = false → Kp W (W.putObj l o'))
    (I : List α → World → Prop) (Ip : List PanicEntry → World → Prop) (hI : OwnFrom w.heap.size I) (h0 : I [] w)
    (hround : ∀ (l : Nat) (pre : List α) (x : α) (W : World), w.heap.size ≤ l → l < W.heap.size → I pre W → Ok pre x →
      assign.wpIn (Fence.wide.inRound l) n P (Exit.then (fun a' W' => KeepsFrom w.heap.size W W' ∧ Kp W W' ∧ ∀ (r r' : Loop), W'.heap[l]? = some (.loop r) → body.wpIn (Fence.wide.inRound l) n P (roundEnd w.heap.size Kp I Ip (pre ++ [x]) (W'.putObj l (.loop r'))) a' (W'.putObj l (.loop r'))) (fun _ _ _ => False))
        { tmps := (ps.zip (encs x)).foldl (fun t (p, v) => t.setIfInBounds p v) a.tmps, defers := [] } W)
    (hdone : ∀ (D : Nat) (xs : List α) (W : World), w.heap.size ≤ D → S xs → I xs W → W.heap[D]? = some (.deferred (some [])) → Q .normal { a with defers := { target := .collected D, args := #[] } :: a.defers } W)
    (hpanic : ∀ (D : Nat) (ch : List PanicEntry) (W : World), w.heap.size ≤ D → Ip ch W → W.heap[D]? = some (.deferred (some [])) → Q (.panic ch) { a with defers := { target := .collected D, args := #[] } :: a.defers } W) :
    wpK f P (.rangeFunc g ps assign body) Q a w := by
  intro b k cs hro hb
  obtain ⟨rec, hrec⟩ : ∃ rec : LoopState → Loop, rec = fun st => { state := st, pending := none, fn := f, tmps := a.tmps, params := ps, assign, body, defers := w.heap.size } := ⟨_, rfl⟩
  obtain ⟨W1, hW1⟩ : ∃ W1, (w.alloc (.deferred (some []))).alloc (.loop (rec .ready)) = W1 := ⟨_, rfl⟩
  have hL1 : W1.heap[w.heap.size + 1]? = some (.loop (rec .ready)) := by
    rw [← hW1]
    have := World.alloc_heap_new (w.alloc (.deferred (some []))) (.loop (rec .ready))
    rwa [World.size_alloc] at this
  have hD1 : W1.heap[w.heap.size]? = some (.deferred (some [])) := by
    rw [← hW1]
    exact (Below.heap_alloc _ _ _ (by simp)).trans (World.alloc_heap_new w _)
  have hB1 : Below w.heap.size w W1 := by
    rw [← hW1]
    exact ((Below.refl _ w).alloc (Nat.le_refl _) _).alloc (by simp) _
  have hI1 : I [] W1 := by rw [← hW1]; exact hI.alloc _ (hI.alloc _ h0)
  have henter : (Instr.enterLoop b.fn a.tmps ps assign body b.roundOf).run P w = .ok (w.heap.size + 1, [{ target := .collected w.heap.size, args := #[] }]) W1 := by
    rw [hro, hb, ← hW1, hrec]
    exact run_enterLoop_outer _ _ _ _ _
  have hres : (resolve a.eval (rangeCall g (w.heap.size + 1)) 0).run P W1 = .ok { target := .fn (.func gf) lb, args := #[.func (.yield (w.heap.size + 1)) #[] #[]] } W1 := by
    simp only [resolve, hg]
    simp [go_sem]
  have hinv : (invoke (.fn (.func gf) lb) #[.func (.yield (w.heap.size + 1)) #[] #[]]).run P W1 = .ok (.enter gf (#[.func (.yield (w.heap.size + 1)) #[] #[]] ++ lb)) W1 := by
    simp [invoke, go_sem, eg]
  have sin := one_step (stepR_rangeFunc (P := P) (b := b) (a := a) (k := k) (cs := cs) (w := w) henter hres hinv)
  have hit := hseq (w.heap.size + 1) (fun pre W => I pre W ∧ W.heap[w.heap.size + 1]? = some (.loop (rec .ready)) ∧ W.heap[w.heap.size]? = some (.deferred (some [])))
    (fun e W => ∃ ch, e = .panicked ch ∧ Ip ch W ∧ W.heap[w.heap.size]? = some (.deferred (some []))) W1 (fun e W ⟨ch, h, _⟩ => ⟨ch, h⟩) hB1 ?_ ⟨hI1, hL1, hD1⟩
  · obtain ⟨e, w3, fr, hR, hs, hfn, hlv⟩ := hit.2 (b.atR { a with defers := [{ target := .collected w.heap.size, args := #[] }] ++ a.defers } (.inRangeFunc (w.heap.size + 1) :: k) :: cs) (room_wide _)
    rcases hR with ⟨⟨v, rfl⟩, xs, hS, hi, hl, hd⟩ | ⟨ch, rfl, hp, hd⟩
    · have hend : (Instr.endLoop (w.heap.size + 1)).run P w3 = .ok none (w3.putObj (w.heap.size + 1) (.loop { rec .ready with state := .exhausted })) := by
        have := run_endLoop (P := P) hl (by rw [hrec]; simp)
        rw [hrec] at this ⊢
        exact this
      refine ⟨.normal, _, w3.putObj (w.heap.size + 1) (.loop { rec .ready with state := .exhausted }), hdone w.heap.size xs _ (Nat.le_refl _) hS (hI.putObj _ hi (by omega) hl rfl) ((World.putObj_heap_other (by omega)).trans hd), ?_⟩
      refine StepsIn.trans sin (StepsIn.trans hs (StepsIn.trans (one_step (step_leave_returned hlv)) ?_))
      rw [finish_atR_inRangeFunc]
      exact one_step (stepR_endRangeFunc (P := P) (b := b) (a := { a with defers := [{ target := .collected w.heap.size, args := #[] }] ++ a.defers }) (k := k) (cs := cs) hend)
    · refine ⟨.panic ch, _, w3, hpanic w.heap.size ch w3 (Nat.le_refl _) hp hd, .inRangeFunc (w.heap.size + 1) :: k, ?_⟩
      refine StepsIn.trans sin (StepsIn.trans hs ?_)
      have := one_step (step_leave_panicked (c := b.atR { a with defers := [{ target := .collected w.heap.size, args := #[] }] ++ a.defers } (.inRangeFunc (w.heap.size + 1) :: k)) (cs := cs) hlv)
      rwa [Frame.raise_atR] at this
  · rintro pre x W ⟨hi, hl, hd⟩ hok
    have hlt : w.heap.size + 1 < W.heap.size := (Array.getElem?_eq_some_iff.1 hl).1
    have hy := run_yield (P := P) (args := encs x) hl (by rw [hrec]; exact hps x)
    rw [hrec] at hy
    refine ⟨f, _, assign, body, hy, round_steps hk (wpIn_mono (hround _ pre x W (by omega) hlt hi hok) ?_)⟩
    rintro e a' W' hq
    cases e with
    | normal =>
      obtain ⟨hkf, hkp, hbody⟩ := hq
      have hl' := hkf.same _ _ (by omega) hl rfl
      have hd' := hkf.same _ _ (Nat.le_refl _) hd rfl
      have hlt' : w.heap.size + 1 < W'.heap.size := (Array.getElem?_eq_some_iff.1 hl').1
      refine ⟨_, run_beginRound hl' (by rw [hrec]), wpIn_mono (hbody _ { rec .ready with state := .busy } hl') ?_⟩
      have hl2 : (W'.putObj (w.heap.size + 1) (.loop { rec .ready with state := .busy })).heap[w.heap.size + 1]? = some (.loop { rec .ready with state := .busy }) := World.putObj_heap_same hlt'
      have hd2 : (W'.putObj (w.heap.size + 1) (.loop { rec .ready with state := .busy })).heap[w.heap.size]? = some (.deferred (some [])) := (World.putObj_heap_other (by omega)).trans hd'
      rintro e3 a3 W3 hq3
      cases e3 with
      | normal =>
        obtain ⟨k3, p3, i3⟩ := hq3
        have hl3 := k3.same _ _ (by omega) hl2 rfl
        have hd3 := k3.same _ _ (Nat.le_refl _) hd2 rfl
        have hend := run_endRound (P := P) none hl3
        refine ⟨_, _, hend, .inl ⟨rfl, ⟨hI.putObj _ i3 (by omega) hl3 rfl, ?_, (World.putObj_heap_other (by omega)).trans hd3⟩, ?_⟩⟩
        · rw [hrec]
          exact World.putObj_heap_same (Array.getElem?_eq_some_iff.1 hl3).1
        · exact hKt hkp (hKt (hKb _ _ _ _ (by omega) hl' rfl) (hKt p3 (hKb _ _ _ _ (by omega) hl3 rfl)))
      | panic ch =>
        obtain ⟨d3, k3, p3⟩ := hq3
        exact ⟨d3, .inr ⟨ch, rfl, p3, k3.same _ _ (Nat.le_refl _) hd2 rfl⟩⟩
      | ret => exact hq3.elim
      | exit i => exact hq3.elim
      | goto i => exact hq3.elim
      | outgrown => exact hq3.elim
    | exit i => exact hq.elim
    | goto i => exact hq.elim
    | ret => exact hq.elim
    | panic ch => exact hq.elim
    | outgrown => exact hq.elim
/-- Operations without a deferred call go within a round as they go without. -/
theorem wpOps_round {ops : Array Oper} (l : Nat) (hQ : ¬ LetsOut Q) (hd : ∀ (i : Nat) (o : Oper) (c : Call), ops[i]? = some o → o.op ≠ .defer c) : ∀ (L : List Nat) (a : Act) (w : World), wpOps P ops Q L a w → wpOpsIn (Fence.wide.inRound l) n P ops Q L a w
  | [], a, w, h => h
  | i :: L, a, w, h => by
    unfold wpOps at h
    unfold wpOpsIn
    cases ho : ops[i]? with
    | none =>
      simp only [ho] at h ⊢
      exact wpOps_round l hQ hd L a w h
    | some o =>
      simp only [ho] at h ⊢
      by_cases hw : Region.wanted o (yielded ops a.tmps) = true
      · simp only [hw, if_true] at h ⊢
        rcases h with h | h
        · refine ⟨fun _ _ => trivial, ?_⟩
          rw [Oper.semAt_eq _ _ _ (fun c => hd i o c ho)]
          unfold Oper.wp at h
          generalize (execOp a.eval o).run P w = r at h ⊢
          cases r with
          | ok x w' =>
            cases x <;> simp only [Oper.upon] at h <;> simp only [Oper.uponIn]
            case value v => exact wpOps_round l hQ hd L _ _ h
            case skip => exact wpOps_round l hQ hd L _ _ h
            case defer d => exact wpOps_round l hQ hd L _ _ h
            case enter g args =>
              refine ⟨fun h => by simp [Fence.wide] at h, ((callsIn_wide (n := n - 1)).2 h).mono ?_⟩
              intro e w'' he
              cases e with
              | returned v => exact wpOps_round l hQ hd L _ _ he
              | panicked c => exact he
              | outgrown => exact he
            case row row args =>
              refine ⟨fun h => by simp [Fence.wide] at h, fun c cs _ => ?_⟩
              obtain ⟨v, w'', hR, hs⟩ := h c cs
              exact ⟨v, w'', wpOps_round l hQ hd L _ _ hR, stepsIn_wide.2 hs⟩
          | halt x w' =>
            cases x <;> simp only [Oper.upon] at h <;> simp only [Oper.uponIn]
            case panic v => exact h
        · exact absurd h.2 hQ
      · simp only [hw, Bool.false_eq_true, if_false] at h ⊢
        exact ⟨fun _ _ => trivial, wpOps_round l hQ hd L _ _ h⟩
end
end Go.Proofs.Ytdphillobnlpaaa
