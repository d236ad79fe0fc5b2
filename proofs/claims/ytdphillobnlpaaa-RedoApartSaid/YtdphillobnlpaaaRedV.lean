/- redo: plain: what home and Commit leave, whole or cut off. -/
import Derived.Test.YtdphillobnlpaaaRedU
namespace Go.Proofs.Ytdphillobnlpaaa
set_option linter.unusedVariables false
/-- Power stands, nothing is on its way, what is read lasts. -/
def Calm (s : DS) : Prop := (∀ j, s.last j = s.now j) ∧ (∀ j, s.way j = none) ∧ s.dead = false
theorem calm_noughts : Calm noughts := ⟨fun _ => rfl, fun _ => rfl, rfl⟩
theorem calm_power (s : DS) (p : Nat → Bool) : Calm (s.power p) := ⟨fun _ => rfl, fun _ => rfl, rfl⟩
def puts (f : Nat → Int) (σ : List (Nat × Int)) : Nat → Int := σ.foldl (fun g p => upd g p.1 p.2) f
def stL (σ : List (Nat × Int)) : List St := σ.map fun p => .store p.1 p.2
def blk (σ : List (Nat × Int)) (ws : List Nat) : List St := stL σ ++ setL (-1) (sorted ws)
theorem puts_snoc (f : Nat → Int) (σ : List (Nat × Int)) (p : Nat × Int) : puts f (σ ++ [p]) = upd (puts f σ) p.1 p.2 := by simp [puts]
theorem puts_cons (f : Nat → Int) (σ : List (Nat × Int)) (p : Nat × Int) : puts f (p :: σ) = puts (upd f p.1 p.2) σ := rfl
theorem puts_append (f : Nat → Int) (σ τ : List (Nat × Int)) : puts f (σ ++ τ) = puts (puts f σ) τ := by simp [puts]
theorem puts_out : ∀ (σ : List (Nat × Int)) (f : Nat → Int) (j : Nat), j ∉ σ.map Prod.fst → puts f σ j = f j
  | [], _, _, _ => rfl
  | p :: σ, f, j, h => by
    simp only [List.map_cons, List.mem_cons, not_or] at h
    rw [puts_cons, puts_out σ _ j h.2, upd, if_neg h.1]
theorem puts_mem : ∀ (σ : List (Nat × Int)) (f : Nat → Int) (j : Nat), puts f σ j = f j ∨ (j, puts f σ j) ∈ σ
  | [], _, _ => .inl rfl
  | p :: σ, f, j => by
    rw [puts_cons]
    rcases puts_mem σ (upd f p.1 p.2) j with h | h
    · by_cases e : j = p.1
      · right
        rw [h, upd, if_pos e, e]
        exact List.mem_cons_self ..
      · left
        rw [h, upd, if_neg e]
    · exact .inr (List.mem_cons_of_mem _ h)
/-- What is put doesn't ask what stood there. -/
theorem puts_in : ∀ (σ : List (Nat × Int)) (f g : Nat → Int) (j : Nat), (j ∉ σ.map Prod.fst → f j = g j) → puts f σ j = puts g σ j
  | [], _, _, _, h => h (by simp)
  | p :: σ, f, g, j, h => by
    rw [puts_cons, puts_cons]
    refine puts_in σ _ _ j (fun hj => ?_)
    by_cases e : j = p.1
    · simp [upd, e]
    · simp only [upd, if_neg e]
      exact h (by simp only [List.map_cons, List.mem_cons, not_or]; exact ⟨e, hj⟩)
/-- In the midst: each word is as it was or as it was put. -/
structure Mid (f : Nat → Int) (σ : List (Nat × Int)) (t : DS) : Prop where
  now : ∀ j, t.now j = f j ∨ (j, t.now j) ∈ σ
  last : ∀ j, t.last j = f j ∨ (j, t.last j) ∈ σ
  way : ∀ j x, t.way j = some x → x = f j ∨ (j, x) ∈ σ
def StIn (σ : List (Nat × Int)) : St → Prop
  | .store i v => (i, v) ∈ σ
  | _ => True
theorem Mid.on {f : Nat → Int} {σ : List (Nat × Int)} {t : DS} (h : Mid f σ t) {x : St} (hx : StIn σ x) : Mid f σ (x.on t) := by
  cases x with
  | store i v =>
    refine ⟨fun j => ?_, h.last, h.way⟩
    show upd t.now i v j = _ ∨ (j, upd t.now i v j) ∈ _
    by_cases e : j = i
    · right
      subst e
      simp only [upd, if_true]
      exact hx
    · simp only [upd, if_neg e]
      exact h.now j
  | flush i =>
    refine ⟨h.now, h.last, fun j x hw => ?_⟩
    change (if 8 * (i / 8) ≤ j ∧ j < 8 * (i / 8) + 8 then some (t.now j) else t.way j) = some x at hw
    split at hw
    · cases hw
      exact h.now j
    · exact h.way j x hw
  | fence =>
    refine ⟨h.now, fun j => ?_, fun j x hw => by cases hw⟩
    show (t.way j).getD (t.last j) = _ ∨ (j, (t.way j).getD (t.last j)) ∈ _
    cases hw : t.way j with
    | none => exact h.last j
    | some x => exact h.way j x hw
theorem Mid.run {f : Nat → Int} {σ : List (Nat × Int)} : ∀ (L : List St) (t : DS), Mid f σ t → (∀ x ∈ L, StIn σ x) → Mid f σ (runS L t).1
  | [], _, h, _ => h
  | x :: L, t, h, hL => by
    by_cases hf : t.fuse = 0
    · rw [runS_burn hf]
      exact ⟨h.now, h.last, h.way⟩
    · rw [runS_go hf]
      exact Mid.run L _ (h.on (hL x (List.mem_cons_self ..))) (fun y hy => hL y (List.mem_cons_of_mem _ hy))
theorem Mid.power {f : Nat → Int} {σ : List (Nat × Int)} {t : DS} (h : Mid f σ t) (p : Nat → Bool) (j : Nat) : (t.power p).now j = f j ∨ (j, (t.power p).now j) ∈ σ := by
  show (if p j = true then t.now j else t.last j) = _ ∨ (j, if p j = true then t.now j else t.last j) ∈ _
  split
  · exact h.now j
  · exact h.last j
theorem Mid.of {s : DS} (h : Calm s) (σ : List (Nat × Int)) : Mid s.now σ s := ⟨fun _ => .inl rfl, fun j => .inl (h.1 j), fun j x hw => by rw [h.2.1] at hw; cases hw⟩
theorem setL_in (σ : List (Nat × Int)) : ∀ (l : List Nat) (last : Int), ∀ x ∈ setL last l, StIn σ x
  | [], _, x, hx => by simp only [setL, List.mem_singleton] at hx; subst hx; trivial
  | i :: r, last, x, hx => by
    unfold setL at hx
    split at hx
    · exact setL_in σ r _ x hx
    · rcases List.mem_cons.1 hx with rfl | hx
      · trivial
      · exact setL_in σ r _ x hx
theorem blk_in (σ : List (Nat × Int)) (ws : List Nat) : ∀ x ∈ blk σ ws, StIn σ x := by
  intro x hx
  rcases List.mem_append.1 hx with hx | hx
  · obtain ⟨p, hp, rfl⟩ := List.mem_map.1 hx
    exact hp
  · exact setL_in σ _ _ x hx
theorem stL_run : ∀ (σ : List (Nat × Int)) (s : DS), (runS (stL σ) s).2 = true → (runS (stL σ) s).1.now = puts s.now σ ∧ (runS (stL σ) s).1.last = s.last ∧ (runS (stL σ) s).1.way = s.way
  | [], s, _ => ⟨rfl, rfl, rfl⟩
  | p :: σ, s, h => by
    change (runS (.store p.1 p.2 :: stL σ) s).2 = true at h
    change (runS (.store p.1 p.2 :: stL σ) s).1.now = _ ∧ (runS (.store p.1 p.2 :: stL σ) s).1.last = _ ∧ (runS (.store p.1 p.2 :: stL σ) s).1.way = _
    by_cases hf : s.fuse = 0
    · rw [runS_burn hf] at h
      cases h
    · rw [runS_go hf] at h ⊢
      exact stL_run σ _ h
theorem setL_run : ∀ (l : List Nat) (last : Int) (t : DS), (runS (setL last l) t).2 = true → (∀ j x, t.way j = some x → x = t.now j) →
    (∀ j, t.last j = t.now j ∨ t.way j = some (t.now j) ∨ ∃ i ∈ l, i / 8 = j / 8) → (∀ j : Nat, ((j / 8 : Nat) : Int) = last → t.way j = some (t.now j)) →
    (runS (setL last l) t).1.now = t.now ∧ (∀ j, (runS (setL last l) t).1.last j = t.now j) ∧ ∀ j, (runS (setL last l) t).1.way j = none
  | [], last, t, h, hw, hl, _ => by
    unfold setL at h ⊢
    by_cases hf : t.fuse = 0
    · rw [runS_burn hf] at h
      cases h
    · rw [runS_go hf] at h ⊢
      refine ⟨rfl, fun j => ?_, fun j => rfl⟩
      show (t.way j).getD (t.last j) = _
      cases hx : t.way j with
      | some x => exact hw j x hx
      | none =>
        rcases hl j with e | e | ⟨i, hi, _⟩
        · exact e
        · rw [hx] at e; cases e
        · cases hi
  | i :: r, last, t, h, hw, hl, hlast => by
    unfold setL at h ⊢
    by_cases e : ((i / 8 : Nat) : Int) = last
    · rw [if_pos e] at h ⊢
      refine setL_run r last t h hw (fun j => ?_) hlast
      rcases hl j with e1 | e1 | ⟨k, hk, e1⟩
      · exact .inl e1
      · exact .inr (.inl e1)
      · rcases List.mem_cons.1 hk with rfl | hk
        · exact .inr (.inl (hlast j (by rw [← e1]; exact e)))
        · exact .inr (.inr ⟨k, hk, e1⟩)
    · rw [if_neg e] at h ⊢
      by_cases hf : t.fuse = 0
      · rw [runS_burn hf] at h
        cases h
      · rw [runS_go hf] at h ⊢
        have hnew : ∀ j, (St.on (.flush i) t).way j = if j / 8 = i / 8 then some (t.now j) else t.way j := fun j => by
          show (if 8 * (i / 8) ≤ j ∧ j < 8 * (i / 8) + 8 then some (t.now j) else t.way j) = _
          by_cases hj : j / 8 = i / 8
          · rw [if_pos hj, if_pos (by omega)]
          · rw [if_neg hj, if_neg (by omega)]
        refine setL_run r _ (St.on (.flush i) t) h (fun j x hx => ?_) (fun j => ?_) (fun j hj => ?_)
        · rw [hnew] at hx
          split at hx
          · cases hx; rfl
          · exact hw j x hx
        · rw [hnew]
          by_cases hj : j / 8 = i / 8
          · rw [if_pos hj]
            exact .inr (.inl rfl)
          · rw [if_neg hj]
            rcases hl j with e1 | e1 | ⟨k, hk, e1⟩
            · exact .inl e1
            · exact .inr (.inl e1)
            · rcases List.mem_cons.1 hk with rfl | hk
              · exact absurd e1.symm hj
              · exact .inr (.inr ⟨k, hk, e1⟩)
        · rw [hnew, if_pos (by omega)]
          rfl
/-- A block of stores that is let last: whole, or cut off in the midst. -/
theorem blk_run {s : DS} (hs : Calm s) (σ : List (Nat × Int)) (ws : List Nat) (hc : ∀ p ∈ σ, ∃ z ∈ ws, z / 8 = p.1 / 8) :
    ((runS (blk σ ws) s).2 = true → Calm (runS (blk σ ws) s).1 ∧ (runS (blk σ ws) s).1.now = puts s.now σ) ∧
    ∀ p j, ((runS (blk σ ws) s).1.power p).now j = s.now j ∨ (j, ((runS (blk σ ws) s).1.power p).now j) ∈ σ := by
  refine ⟨fun h => ?_, fun p j => ((Mid.of hs σ).run _ _ (blk_in σ ws)).power p j⟩
  have hd := runS_dead _ _ h
  rw [hs.2.2] at hd
  unfold blk at h hd ⊢
  rw [runS_append] at h hd ⊢
  by_cases h1 : (runS (stL σ) s).2 = true
  · rw [if_pos h1] at h hd ⊢
    obtain ⟨e1, e2, e3⟩ := stL_run σ s h1
    obtain ⟨f1, f2, f3⟩ := setL_run (sorted ws) (-1) (runS (stL σ) s).1 h (fun j x hx => by rw [e3, hs.2.1] at hx; cases hx) (fun j => by
      rw [e1, e2, e3]
      rcases puts_mem σ s.now j with e | e
      · left
        rw [e]
        exact hs.1 j
      · obtain ⟨z, hz, hzj⟩ := hc _ e
        exact .inr (.inr ⟨z, sorted_mem.2 hz, hzj⟩)) (fun j hj => by omega)
    rw [e1] at f1 f2
    exact ⟨⟨fun j => by rw [f2, f1], f3, hd⟩, f1⟩
  · rw [if_neg h1] at h
    exact absurd h h1
/-- What stands in a log. -/
def hsg (now : Nat → Int) (n at_ words : Nat) (l : List Nat) : List (Nat × Int) := (l.filter fun i => okW n at_ words (hwd now at_ i)).map fun i => ((hwd now at_ i).toNat, hvl now at_ i)
theorem hst_eq (now : Nat → Int) (n at_ words : Nat) : ∀ l : List Nat, hst now n at_ words l = stL (hsg now n at_ words l)
  | [] => rfl
  | i :: r => by
    unfold hst hsg
    by_cases h : okW n at_ words (hwd now at_ i) = true
    · rw [if_pos h, List.filter_cons, if_pos h, hst_eq now n at_ words r]
      rfl
    · rw [if_neg h, List.filter_cons, if_neg h, hst_eq now n at_ words r]
      rfl
theorem hws_eq (now : Nat → Int) (n at_ words : Nat) (l : List Nat) : hws now n at_ words l = (hsg now n at_ words l).map Prod.fst := by simp [hws, hsg]
theorem blk_one (at_ : Nat) (v : Int) : blk [(at_, v)] [at_] = sealL at_ v := by
  have e : ¬ ((at_ / 8 : Nat) : Int) = -1 := by omega
  have e1 : sorted [at_] = [at_] := by simp [sorted]
  unfold blk stL
  rw [e1, setL, if_neg e, setL]
  rfl
/-- The head says how many writes there are. -/
def HdOk (words at_ : Nat) (f : Nat → Int) : Prop := 0 ≤ f at_ ∧ f at_ ≤ ((words - 16) / 2 : Nat)
def hs_ (n at_ words : Nat) (f : Nat → Int) : List (Nat × Int) := hsg f n at_ words (List.range (f at_).toNat)
/-- What a device reads once the log is brought home. -/
def hE (n at_ words : Nat) (f : Nat → Int) : Nat → Int := puts f (hs_ n at_ words f)
def Sem (n at_ words : Nat) (f g : Nat → Int) : Prop := ∀ j, ¬ (at_ ≤ j ∧ j < at_ + words) → hE n at_ words f j = g j
theorem homeL_eq {n at_ words : Nat} {f : Nat → Int} (h : HdOk words at_ f) : homeL f n at_ words = if f at_ = 0 then [] else blk (hs_ n at_ words f) ((hs_ n at_ words f).map Prod.fst) ++ blk [(at_, 0)] [at_] := by
  unfold homeL
  by_cases e : f at_ = 0
  · rw [if_pos (.inl e), if_pos e]
  · rw [if_neg (by rintro (h1 | h1); exact e h1; have := h.2; omega), if_neg e, blk_one, hst_eq, homeT, hws_eq, blk, List.append_assoc]
    rfl
theorem hsg_out {n at_ words : Nat} {f : Nat → Int} {l : List Nat} (hp : ∀ i ∈ l, 0 ≤ hwd f at_ i) : ∀ p ∈ hsg f n at_ words l, ¬ (at_ ≤ p.1 ∧ p.1 < at_ + words) := by
  intro p hm
  obtain ⟨i, hi, rfl⟩ := List.mem_map.1 hm
  obtain ⟨hi1, hi2⟩ := List.mem_filter.1 hi
  have h0 := hp i hi1
  simp only [okW, ownB, Bool.and_eq_true, Bool.not_eq_true', decide_eq_true_eq, decide_eq_false_iff_not] at hi2
  omega
theorem hsg_congr {n at_ words : Nat} {f g : Nat → Int} {l : List Nat} (h : ∀ i ∈ l, f (at_ + 8 + 2 * i) = g (at_ + 8 + 2 * i) ∧ f (at_ + 8 + 2 * i + 1) = g (at_ + 8 + 2 * i + 1)) : hsg f n at_ words l = hsg g n at_ words l := by
  unfold hsg
  have e1 : ∀ i ∈ l, hwd f at_ i = hwd g at_ i := fun i hi => (h i hi).1
  have e2 : ∀ i ∈ l, hvl f at_ i = hvl g at_ i := fun i hi => (h i hi).2
  have e3 : l.filter (fun i => okW n at_ words (hwd f at_ i)) = l.filter (fun i => okW n at_ words (hwd g at_ i)) := List.filter_congr (fun i hi => by rw [e1 i hi])
  rw [e3]
  refine List.map_congr_left (fun i hi => ?_)
  have hi := (List.mem_filter.1 hi).1
  rw [e1 i hi, e2 i hi]
theorem hs_congr {n at_ words : Nat} {f g : Nat → Int} (h : HdOk words at_ f) (hw : 16 ≤ words) (he : ∀ j, at_ ≤ j → j < at_ + words → f j = g j) : hs_ n at_ words f = hs_ n at_ words g := by
  unfold hs_
  rw [← he at_ (Nat.le_refl _) (by omega)]
  refine hsg_congr (fun i hi => ?_)
  have hi := List.mem_range.1 hi
  have h2 := h.2
  have h1 := h.1
  exact ⟨he _ (by omega) (by omega), he _ (by omega) (by omega)⟩
theorem hE_zero {n at_ words : Nat} {f : Nat → Int} (h : f at_ = 0) : hE n at_ words f = f := by unfold hE hs_; rw [h]; rfl
/-- The words are no less than nought. -/
def Pos (f : Nat → Int) : Prop := ∀ j, 0 ≤ f j
theorem hs_out {n at_ words : Nat} {f : Nat → Int} (hp : Pos f) : ∀ p ∈ hs_ n at_ words f, ¬ (at_ ≤ p.1 ∧ p.1 < at_ + words) := hsg_out (fun i _ => hp _)
theorem home_mid {n at_ words : Nat} {f t : Nat → Int} (h : HdOk words at_ f) (hp : Pos f) (hw : 16 ≤ words) (ht : ∀ j, t j = f j ∨ (j, t j) ∈ hs_ n at_ words f) : HdOk words at_ t ∧ ∀ j, ¬ (at_ ≤ j ∧ j < at_ + words) → hE n at_ words t j = hE n at_ words f j := by
  have hin : ∀ j, at_ ≤ j → j < at_ + words → f j = t j := fun j h1 h2 => by
    rcases ht j with e | e
    · exact e.symm
    · exact absurd ⟨h1, h2⟩ (hs_out hp _ e)
  have e0 := hin at_ (Nat.le_refl _) (by omega)
  refine ⟨by unfold HdOk at h ⊢; rw [← e0]; exact h, fun j hj => ?_⟩
  unfold hE
  rw [← hs_congr h hw hin]
  refine puts_in _ _ _ j (fun hj2 => ?_)
  rcases ht j with e | e
  · exact e
  · exact absurd (List.mem_map.2 ⟨_, e, rfl⟩) hj2
/-- Home, whole or cut off. -/
theorem home_run {n at_ words : Nat} {s : DS} (hs : Calm s) (h : HdOk words at_ s.now) (hp : Pos s.now) (hw : 16 ≤ words) (g : Nat → Int) (hg : Sem n at_ words s.now g) :
    ((runS (homeL s.now n at_ words) s).2 = true → Calm (runS (homeL s.now n at_ words) s).1 ∧ (runS (homeL s.now n at_ words) s).1.now at_ = 0 ∧ ∀ j, ¬ (at_ ≤ j ∧ j < at_ + words) → (runS (homeL s.now n at_ words) s).1.now j = g j) ∧
    (∀ j, j ≠ at_ → (runS (homeL s.now n at_ words) s).2 = true → (runS (homeL s.now n at_ words) s).1.now j = hE n at_ words s.now j) ∧
    ∀ p, HdOk words at_ ((runS (homeL s.now n at_ words) s).1.power p).now ∧ Sem n at_ words ((runS (homeL s.now n at_ words) s).1.power p).now g ∧
      ∀ j, j ≠ at_ → ((runS (homeL s.now n at_ words) s).1.power p).now j = s.now j ∨ (j, ((runS (homeL s.now n at_ words) s).1.power p).now j) ∈ hs_ n at_ words s.now := by
  rw [homeL_eq h]
  by_cases e : s.now at_ = 0
  · rw [if_pos e]
    have hz := hE_zero (n := n) (words := words) e
    have hk : ∀ p, (s.power p).now = s.now := fun p => by
      funext j
      show (if p j = true then s.now j else s.last j) = s.now j
      rw [hs.1 j]
      split <;> rfl
    refine ⟨fun _ => ⟨hs, e, fun j hj => ?_⟩, fun j _ _ => ?_, fun p => ?_⟩
    · have := hg j hj
      rw [hz] at this
      exact this
    · rw [hz]; rfl
    · show HdOk words at_ (s.power p).now ∧ Sem n at_ words (s.power p).now g ∧ ∀ j, j ≠ at_ → (s.power p).now j = s.now j ∨ _
      rw [hk]
      exact ⟨h, hg, fun _ _ => .inl rfl⟩
  · rw [if_neg e]
    have hA := blk_run hs (hs_ n at_ words s.now) ((hs_ n at_ words s.now).map Prod.fst) (fun p hm => ⟨p.1, List.mem_map.2 ⟨p, hm, rfl⟩, rfl⟩)
    rw [runS_append]
    by_cases h1 : (runS (blk (hs_ n at_ words s.now) ((hs_ n at_ words s.now).map Prod.fst)) s).2 = true
    · rw [if_pos h1]
      obtain ⟨hc1, hn1⟩ := hA.1 h1
      clear hA
      generalize (runS (blk (hs_ n at_ words s.now) ((hs_ n at_ words s.now).map Prod.fst)) s).1 = s1 at hc1 hn1 ⊢
      have hB := blk_run hc1 [(at_, 0)] [at_] (fun p hm => ⟨p.1, by simp at hm ⊢; rw [hm], rfl⟩)
      have hn1' : s1.now = hE n at_ words s.now := hn1
      have hu : ∀ j, j ≠ at_ → puts s1.now [(at_, 0)] j = s1.now j := fun j hj => puts_out _ _ _ (by simpa using hj)
      refine ⟨fun h2 => ?_, fun j hj h2 => ?_, fun p => ?_⟩
      · obtain ⟨hc2, hn2⟩ := hB.1 h2
        refine ⟨hc2, by rw [hn2]; simp [puts, upd], fun j hj => ?_⟩
        rw [hn2, hu j (by omega), hn1']
        exact hg j hj
      · obtain ⟨hc2, hn2⟩ := hB.1 h2
        rw [hn2, hu j hj, hn1']
      · have ht := hB.2 p
        generalize ((runS (blk [(at_, 0)] [at_]) s1).1.power p).now = t at ht ⊢
        have htj : ∀ j, j ≠ at_ → t j = s1.now j := fun j hj => by
          rcases ht j with e | e
          · exact e
          · simp at e; exact absurd e.1 hj
        have hfr : ∀ j, j ≠ at_ → t j = s.now j ∨ (j, t j) ∈ hs_ n at_ words s.now := fun j hj => by
          rw [htj j hj, hn1]
          exact puts_mem _ _ _
        have hzero : t at_ = 0 → HdOk words at_ t ∧ Sem n at_ words t g := fun hz =>
          ⟨⟨by rw [hz]; exact Int.le_refl _, by rw [hz]; omega⟩, fun j hj => by rw [hE_zero hz, htj j (by omega), hn1']; exact hg j hj⟩
        rcases ht at_ with e1 | e1
        · have hm := home_mid (n := n) (t := t) h hp hw (fun j => by
            by_cases ej : j = at_
            · rw [ej, e1, hn1]
              exact puts_mem _ _ _
            · exact hfr j ej)
          exact ⟨hm.1, fun j hj => (hm.2 j hj).trans (hg j hj), hfr⟩
        · have hz : t at_ = 0 := by simpa using e1
          exact ⟨(hzero hz).1, (hzero hz).2, hfr⟩
    · rw [if_neg h1]
      refine ⟨fun h2 => absurd h2 h1, fun _ _ h2 => absurd h2 h1, fun p => ?_⟩
      have ht := hA.2 p
      generalize ((runS (blk (hs_ n at_ words s.now) ((hs_ n at_ words s.now).map Prod.fst)) s).1.power p).now = t at ht ⊢
      have hm := home_mid h hp hw ht
      exact ⟨hm.1, fun j hj => (hm.2 j hj).trans (hg j hj), fun j _ => ht j⟩
/-- Words of sixty-four bits. -/
def U64 (f : Nat → Int) : Prop := ∀ j, 0 ≤ f j ∧ f j < 18446744073709551616
theorem U64.pos {f : Nat → Int} (h : U64 f) : Pos f := fun j => (h j).1
theorem u64_zero : U64 fun _ => 0 := fun j => ⟨Int.le_refl 0, (by decide : (0 : Int) < 18446744073709551616)⟩
theorem U64.mid {f t : Nat → Int} {σ : List (Nat × Int)} (h : U64 f) (hσ : ∀ p ∈ σ, 0 ≤ p.2 ∧ p.2 < 18446744073709551616) (ht : ∀ j, t j = f j ∨ (j, t j) ∈ σ) : U64 t := fun j => by
  rcases ht j with e | e
  · rw [e]; exact h j
  · exact hσ _ e
theorem hs_val {n at_ words : Nat} {f : Nat → Int} (h : U64 f) : ∀ p ∈ hs_ n at_ words f, 0 ≤ p.2 ∧ p.2 < 18446744073709551616 := by
  intro p hm
  obtain ⟨i, hi, rfl⟩ := List.mem_map.1 hm
  exact h _
/-- Where the words of a log end up. -/
structure Ready (at_ words : Nat) (f : Nat → Int) : Prop where
  u : U64 f
  hd : HdOk words at_ f
structure HomeFin (n at_ words : Nat) (g f : Nat → Int) (r : DS × Bool) : Prop where
  all : r.2 = true → Calm r.1 ∧ U64 r.1.now ∧ r.1.now at_ = 0 ∧ ∀ j, ¬ (at_ ≤ j ∧ j < at_ + words) → r.1.now j = g j
  cut : ∀ p, Ready at_ words (r.1.power p).now ∧ Sem n at_ words (r.1.power p).now g
theorem home_fin {n at_ words : Nat} {s : DS} (hs : Calm s) (h : Ready at_ words s.now) (hw : 16 ≤ words) {g : Nat → Int} (hg : Sem n at_ words s.now g) : HomeFin n at_ words g s.now (runS (homeL s.now n at_ words) s) := by
  obtain ⟨h1, h2, h3⟩ := home_run hs h.hd h.u.pos hw g hg
  refine ⟨fun hr => ?_, fun p => ?_⟩
  · obtain ⟨k1, k2, k3⟩ := h1 hr
    refine ⟨k1, fun j => ?_, k2, k3⟩
    by_cases e : j = at_
    · rw [e, k2]; exact ⟨Int.le_refl _, by decide⟩
    · rw [h2 j e hr]
      exact (U64.mid h.u (hs_val h.u) (fun j => puts_mem _ _ j)) j
  · obtain ⟨k1, k2, k3⟩ := h3 p
    refine ⟨⟨fun j => ?_, k1⟩, k2⟩
    by_cases e : j = at_
    · rw [e]
      have hx := (Mid.of hs (hs_ n at_ words s.now ++ [(at_, 0)])).run (homeL s.now n at_ words) s (fun x hx => by
          rw [homeL_eq h.hd] at hx
          split at hx
          · cases hx
          · rcases List.mem_append.1 hx with hx | hx
            · have := blk_in _ _ x hx
              cases x with
              | store i v => exact List.mem_append_left _ this
              | flush => trivial
              | fence => trivial
            · have := blk_in _ _ x hx
              cases x with
              | store i v => exact List.mem_append_right _ this
              | flush => trivial
              | fence => trivial)
      exact ((U64.mid h.u (σ := hs_ n at_ words s.now ++ [(at_, 0)]) (fun p hp => by
          rcases List.mem_append.1 hp with hp | hp
          · exact hs_val h.u p hp
          · simp at hp; subst hp; exact ⟨Int.le_refl 0, (by decide : (0 : Int) < 18446744073709551616)⟩) (fun j => hx.power p j)) at_)
    · rcases k3 j e with e1 | e1
      · rw [e1]; exact h.u j
      · exact hs_val h.u _ e1
def nat2 (kp : List (Int × Int)) : List (Nat × Int) := kp.map fun p => (p.1.toNat, p.2)
def putS (at_ : Nat) : Nat → List (Int × Int) → List (Nat × Int)
  | _, [] => []
  | j, p :: r => (at_ + 8 + 2 * j, p.1) :: (at_ + 8 + 2 * j + 1, p.2) :: putS at_ (j + 1) r
theorem putL_eq (at_ : Nat) : ∀ (j : Nat) (kp : List (Int × Int)), putL at_ j kp = stL (putS at_ j kp)
  | _, [] => rfl
  | j, p :: r => by
    rw [putL, putS, putL_eq at_ (j + 1) r]
    rfl
theorem preL_eq (at_ : Nat) (kp : List (Int × Int)) : preL at_ kp = blk (putS at_ 0 kp) (places at_ kp.length) ++ blk [(at_, (kp.length : Int))] [at_] := by
  rw [preL, blk_one, putL_eq, blk, List.append_assoc]
theorem putS_ix (at_ : Nat) : ∀ (j : Nat) (kp : List (Int × Int)), ∀ p ∈ putS at_ j kp, ∃ i, j ≤ i ∧ i < j + kp.length ∧ (p.1 = at_ + 8 + 2 * i ∨ p.1 = at_ + 8 + 2 * i + 1)
  | _, [], _, h => by cases h
  | j, q :: r, p, h => by
    rcases List.mem_cons.1 h with rfl | h
    · exact ⟨j, Nat.le_refl _, by simp, .inl rfl⟩
    · rcases List.mem_cons.1 h with rfl | h
      · exact ⟨j, Nat.le_refl _, by simp, .inr rfl⟩
      · obtain ⟨i, h1, h2, h3⟩ := putS_ix at_ (j + 1) r p h
        exact ⟨i, by omega, by simp; omega, h3⟩
theorem putS_val (at_ : Nat) : ∀ (j : Nat) (kp : List (Int × Int)), ∀ p ∈ putS at_ j kp, (∃ q ∈ kp, p.2 = q.1) ∨ ∃ q ∈ kp, p.2 = q.2
  | _, [], _, h => by cases h
  | j, q :: r, p, h => by
    rcases List.mem_cons.1 h with rfl | h
    · exact .inl ⟨q, by simp, rfl⟩
    · rcases List.mem_cons.1 h with rfl | h
      · exact .inr ⟨q, by simp, rfl⟩
      · rcases putS_val at_ (j + 1) r p h with ⟨x, h1, h2⟩ | ⟨x, h1, h2⟩
        · exact .inl ⟨x, by simp [h1], h2⟩
        · exact .inr ⟨x, by simp [h1], h2⟩
theorem putS_get (at_ : Nat) : ∀ (kp : List (Int × Int)) (j : Nat) (f : Nat → Int) (i : Nat) (p : Int × Int), kp[i]? = some p → puts f (putS at_ j kp) (at_ + 8 + 2 * (j + i)) = p.1 ∧ puts f (putS at_ j kp) (at_ + 8 + 2 * (j + i) + 1) = p.2
  | [], _, _, _, _, h => by simp at h
  | q :: r, j, f, 0, p, h => by
    simp at h
    subst h
    have ho : ∀ k, k = at_ + 8 + 2 * j ∨ k = at_ + 8 + 2 * j + 1 → k ∉ (putS at_ (j + 1) r).map Prod.fst := fun k hk hm => by
      obtain ⟨p, hp, e⟩ := List.mem_map.1 hm
      obtain ⟨i, h1, h2, h3⟩ := putS_ix at_ (j + 1) r p hp
      omega
    rw [putS, puts_cons, puts_cons, show j + 0 = j from rfl, puts_out _ _ _ (ho _ (.inl rfl)), puts_out _ _ _ (ho _ (.inr rfl))]
    exact ⟨by simp [upd], by simp [upd]⟩
  | q :: r, j, f, i + 1, p, h => by
    rw [putS, puts_cons, puts_cons, show j + (i + 1) = j + 1 + i by omega]
    exact putS_get at_ r (j + 1) _ i p (by simpa using h)
theorem hsg_of {n at_ words : Nat} {f : Nat → Int} : ∀ (kp : List (Int × Int)) (j : Nat), (∀ i p, kp[i]? = some p → hwd f at_ (j + i) = p.1 ∧ hvl f at_ (j + i) = p.2) → (∀ p ∈ kp, okW n at_ words p.1 = true) → hsg f n at_ words (List.range' j kp.length) = nat2 kp
  | [], j, _, _ => rfl
  | p :: kp, j, h, hk => by
    obtain ⟨h1, h2⟩ := h 0 p rfl
    rw [Nat.add_zero] at h1 h2
    have ih := hsg_of (n := n) (words := words) kp (j + 1) (fun i p hp => by
      have := h (i + 1) p (by simpa using hp)
      rwa [show j + (i + 1) = j + 1 + i by omega] at this) (fun p hp => hk p (by simp [hp]))
    rw [List.length_cons, List.range'_succ]
    unfold hsg at ih ⊢
    rw [List.filter_cons, h1, if_pos (hk p (by simp)), List.map_cons, ih, h1, h2]
    rfl
structure KpOk (n at_ words : Nat) (kp : List (Int × Int)) : Prop where
  len : kp.length ≤ (words - 16) / 2
  pos : ∀ p ∈ kp, 0 ≤ p.1 ∧ okW n at_ words p.1 = true
  val : ∀ p ∈ kp, 0 ≤ p.2 ∧ p.2 < 18446744073709551616
theorem KpOk.out {n at_ words : Nat} {kp : List (Int × Int)} (h : KpOk n at_ words kp) {j : Nat} (hj : j ∈ (nat2 kp).map Prod.fst) : ¬ (at_ ≤ j ∧ j < at_ + words) := by
  simp only [nat2, List.map_map, List.mem_map, Function.comp_apply] at hj
  obtain ⟨p, hp, rfl⟩ := hj
  obtain ⟨h0, h1⟩ := h.pos p hp
  simp only [okW, ownB, Bool.and_eq_true, Bool.not_eq_true', decide_eq_true_eq, decide_eq_false_iff_not] at h1
  omega
structure CommitFin (n at_ words : Nat) (kp : List (Int × Int)) (s : DS) (r : DS × Bool) : Prop where
  all : r.2 = true → Calm r.1 ∧ U64 r.1.now ∧ r.1.now at_ = 0 ∧ ∀ j, ¬ (at_ ≤ j ∧ j < at_ + words) → r.1.now j = puts s.now (nat2 kp) j
  cut : ∀ p, Ready at_ words (r.1.power p).now ∧ (Sem n at_ words (r.1.power p).now s.now ∨ Sem n at_ words (r.1.power p).now (puts s.now (nat2 kp)))
  frame : ∀ p j, ¬ (at_ ≤ j ∧ j < at_ + words) → j ∉ (nat2 kp).map Prod.fst → (r.1.power p).now j = s.now j
theorem power_calm {s : DS} (hs : Calm s) (p : Nat → Bool) : (s.power p).now = s.now := by
  funext j
  show (if p j = true then s.now j else s.last j) = s.now j
  rw [hs.1 j]
  split <;> rfl
theorem commit_fin {n at_ words : Nat} {kp : List (Int × Int)} {s : DS} (hs : Calm s) (hu : U64 s.now) (h0 : s.now at_ = 0) (hw : 16 ≤ words ∧ at_ + words ≤ n ∧ n ≤ 65536 ∧ at_ % 8 = 0) (hk : KpOk n at_ words kp) : CommitFin n at_ words kp s (commitR n at_ words kp s) := by
  obtain ⟨hw1, hw2, hn6, hw3⟩ := hw
  have hh0 : HdOk words at_ s.now := ⟨by rw [h0]; exact Int.le_refl _, by rw [h0]; omega⟩
  have hself : Sem n at_ words s.now s.now := fun j _ => by rw [hE_zero h0]
  unfold commitR
  by_cases hkp : kp = []
  · subst hkp
    rw [if_pos rfl]
    refine ⟨fun _ => ⟨hs, hu, h0, fun _ _ => rfl⟩, fun p => ?_, fun p j _ _ => by rw [power_calm hs]⟩
    show Ready at_ words (s.power p).now ∧ (Sem n at_ words (s.power p).now s.now ∨ _)
    rw [power_calm hs]
    exact ⟨⟨hu, hh0⟩, .inl hself⟩
  rw [if_neg hkp]
  have hlen : 0 < kp.length := List.length_pos_iff.2 hkp
  have hkl := hk.len
  -- what the entries are
  have hσv : ∀ p ∈ putS at_ 0 kp, 0 ≤ p.2 ∧ p.2 < 18446744073709551616 := fun p hp => by
    rcases putS_val at_ 0 kp p hp with ⟨q, hq, e⟩ | ⟨q, hq, e⟩
    · rw [e]
      obtain ⟨k0, k1⟩ := hk.pos q hq
      simp only [okW, Bool.and_eq_true, decide_eq_true_eq] at k1
      omega
    · rw [e]; exact hk.val q hq
  have hσo : ∀ p ∈ putS at_ 0 kp, at_ < p.1 ∧ p.1 < at_ + words := fun p hp => by
    obtain ⟨i, h1, h2, h3⟩ := putS_ix at_ 0 kp p hp
    omega
  have hA := blk_run hs (putS at_ 0 kp) (places at_ kp.length) (fun p hp => by
    obtain ⟨i, h1, h2, h3⟩ := putS_ix at_ 0 kp p hp
    exact ⟨at_ + 8 + 2 * i, List.mem_map.2 ⟨i, List.mem_range.2 (by omega), rfl⟩, by omega⟩)
  -- a loss of power before the head is written
  have early : ∀ t : Nat → Int, (∀ j, t j = s.now j ∨ (j, t j) ∈ putS at_ 0 kp) → (Ready at_ words t ∧ Sem n at_ words t s.now) ∧ ∀ j, ¬ (at_ ≤ j ∧ j < at_ + words) → t j = s.now j := fun t ht => by
    have e0 : t at_ = 0 := by
      rcases ht at_ with e | e
      · rw [e, h0]
      · have := (hσo _ e).1; omega
    have eo : ∀ j, ¬ (at_ ≤ j ∧ j < at_ + words) → t j = s.now j := fun j hj => by
      rcases ht j with e | e
      · exact e
      · have := hσo _ e; omega
    exact ⟨⟨⟨hu.mid hσv ht, by rw [HdOk, e0]; exact ⟨Int.le_refl _, by omega⟩⟩, fun j hj => by rw [hE_zero e0]; exact eo j hj⟩, eo⟩
  rw [preL_eq, runS_append]
  by_cases h1 : (runS (blk (putS at_ 0 kp) (places at_ kp.length)) s).2 = true
  · rw [if_pos h1]
    obtain ⟨hc1, hn1⟩ := hA.1 h1
    clear hA h1
    generalize (runS (blk (putS at_ 0 kp) (places at_ kp.length)) s).1 = s1 at hc1 hn1 ⊢
    have hm1 : ∀ j, s1.now j = s.now j ∨ (j, s1.now j) ∈ putS at_ 0 kp := fun j => by rw [hn1]; exact puts_mem _ _ _
    have he1 := early s1.now hm1
    have hB := blk_run hc1 [(at_, (kp.length : Int))] [at_] (fun p hm => ⟨p.1, by simp at hm ⊢; rw [hm], rfl⟩)
    -- the log with its head
    have hsem2 : ∀ f : Nat → Int, (∀ j, j ≠ at_ → f j = s1.now j) → f at_ = kp.length → U64 f ∧ HdOk words at_ f ∧ hs_ n at_ words f = nat2 kp ∧ Sem n at_ words f (puts s.now (nat2 kp)) := fun f hf hfa => by
      have hhs : hs_ n at_ words f = nat2 kp := by
        unfold hs_
        rw [hfa, Int.toNat_natCast, List.range_eq_range']
        refine hsg_of kp 0 (fun i p hp => ?_) (fun p hp => (hk.pos p hp).2)
        have hg := putS_get at_ kp 0 s.now i p hp
        unfold hwd hvl
        rw [hf _ (by omega), hf _ (by omega), hn1]
        exact hg
      refine ⟨fun j => ?_, by rw [HdOk, hfa]; exact ⟨by omega, by omega⟩, hhs, fun j hj => ?_⟩
      · by_cases e : j = at_
        · rw [e, hfa]; omega
        · rw [hf j e]; exact he1.1.1.u j
      · unfold hE
        rw [hhs]
        exact puts_in _ _ _ j (fun _ => by rw [hf j (by omega)]; exact he1.2 j hj)
    by_cases h2 : (runS (blk [(at_, (kp.length : Int))] [at_]) s1).2 = true
    · rw [h2, if_pos rfl]
      obtain ⟨hc2, hn2⟩ := hB.1 h2
      clear hB h2
      generalize (runS (blk [(at_, (kp.length : Int))] [at_]) s1).1 = s2 at hc2 hn2 ⊢
      obtain ⟨q1, q2, q3, q4⟩ := hsem2 s2.now (fun j hj => by rw [hn2]; exact puts_out _ _ _ (by simpa using hj)) (by rw [hn2]; simp [puts, upd])
      have hH := home_fin hc2 ⟨q1, q2⟩ hw1 q4
      refine ⟨hH.all, fun p => ⟨(hH.cut p).1, .inr (hH.cut p).2⟩, fun p j hj hjk => ?_⟩
      obtain ⟨_, _, k3⟩ := home_run hc2 q2 q1.pos hw1 _ q4
      rcases (k3 p).2.2 j (by omega) with e | e
      · rw [e, hn2, puts_out _ _ _ (by simp; omega)]
        exact he1.2 j hj
      · rw [q3] at e
        exact absurd (List.mem_map.2 ⟨_, e, rfl⟩) hjk
    · rw [if_neg h2]
      have hcut := hB.2
      generalize runS (blk [(at_, (kp.length : Int))] [at_]) s1 = r2 at h2 hcut ⊢
      refine ⟨fun h => absurd h h2, fun p => ?_, fun p j hj _ => ?_⟩
      · have ht := hcut p
        generalize (r2.1.power p).now = t at ht ⊢
        have htj : ∀ j, j ≠ at_ → t j = s1.now j := fun j hj => by
          rcases ht j with e | e
          · exact e
          · simp at e; exact absurd e.1 hj
        rcases ht at_ with e | e
        · have : t = s1.now := by
            funext j
            by_cases ej : j = at_
            · rw [ej, e]
            · exact htj j ej
          rw [this]
          exact ⟨he1.1.1, .inl he1.1.2⟩
        · have e : t at_ = kp.length := by simpa using e
          obtain ⟨q1, q2, q3, q4⟩ := hsem2 t htj e
          exact ⟨⟨q1, q2⟩, .inr q4⟩
      · rcases hcut p j with e | e
        · rw [e]; exact he1.2 j hj
        · simp at e; omega
  · rw [if_neg h1]
    have hcut := hA.2
    generalize runS (blk (putS at_ 0 kp) (places at_ kp.length)) s = r1 at h1 hcut ⊢
    rw [if_neg h1]
    refine ⟨fun h => absurd h h1, fun p => ⟨(early _ (hcut p)).1.1, .inl (early _ (hcut p)).1.2⟩, fun p j hj _ => (early _ (hcut p)).2 j hj⟩
/-- The first entry of a word. -/
def lk (l : List (Int × Int)) (z : Int) : Option Int := (l.find? fun p => decide (p.1 = z)).map Prod.snd
theorem lk_cons (p : Int × Int) (l : List (Int × Int)) (z : Int) : lk (p :: l) z = if p.1 = z then some p.2 else lk l z := by
  unfold lk
  rw [List.find?_cons]
  by_cases h : p.1 = z <;> simp [h]
theorem lk_append : ∀ (a b : List (Int × Int)) (z : Int), lk (a ++ b) z = (lk a z).or (lk b z)
  | [], b, z => by simp [lk]
  | p :: a, b, z => by
    rw [List.cons_append, lk_cons, lk_cons, lk_append a b z]
    split <;> simp
theorem lk_none : ∀ (a : List (Int × Int)) (z : Int), z ∉ a.map Prod.fst → lk a z = none
  | [], _, _ => rfl
  | p :: a, z, h => by
    simp only [List.map_cons, List.mem_cons, not_or] at h
    rw [lk_cons, if_neg (fun e => h.1 e.symm), lk_none a z h.2]
theorem lk_some : ∀ (a : List (Int × Int)) (z : Int), z ∈ a.map Prod.fst → ∃ v, lk a z = some v
  | [], _, h => by cases h
  | p :: a, z, h => by
    rw [lk_cons]
    by_cases e : p.1 = z
    · exact ⟨p.2, if_pos e⟩
    · rw [if_neg e]
      refine lk_some a z ?_
      rw [List.map_cons, List.mem_cons] at h
      exact h.resolve_left (fun h => e h.symm)
theorem lk_kp : ∀ (l a : List (Int × Int)) (z : Int), lk (l.foldl kpStep a) z = lk (a ++ l) z
  | [], a, z => by simp
  | x :: l, a, z => by
    rw [List.foldl_cons, lk_kp l, kpStep]
    split
    · rename_i hx
      rw [lk_append, lk_append, lk_cons]
      by_cases e : x.1 = z
      · rw [e] at hx
        obtain ⟨v, hv⟩ := lk_some a z hx
        rw [hv]
        rfl
      · rw [if_neg e]
    · rw [List.append_assoc]
      rfl
theorem kp_nodup : ∀ (l a : List (Int × Int)), (a.map Prod.fst).Nodup → ((l.foldl kpStep a).map Prod.fst).Nodup
  | [], a, h => h
  | x :: l, a, h => by
    rw [List.foldl_cons]
    refine kp_nodup l _ ?_
    unfold kpStep
    split
    · exact h
    · rename_i hx
      rw [List.map_append, List.nodup_append]
      refine ⟨h, by simp, fun y hy z hz => ?_⟩
      simp at hz
      subst hz
      rintro rfl
      exact hx hy
/-- Among writes of words apart, any order will do. -/
theorem puts_lk : ∀ (l : List (Int × Int)) (f : Nat → Int) (j : Nat), (∀ p ∈ l, 0 ≤ p.1) → puts f (nat2 l) j = (lk l.reverse j).getD (f j)
  | [], _, _, _ => rfl
  | p :: l, f, j, h => by
    have ih := puts_lk l (upd f p.1.toNat p.2) j (fun q hq => h q (by simp [hq]))
    change puts (upd f p.1.toNat p.2) (nat2 l) j = _
    have h0 := h p (by simp)
    rw [ih, List.reverse_cons, lk_append, lk_cons]
    cases hl : lk l.reverse (j : Int) with
    | some v => rfl
    | none =>
      simp only [Option.getD_none, Option.none_or]
      by_cases e : p.1 = (j : Int)
      · rw [if_pos e, upd, if_pos (by omega)]
        rfl
      · rw [if_neg e, upd, if_neg (by omega)]
        rfl
theorem lk_rev : ∀ (l : List (Int × Int)) (z : Int), (l.map Prod.fst).Nodup → lk l.reverse z = lk l z
  | [], _, _ => rfl
  | p :: l, z, h => by
    rw [List.map_cons, List.nodup_cons] at h
    rw [List.reverse_cons, lk_append, lk_cons, lk_cons, lk_rev l z h.2]
    by_cases e : p.1 = z
    · rw [e] at h
      rw [if_pos e, if_pos e, lk_none l z h.1]
      rfl
    · rw [if_neg e, if_neg e]
      cases lk l z <;> rfl
/-- What Commit keeps says the same as all writes in their order. -/
theorem puts_kp (ps : List (Int × Int)) (f : Nat → Int) (h : ∀ p ∈ ps, 0 ≤ p.1) : puts f (nat2 (kpW ps.reverse)) = puts f (nat2 ps) := by
  funext j
  rw [puts_lk _ f j (fun p hp => h p (List.mem_reverse.1 (kpW_mem p hp))), puts_lk ps f j h]
  congr 1
  rw [lk_rev _ _ (by unfold kpW; exact kp_nodup _ _ (by simp))]
  unfold kpW
  rw [lk_kp, List.nil_append]
theorem kpOk_of {n at_ words : Nat} {ps : List (Int × Int)} (h : commitV n at_ words ps = 0) (hv : ∀ p ∈ ps, 0 ≤ p.2 ∧ p.2 < 18446744073709551616) : KpOk n at_ words (kpW ps.reverse) ∧ ∀ p ∈ ps, 0 ≤ p.1 := by
  unfold commitV at h
  split at h
  · cases h
  · rename_i hb
    split at h
    · cases h
    · rename_i hl
      have hp : ∀ p ∈ ps, 0 ≤ p.1 ∧ okW n at_ words p.1 = true := fun p hp => by
        have : badB n at_ words p.1 = false := by
          cases e : badB n at_ words p.1 with
          | false => rfl
          | true => exact absurd (List.any_eq_true.2 ⟨p, hp, e⟩) hb
        simp only [badB, Bool.or_eq_false_iff, decide_eq_false_iff_not, not_or] at this
        unfold okW
        rw [this.2]
        simp
        omega
      refine ⟨⟨?_, fun p hq => hp p (List.mem_reverse.1 (kpW_mem p hq)), fun p hq => hv p (List.mem_reverse.1 (kpW_mem p hq))⟩, fun p hq => (hp p hq).1⟩
      have := kpW_len ps.reverse
      rw [List.length_reverse] at this
      omega
/-- Commit as a whole: what is there behind it, whole or cut off. -/
structure CommitAll (n at_ words : Nat) (ps : List (Int × Int)) (s : DS) (r : DS × Bool) : Prop where
  all : r.2 = true → Calm r.1 ∧ U64 r.1.now ∧ r.1.now at_ = 0 ∧ ∀ j, ¬ (at_ ≤ j ∧ j < at_ + words) → r.1.now j = puts s.now (nat2 ps) j
  cut : ∀ p, Ready at_ words (r.1.power p).now ∧ (Sem n at_ words (r.1.power p).now s.now ∨ Sem n at_ words (r.1.power p).now (puts s.now (nat2 ps)))
  frame : ∀ p j, ¬ (at_ ≤ j ∧ j < at_ + words) → j ∉ (nat2 ps).map Prod.fst → (r.1.power p).now j = s.now j
theorem commit_all {n at_ words : Nat} {ps : List (Int × Int)} {s : DS} (hs : Calm s) (hu : U64 s.now) (h0 : s.now at_ = 0) (hw : 16 ≤ words ∧ at_ + words ≤ n ∧ n ≤ 65536 ∧ at_ % 8 = 0) (hc : commitV n at_ words ps = 0) (hv : ∀ p ∈ ps, 0 ≤ p.2 ∧ p.2 < 18446744073709551616) :
    CommitAll n at_ words ps s (commitD n at_ words ps s) := by
  obtain ⟨hk, hp⟩ := kpOk_of hc hv
  have h := commit_fin hs hu h0 hw hk
  unfold commitD
  rw [if_pos hc]
  rw [show commitR n at_ words (kpW ps.reverse) s = commitR n at_ words (kpW ps.reverse) s from rfl]
  have e := puts_kp ps s.now hp
  refine ⟨fun hr => ?_, fun p => ?_, fun p j hj hm => h.frame p j hj (fun hx => hm ?_)⟩
  · have := h.all hr
    rwa [e] at this
  · have := h.cut p
    rwa [e] at this
  · obtain ⟨x, hx2, rfl⟩ := List.mem_map.1 hx
    obtain ⟨y, hy, rfl⟩ := List.mem_map.1 hx2
    exact List.mem_map.2 ⟨_, List.mem_map.2 ⟨y, List.mem_reverse.1 (kpW_mem y hy), rfl⟩, rfl⟩
theorem hst_len (now : Nat → Int) (n at_ words : Nat) : ∀ l : List Nat, (hst now n at_ words l).length ≤ l.length
  | [] => Nat.le_refl _
  | i :: r => by
    have := hst_len now n at_ words r
    unfold hst
    split <;> simp <;> omega
theorem homeL_len (now : Nat → Int) (n at_ words : Nat) (hw : words ≤ 65536) : (homeL now n at_ words).length ≤ 100000 := by
  unfold homeL
  split
  · simp
  · rename_i h
    have h1 := hst_len now n at_ words (List.range (now at_).toNat)
    have h2 := setL_len (sorted (hws now n at_ words (List.range (now at_).toNat))) (-1)
    rw [sorted_len] at h2
    have h3 := hws_len now n at_ words (now at_).toNat
    rw [List.length_range] at h1
    rw [List.length_append, homeT, List.length_append]
    have h4 : (sealL at_ 0).length = 3 := rfl
    omega
theorem home_steps (n at_ words : Nat) (s : DS) (hw : words ≤ 65536) : (runS (homeL s.now n at_ words) s).1.steps ≤ s.steps + 100000 := by
  have h1 := runS_steps (homeL s.now n at_ words) s
  have h2 := homeL_len s.now n at_ words hw
  omega
theorem commit_steps (n at_ words : Nat) (ps : List (Int × Int)) (s : DS) (hw : words ≤ 65536) : (commitD n at_ words ps s).1.steps ≤ s.steps + 300000 := by
  unfold commitD
  split
  · rename_i hc
    have hl : ps.length ≤ (words - 16) / 2 := by
      unfold commitV at hc
      split at hc
      · cases hc
      · split at hc
        · cases hc
        · omega
    have h1 := kpW_len ps.reverse
    rw [List.length_reverse] at h1
    generalize kpW ps.reverse = kp at h1
    have h2 : (preL at_ kp).length ≤ 3 * kp.length + 4 := by
      have a1 := putL_len at_ 0 kp
      have a2 := setL_len (sorted (places at_ kp.length)) (-1)
      rw [sorted_len, places_len] at a2
      have h4 : (sealL at_ (kp.length : Int)).length = 3 := rfl
      unfold preL
      rw [List.length_append, List.length_append]
      omega
    have h3 := runS_steps (preL at_ kp) s
    unfold commitR
    split
    · show s.steps ≤ _
      omega
    · split
      · have h4 := home_steps n at_ words (runS (preL at_ kp) s).1 hw
        omega
      · omega
  · show s.steps ≤ _
    omega
theorem commit_free (n at_ words : Nat) (ps : List (Int × Int)) (s : DS) (h : s.fuse = -1) : (commitD n at_ words ps s).2 = true ∧ (commitD n at_ words ps s).1.fuse = -1 := by
  unfold commitD
  split
  · unfold commitR
    split
    · exact ⟨rfl, h⟩
    · obtain ⟨h1, h2⟩ := runS_free (preL at_ (kpW ps.reverse)) s h
      rw [if_pos h1]
      exact runS_free _ _ h2
  · exact ⟨rfl, h⟩
theorem home_free (n at_ words : Nat) (s : DS) (h : s.fuse = -1) : (runS (homeL s.now n at_ words) s).2 = true ∧ (runS (homeL s.now n at_ words) s).1.fuse = -1 := runS_free _ _ h
end Go.Proofs.Ytdphillobnlpaaa
