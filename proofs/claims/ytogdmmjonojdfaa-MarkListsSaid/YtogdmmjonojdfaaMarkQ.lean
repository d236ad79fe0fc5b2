/- mark: what From's rounds keep; MarkCloses' closure. -/
import Derived.Test.YtogdmmjonojdfaaMarkP
namespace Go.Proofs.Ytogdmmjonojdfaa
open Go.RowKit
set_option linter.unusedVariables false
theorem ent_mem {out : List Nat} {x y : Nat} : y ∈ ent out x ↔ y ∈ out ∨ (y = x ∧ y ≠ 0) := by
  unfold ent
  by_cases h : x = 0 ∨ x ∈ out
  · rw [if_pos h]
    constructor
    · exact .inl
    · rintro (h1 | ⟨rfl, h2⟩)
      · exact h1
      · rcases h with h | h
        · exact absurd h h2
        · exact h
  · rw [if_neg h]
    have h0 : x ≠ 0 := fun e => h (.inl e)
    simp
    constructor
    · rintro (h1 | rfl)
      · exact .inl h1
      · exact .inr ⟨rfl, h0⟩
    · rintro (h1 | ⟨rfl, _⟩)
      · exact .inl h1
      · exact .inr rfl
theorem ent_nodup {out : List Nat} {x : Nat} (h : out.Nodup) : (ent out x).Nodup := by
  unfold ent
  split
  · exact h
  · rename_i hx
    rw [List.nodup_append]
    exact ⟨h, by simp, fun a ha b hb e => hx (.inr (by simp at hb; subst hb; subst e; exact ha))⟩
theorem entL_mem : ∀ {zs out : List Nat} {y : Nat}, y ∈ entL out zs ↔ y ∈ out ∨ (y ∈ zs ∧ y ≠ 0)
  | [], out, y => by simp [entL]
  | z :: zs, out, y => by
    show y ∈ entL (ent out z) zs ↔ _
    rw [entL_mem, ent_mem]
    simp only [List.mem_cons]
    constructor
    · rintro ((h | ⟨h, h0⟩) | ⟨h, h0⟩)
      · exact .inl h
      · exact .inr ⟨.inl h, h0⟩
      · exact .inr ⟨.inr h, h0⟩
    · rintro (h | ⟨h | h, h0⟩)
      · exact .inl (.inl h)
      · exact .inl (.inr ⟨h, h0⟩)
      · exact .inr ⟨h, h0⟩
theorem entL_nodup : ∀ {zs out : List Nat}, out.Nodup → (entL out zs).Nodup
  | [], out, h => h
  | z :: zs, out, h => entL_nodup (zs := zs) (ent_nodup h)
/-- What From's rounds keep. -/
structure FrI (roots : List Nat) (ans : Nat → List Nat × Int) (out asked : List Nat) : Prop where
  nd : out.Nodup
  and : asked.Nodup
  sub : ∀ x ∈ asked, x ∈ out
  nz : ∀ x ∈ out, x ≠ 0
  rts : ∀ x ∈ roots, x ≠ 0 → x ∈ out
  closed : ∀ x ∈ asked, ∀ y ∈ (ans x).1, y ≠ 0 → y ∈ out
  from_ : ∀ x ∈ out, x ∈ roots ∨ ∃ y ∈ asked, x ∈ (ans y).1
theorem Fr.inv {roots : List Nat} {ans : Nat → List Nat × Int} {most : Int} {out asked : List Nat} (h : Fr roots ans most out asked) : FrI roots ans out asked := by
  induction h with
  | start => exact ⟨entL_nodup (by simp), by simp, by simp, fun x hx => by rcases entL_mem.1 hx with h | h; cases h; exact h.2, fun x hx h0 => entL_mem.2 (.inr ⟨hx, h0⟩), by simp, fun x hx => by rcases entL_mem.1 hx with h | h; cases h; exact .inl h.1⟩
  | @step out asked x h1 hx hxa hm _ _ ih =>
    refine ⟨entL_nodup ih.nd, ?_, ?_, ?_, ?_, ?_, ?_⟩
    · rw [List.nodup_append]
      exact ⟨ih.and, by simp, fun a ha b hb e => hxa (by simp at hb; subst hb; subst e; exact ha)⟩
    · intro y hy
      refine entL_mem.2 (.inl ?_)
      rcases List.mem_append.1 hy with h | h
      · exact ih.sub y h
      · simp at h; subst h; exact hx
    · intro y hy
      rcases entL_mem.1 hy with h | h
      · exact ih.nz y h
      · exact h.2
    · exact fun y hy h0 => entL_mem.2 (.inl (ih.rts y hy h0))
    · intro y hy z hz h0
      rcases List.mem_append.1 hy with h | h
      · exact entL_mem.2 (.inl (ih.closed y h z hz h0))
      · simp at h; subst h; exact entL_mem.2 (.inr ⟨hz, h0⟩)
    · intro y hy
      rcases entL_mem.1 hy with h | h
      · rcases ih.from_ y h with h | ⟨z, hz, h⟩
        · exact .inl h
        · exact .inr ⟨z, List.mem_append.2 (.inl hz), h⟩
      · exact .inr ⟨x, by simp, h.1⟩
theorem own_new {w : World} {B : Nat} {e : TypeId} {A : Option Addr} {c n : Nat} {xs : List Value} (h : w.ownsRow B e 1 (.slice A n c) n xs) : ∀ ad, A = some ad → B ≤ ad.block := by
  intro ad hA
  subst hA
  rcases h.2 with ⟨h1, h2⟩ | ⟨g, cap, cur, hv, hg, _⟩
  · cases h1
  · cases hv; exact hg
/-- What hangs on a number: its double and its double and one, up to a bound; those below k. -/
def clN (M a k : Nat) : List Nat := ((List.range (k - a)).map fun i => a + i).filter fun z => decide (z ≤ M)
theorem clN_succ {M a k : Nat} (h : a ≤ k) : clN M a (k + 1) = clN M a k ++ if k ≤ M then [k] else [] := by
  unfold clN
  rw [show k + 1 - a = (k - a) + 1 by omega, List.range_succ, List.map_append, List.filter_append]
  congr 1
  simp only [List.map_cons, List.map_nil, show a + (k - a) = k by omega, List.filter_cons, List.filter_nil]
  by_cases h1 : k ≤ M <;> simp [h1]
theorem clN_mem {M a k z : Nat} : z ∈ clN M a k ↔ a ≤ z ∧ z < k ∧ z ≤ M := by
  unfold clN
  rw [List.mem_filter, List.mem_map]
  constructor
  · rintro ⟨⟨i, hi, rfl⟩, h2⟩
    simp at hi h2
    omega
  · rintro ⟨h1, h2, h3⟩
    exact ⟨⟨z - a, by simp; omega, by omega⟩, by simpa using h3⟩
def ansC (M x : Nat) : List Nat × Int := (clN M (2 * x) (2 * x + 2), 0)
theorem asksC (w : World) (M x b : Nat) (hM : M ≤ 256) (hx : x < 1000) (hb : Blk w b 3 #[.int .i64 (M : Int)]) : Calls Try.prog 7 #[.int .i64 (x : Int), .pointer (some ⟨b, 0, none⟩)] w (fun e w' => ∃ L cp, e = .returned (.tuple #[.slice L (ansC M x).1.length cp, .int .i64 0]) ∧ Reads w' w'.heap.size 1 L (ansC M x).1.length (Zs ((ansC M x).1.map Int.ofNat)) ∧ (∀ ad, L = some ad → w.heap.size ≤ ad.block) ∧ Below w.heap.size w w') := by
  have hcb := (hb.cell 0).trans rfl
  have hlt := hb.lt
  obtain ⟨a, ha⟩ : ∃ a, a = 2 * x := ⟨_, rfl⟩
  have e1 : IntKind.i64.wrap (2 * (x : Int)) = (a : Int) := by rw [wrap_small (by omega) (by omega)]; omega
  obtain ⟨a1, ha1⟩ : ∃ a1, a1 = a + 1 := ⟨_, rfl⟩
  have e2 : IntKind.i64.wrap ((a : Int) + 1) = (a1 : Int) := by rw [wrap_small (by omega) (by omega)]; omega
  have ha1b : a1 ≤ 2000 := by omega
  have Ha1 := Lib.hid ha1
  have Hans := Lib.hid (show ansC M x = (clN M a (a1 + 1), 0) by unfold ansC; rw [ha1, ha])
  have Hcb := Lib.hid hcb
  clear ha ha1 hb hcb
  go_enter Try.func7, Try.ntmps7
  go_wp2_with fail
  go_loopw [5, 6] (fun v5 v6 wr => ∃ (A : Option Addr) (n c k : Nat), v5 = .slice A n c ∧ v6 = .int .i64 (k : Int) ∧ k ≤ a1 + 1 ∧ n ≤ 1000000 ∧ Hid (a ≤ k ∧ n ≤ k - a) ∧ Hid (Sp w wr (.slice A n c) n ((clN M a k).map Int.ofNat) (.slice none 0 0) 0 []))
    (fun _ v6 _ => a1 + 1 - (intOf v6).toNat)
  case atStart => exact ⟨none, 0, 0, a, rfl, rfl, by have := Ha1.out; omega, by omega, Lib.hid ⟨by omega, by omega⟩, Lib.hid ⟨⟨by simp [Zs, clN], .inl ⟨rfl, rfl⟩⟩, ⟨by simp [Zs], .inl ⟨rfl, rfl⟩⟩, (fun b e => by cases e), Below.refl _ _⟩⟩
  case round =>
    obtain ⟨A, n, c, k, rfl, rfl, hk, hn, hak, hsp⟩ := hrel
    have hcl := (hsp.out.bel.cell (p := (⟨b, 0, none⟩ : Addr)) hlt).trans Hcb.out
    rcases Nat.lt_or_ge a1 k with hgt | hle
    · go_wp2_with fail
      go_ret2
      obtain rfl : k = a1 + 1 := by omega
      rw [Hans.out]
      have h1 := hsp.out.o1.1
      have hl : (clN M a (a1 + 1)).length = n := by simpa [Zs] using h1
      exact ⟨A, c, by rw [hl]; simp, by rw [hl]; exact Reads.of_own hsp.out.o1, own_new hsp.out.o1, hsp.out.bel⟩
    · have hwk := wrap_small (z := (k : Int) + 1) (by omega) (by omega)
      have hsu := Lib.hid (clN_succ (M := M) hak.out.1)
      rcases Nat.lt_or_ge M k with hMk | hMk
      · go_wp2_with fail
        refine ⟨⟨A, n, c, k + 1, rfl, by go_num, by omega, hn, Lib.hid ⟨by have := hak.out; omega, by have := hak.out; omega⟩, Lib.hid (by rw [hsu.out, if_neg (by omega)]; simpa using hsp.out)⟩, ?_⟩
        show a1 + 1 - ((k : Int) + 1).toNat < a1 + 1 - ((k : Int)).toNat
        omega
      · go_wp2_with (first
          | (at_builtin; refine wpList_pushL (w0 := w) (v := .slice A n c) (n := n) (x := (clN M a k).map Int.ofNat) (v' := .slice none 0 0) (n' := 0) (x' := []) rfl (.tmp 19) (.tmp 21) rfl rfl (hsp.out.alloc _) (by omega) (wr.heap.size + 1) (some ⟨wr.heap.size, 0, none⟩) 1 rfl (news := [(k : Int)]) (one_reads wr (k : Int) 3 rfl) (by omega) ?_; intro A6 c6 w6 hsp6; have Hsp6 := Lib.hid hsp6; clear hsp6)
          | fail)
        refine ⟨⟨A6, n + 1, c6, k + 1, by go_num, by go_num, by omega, by have := hak.out; have := Ha1.out; omega, Lib.hid ⟨by have := hak.out; omega, by have := hak.out; omega⟩, Lib.hid (by rw [hsu.out, if_pos (by omega)]; simpa using Hsp6.out)⟩, ?_⟩
        show a1 + 1 - ((k : Int) + 1).toNat < a1 + 1 - ((k : Int)).toNat
        omega
/-- What MarkCloses' closure holds: its bound's cell. -/
def IC (M b : Nat) (P : Nat → Prop) (w : World) (asked : List Nat) : Prop := P = (fun x => x = b) ∧ Blk w b 3 #[.int .i64 (M : Int)]
theorem ofC (M b : Nat) (hM : M ≤ 256) : Of 7 #[.pointer (some ⟨b, 0, none⟩)] 300 (IC M b) (ansC M) := {
  enters := fun W x => by kernel_rfl
  keep := fun P S w w' asked h hm hs => ⟨h.1, h.2.mv hm (fun e => hs _ e (by rw [h.1]))⟩
  low := fun P w asked h x hx => by rw [h.1] at hx; subst hx; exact h.2.lt
  asks := fun P w asked x hI _ hx h0 => by
    obtain ⟨rfl, hb⟩ := hI
    refine (asksC w M x b hM (by omega) hb).mono ?_
    rintro e w' ⟨L, cp, rfl, hr, hn, hbel⟩
    have ha : (ansC M x).2 = 0 := rfl
    rw [ha]
    exact ⟨L, cp, rfl, by rw [ints_zs]; exact hr, fun ad e => .inr (hn ad e), _, ⟨rfl, hb.mv (Mv.of_below hbel (fun _ => False)) (fun e => e)⟩, Mv.of_below hbel _, fun y hy => .inl hy⟩
  small := fun x hx => by
    refine ⟨?_, fun y hy => ?_⟩
    · unfold ansC clN
      refine Nat.lt_of_le_of_lt (List.length_filter_le _ _) ?_
      simp
    · have := clN_mem.1 hy
      omega }
/-- Halved again and again until it's no greater than R, it's R. -/
inductive Rch (R : Nat) : Nat → Prop
  | base : Rch R R
  | step {x y : Nat} : Rch R x → 2 * x ≤ y → y ≤ 2 * x + 1 → Rch R y
theorem Rch.ge {R x : Nat} (h : Rch R x) (hR : 0 < R) : R ≤ x := by
  induction h with
  | base => exact Nat.le_refl _
  | step _ h1 h2 ih => omega
theorem Rch.half {R x : Nat} (h : Rch R x) (hR : 0 < R) (hx : R < x) : Rch R (x / 2) := by
  cases h with
  | base => omega
  | @step z _ h h1 h2 =>
    have : x / 2 = z := by omega
    rw [this]
    exact h
/-- What MarkCloses asks of what From told. -/
structure LC (R M : Nat) (l : List Nat) : Prop where
  up : l.Pairwise (· < ·)
  lt : ∀ x ∈ l, x < 300
  rch : ∀ x ∈ l, Rch R x
  le : ∀ x ∈ l, x ≤ M ∨ x = R
  closed : ∀ x ∈ l, ∀ y, 2 * x ≤ y → y ≤ 2 * x + 1 → y ≤ M → y ∈ l
  root : R ∈ l
theorem strict_of {l : List Nat} (h : l.Pairwise (· ≤ ·)) (hn : l.Nodup) : l.Pairwise (· < ·) := by
  have := List.Pairwise.and h hn
  exact this.imp (fun h => by have := h.1; have := h.2; omega)
theorem fr_rch {R M : Nat} (hM : M ≤ 256) (hR : R ≤ 127) {out asked : List Nat} (h : Fr [R] (ansC M) 300 out asked) : ∀ x ∈ out, Rch R x ∧ (x ≤ M ∨ x = R) := by
  induction h with
  | start =>
    intro x hx
    rcases entL_mem.1 hx with h | h
    · cases h
    · have := h.1
      simp at this
      subst this
      exact ⟨.base, .inr rfl⟩
  | @step out asked x h1 hx hxa hm _ _ ih =>
    intro y hy
    rcases entL_mem.1 hy with h | h
    · exact ih y h
    · have := clN_mem.1 h.1
      exact ⟨.step (ih x hx).1 (by omega) (by omega), .inl this.2.2⟩
theorem lc_of {R M : Nat} (hM : M ≤ 256) (hR : R ≤ 127) (h0 : R ≠ 0) {out asked l : List Nat} (h : Fr [R] (ansC M) 300 out asked) (hall : ∀ x ∈ out, x ∈ asked) (hp : l.Perm out) (hs : l.Pairwise (· ≤ ·)) : LC R M l := by
  have hi := h.inv
  have hc := fr_rch hM hR h
  refine ⟨strict_of hs (hp.nodup_iff.2 hi.nd), ?_, fun x hx => (hc x (hp.mem_iff.1 hx)).1, fun x hx => (hc x (hp.mem_iff.1 hx)).2, ?_, hp.mem_iff.2 (hi.rts R (by simp) h0)⟩
  · intro x hx
    have := (hc x (hp.mem_iff.1 hx)).2
    omega
  · intro x hx y h1 h2 h3
    have hxo := hp.mem_iff.1 hx
    have := hi.nz x hxo
    exact hp.mem_iff.2 (hi.closed x (hall x hxo) y (clN_mem.2 ⟨h1, by omega, h3⟩) (by omega))
theorem fr_len {R M : Nat} (hM : M ≤ 256) (hR : R ≤ 127) {out asked : List Nat} (h : Fr [R] (ansC M) 300 out asked) : out.length ≤ 300 :=
  pigeon 300 out h.inv.nd (fun x hx => by have := (fr_rch hM hR h x hx).2; omega)
theorem fr_zero {M : Nat} {out asked : List Nat} (h : Fr [0] (ansC M) 300 out asked) : out = [] := by
  induction h with
  | start => rfl
  | @step out asked x h1 hx hxa hm _ _ ih => subst ih; cases hx
end Go.Proofs.Ytogdmmjonojdfaa
