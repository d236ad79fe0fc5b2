/- redo: RedoBounds: the walk where Open is refused, and what N writes of one word leave. -/
import Derived.Test.YtdphillobnlpaaaRedBa
namespace Go.Proofs.Ytdphillobnlpaaa
open Go.RowKit
set_option linter.unusedVariables false
theorem devA_of {w : World} {G : Dv} {n : Nat} {s : DS} (hD : Dev w G.own G n s) : DevA w G.own G n s := ⟨hD, fun b hb => by
    obtain ⟨_, _, _, _, _, _, h1, h2, h3, h4⟩ := hD.apart
    rcases hb with rfl | rfl | rfl | rfl <;> assumption⟩
theorem bad_parts {a k : Int} (h : ¬ goodB a k) : a < 0 ∨ (0 ≤ a ∧ ¬ a % 8 = 0) ∨ (0 ≤ a ∧ a % 8 = 0 ∧ 256 < a) ∨ (0 ≤ a ∧ a % 8 = 0 ∧ a ≤ 256 ∧ k < 16) ∨ (0 ≤ a ∧ a % 8 = 0 ∧ a ≤ 256 ∧ 16 ≤ k ∧ 256 - a < k) := by
  unfold goodB at h
  by_cases h0 : a < 0
  · exact .inl h0
  rw [Int.tmod_eq_emod_of_nonneg (by omega)] at h
  omega
set_option maxRecDepth 100000 in
set_option maxHeartbeats 8000000 in
theorem bounds_bad (w : World) (a k n : Int) (hb : ¬ goodB a k) : Calls Try.prog 5 #[.int .i64 a, .int .i64 k, .int .i64 n] w fun e w' => e = .returned (.bool true) ∧ Mv (fun _ => False) w w' := by
  have Hb := Lib.hid hb
  clear hb
  rcases bad_parts Hb.out with h | ⟨h0, h⟩ | ⟨h0, h1, h⟩ | ⟨h0, h1, h2, h⟩ | ⟨h0, h1, h2, h3, h⟩
  all_goals (
    try have hs := wrap_small (z := 256 - a) (by omega) (by omega)
    go_enter Try.func5, Try.ntmps5
    go_wp2_with fail
    refine (new_any w 256 (by decide)).mono ?_
    rintro e w1 ⟨G, rfl, hF, hD, hM⟩
    have hA := devA_of hD
    have Ho := Lib.hid (open_bad w1 G.own G noughts a k hA Hb.out)
    have HM := Lib.hid hM
    clear hD hM hA hF
    go_wp2_with fail
    refine Ho.out.mono ?_
    rintro e w2 ⟨rfl, rfl⟩
    clear Ho
    go_wp2_with fail
    refine (open_nil _ a k).mono ?_
    rintro e w2 ⟨rfl, rfl⟩
    go_wp2_with fail
    refine (awake6_any _).mono ?_
    rintro e w2 ⟨rfl, hm⟩
    have Hm := Lib.hid hm
    clear hm
    go_wp2_with fail
    go_ret
    exact ⟨by simp, HM.out.trans Hm.out⟩)
/-- N writes of one word. -/
def bw (own N : Nat) : List (Int × Int) := (List.range N).map fun i => ((own : Int), ((i + 1 : Nat) : Int))
theorem bw_succ (own N : Nat) : bw own (N + 1) = bw own N ++ [((own : Int), ((N + 1 : Nat) : Int))] := by simp [bw, List.range_succ]
theorem bw_len (own N : Nat) : (bw own N).length = N := by simp [bw]
theorem bw_val (own N : Nat) (h : N ≤ 1000) : ∀ p ∈ bw own N, 0 ≤ p.2 ∧ p.2 < 18446744073709551616 := by
  intro p hp
  obtain ⟨i, hi, rfl⟩ := List.mem_map.1 hp
  have := List.mem_range.1 hi
  constructor
  · show (0 : Int) ≤ ((i + 1 : Nat) : Int); omega
  · show ((i + 1 : Nat) : Int) < 18446744073709551616; omega
theorem bw_put (own : Nat) (f : Nat → Int) : ∀ N, puts f (nat2 (bw own N)) own = if N = 0 then f own else (N : Int)
  | 0 => rfl
  | N + 1 => by
    rw [bw_succ, nat2, List.map_append]
    show puts f (nat2 (bw own N) ++ [(((own : Int)).toNat, ((N + 1 : Nat) : Int))]) own = _
    rw [Int.toNat_natCast, puts_snoc, if_neg (by omega)]
    simp [upd]
theorem bw_v (at_ words own N : Nat) (ho : own < 256 ∧ ¬ (at_ ≤ own ∧ own < at_ + words)) : commitV 256 at_ words (bw own N) = if (words - 16) / 2 < N then 5 else 0 := by
  unfold commitV
  rw [if_neg]
  · rw [bw_len]
  · intro h
    obtain ⟨p, hp, hb⟩ := List.any_eq_true.1 h
    obtain ⟨i, hi, rfl⟩ := List.mem_map.1 hp
    simp only [badB, ownB, Bool.or_eq_true, decide_eq_true_eq] at hb
    omega
theorem bw_now {at_ words own N : Nat} {s : DS} (hs : Calm s) (hu : U64 s.now) (h0 : s.now at_ = 0) (hz : s.now own = 0) (hf : s.fuse = -1) (hw : 16 ≤ words ∧ at_ + words ≤ 256 ∧ at_ % 8 = 0) (ho : own < 256 ∧ ¬ (at_ ≤ own ∧ own < at_ + words)) (hN : N ≤ 1000) :
    (commitD 256 at_ words (bw own N) s).1.now own = (if (words - 16) / 2 < N then 0 else (N : Int)) ∧ (commitD 256 at_ words (bw own N) s).1.dead = false := by
  have hv := bw_v at_ words own N ho
  by_cases hb : (words - 16) / 2 < N
  · rw [if_pos hb] at hv
    rw [if_pos hb, commitD_no (by rw [hv]; decide)]
    exact ⟨hz, hs.2.2⟩
  · rw [if_neg hb] at hv
    rw [if_neg hb]
    obtain ⟨c1, c2, c3, c4⟩ := (commit_all hs hu h0 ⟨hw.1, hw.2.1, by decide, hw.2.2⟩ hv (bw_val own N hN)).all (commit_free 256 at_ words (bw own N) s hf).1
    refine ⟨?_, c1.2.2⟩
    rw [c4 own ho.2, bw_put]
    split
    · next e => rw [e, hz]; rfl
    · rfl
end Go.Proofs.Ytdphillobnlpaaa
