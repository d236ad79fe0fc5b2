/- The contracts of Clip and Waiting. -/
import Derived.Test.YtdphillobnlpaaaRedE
namespace Go.Proofs.Ytdphillobnlpaaa
open Go.RowKit
open Go.Maps (Keyed)
open Go.ChangeMaps
set_option linter.unusedVariables false

set_option maxRecDepth 100000 in
theorem infoI : (Try.prog.info? 3).map (fun i => (i.zero, i.size, i.bytes)) = some (some (.int .i64 0), 1, 8) := by kernel_rfl
set_option maxRecDepth 100000 in
theorem sizeI (W : World) : (sizeOf (Try.prog.elem 22)).run Try.prog W = .ok 1 W := by
  obtain ⟨i0, hi, hz0, hz1, hz2⟩ := info_parts infoI
  have e : Try.prog.elem 22 = 3 := by kernel_rfl
  have e2 : Try.prog.cellsOf 3 = 1 := by kernel_rfl
  rw [e, run_sizeOf W hi, e2]
set_option maxRecDepth 100000 in
theorem clip_any (A : Option Addr) (n cap : Nat) (w : World) (hn : n ≤ cap) (hc : cap ≤ maxLen) :
    Calls Try.prog 51 #[.slice A n cap] w fun e w' => e = .returned (.slice A n n) ∧ w = w' := by
  have hsl : ∀ W : World, (Instr.slice 22 (.slice A n cap) none (some (.int .i64 (n : Int))) (some (.int .i64 (n : Int)))).run Try.prog W = .ok (.slice A n n) W := by
    intro W
    have e := run_slice_hm (P := Try.prog) W 22 A n cap Try.underlying22 .i64 .i64 (n : Int) (n : Int) (by omega) (by omega) (by omega)
    rw [e, sizeI]
    have e3 : ∀ x : Addr, x.add 0 = x := fun x => by unfold Addr.add; cases x; split <;> simp_all
    simp [sliced, Result.andThen, e3]
  go_enter Try.func51, Try.ntmps51
  go_wp2_with fail
  go_ret
  exact ⟨by simp, rfl⟩
/-- The words that would not last. -/
def waits (s : DS) (k : Nat) : List Nat := (List.range k).filter fun i => !(s.now i == s.last i)
set_option maxRecDepth 100000 in
theorem waits_succ (s : DS) (k : Nat) : waits s (k + 1) = waits s k ++ if (s.now k == s.last k) = true then [] else [k] := by
  unfold waits
  rw [List.range_succ, List.filter_append]
  congr 1
  by_cases h : (s.now k == s.last k) = true
  · simp [h]
  · simp [h]
set_option maxRecDepth 100000 in
theorem waits_len (s : DS) (k : Nat) : (waits s k).length ≤ k := by
  have := List.length_filter_le (fun i => !(s.now i == s.last i)) (List.range k)
  simpa [waits] using this
def WaitPost (n : Nat) (s : DS) (w : World) (e : Ending) (w' : World) : Prop :=
  ∃ A q, q = (waits s n).length ∧ e = .returned (.slice A q q) ∧ Reads w' w'.heap.size 1 A q (Ints .i64 (waits s n)) ∧ (∀ ad, A = some ad → w.heap.size ≤ ad.block) ∧ Below w.heap.size w w'
set_option maxRecDepth 100000 in
set_option maxRecDepth 100000 in
set_option maxHeartbeats 2000000 in
theorem waiting_any (w : World) (A : Nat → Prop) (G : Dv) (n : Nat) (s : DS) (h : Dev w A G n s) :
    Calls Try.prog 44 #[.pointer (some ⟨G.d, 0, none⟩)] w (WaitPost n s w) := by
  obtain ⟨i0, hi, hz0, hz1, hz2⟩ := info_parts infoI
  have h' := Lib.hid h
  have hn : n ≤ 65536 := h.2.2.2.2.2.1.2.1
  have c0 : w.cell? ⟨G.d, 0, none⟩ = some (.slice (some ⟨G.n, 0, none⟩) n G.cn) := (h.1.cell 0).trans rfl
  have hap := Lib.hid h.apart
  clear h
  go_enter Try.func44, Try.ntmps44
  go_wp2_with fail
  go_loopw [3, 11] (fun v i wr => ∃ (k q c : Nat) (A : Option Addr), i = .int .i64 k ∧ k ≤ n ∧ v = .slice A q c ∧ Hid (q = (waits s k).length) ∧ Hid (wr.ownsRow w.heap.size 3 1 (.slice A q c) q (Ints .i64 (waits s k))) ∧ Hid (Below w.heap.size w wr))
    (fun _ i _ => n - (intOf i).toNat)
  case atStart => exact ⟨0, 0, 0, none, rfl, by omega, rfl, Lib.hid rfl, Lib.hid ⟨rfl, .inl ⟨rfl, rfl⟩⟩, Lib.hid (Below.refl _ _)⟩
  case round =>
    obtain ⟨k, q, c, A1, rfl, hk, rfl, hq, hown, hb⟩ := hrel
    by_cases hlt : k < n
    · have cc0 : wr.cell? ⟨G.d, 1, none⟩ = some (.slice (some ⟨G.l, 0, none⟩) n G.cl) := (((h'.out.1.below hb.out hap.out.2.2.2.2.2.2.1)).cell 1).trans rfl
      have cn : wr.cell? ⟨G.n, k, none⟩ = some (.int .u64 (s.now k)) := (hb.out.cell (p := ⟨G.n, k, none⟩) hap.out.2.2.2.2.2.2.2.1).trans (h'.out.2.1.cell hlt)
      have cl : wr.cell? ⟨G.l, k, none⟩ = some (.int .u64 (s.last k)) := (hb.out.cell (p := ⟨G.l, k, none⟩) hap.out.2.2.2.2.2.2.2.2.1).trans (h'.out.2.2.1.cell hlt)
      have hws := Lib.hid (waits_succ s k)
      have hql : q ≤ k := by rw [hq.out]; exact waits_len s k
      have hsz := hb.out.size
      generalize s.now k = x at cn hws
      generalize s.last k = y at cl hws
      rcases hxy : (x == y) with _ | _
      · have hws2 : Hid (waits s (k + 1) = waits s k ++ [k]) := Lib.hid (by rw [hws.out, hxy]; rfl)
        clear hws
        go_wp2_with (at_builtin; refine wpList_push wr rfl (.tmp 25) (.tmp 27) 22 rfl w.heap.size 3 i0 .i64 8 Try.underlying22 hi hz0 hz1 hz2 A1 q c (waits s k) rfl hown.out _ k 1 rfl rfl (by unfold maxLen; omega) (by omega) hsz ?_; intro g cap' w1 hown1 hgrow1 hsz1 hg1 hgB; have Hown1 := Lib.hid hown1; have Hgrow := Lib.hid hgrow1; clear hown1 hgrow1)
        go_roundw
        case rel =>
          refine ⟨k + 1, q + 1, cap', some ⟨g, 0, none⟩, by go_num, by omega, rfl, Lib.hid (by rw [hws2.out, List.length_append, ← hq.out]; rfl), Lib.hid (by rw [hws2.out]; exact Hown1.out), Lib.hid ?_⟩
          exact hb.out.grown Hgrow.out hsz (fun j hj => own_ge hown.out j hj)
        case measure => simp [intOf]; omega
      · have hws2 : Hid (waits s (k + 1) = waits s k) := Lib.hid (by rw [hws.out, hxy]; simp)
        clear hws
        go_wp2_with fail
        go_roundw
        case rel => exact ⟨k + 1, q, c, A1, by go_num, by omega, rfl, Lib.hid (by rw [hws2.out]; exact hq.out), Lib.hid (by rw [hws2.out]; exact hown.out), hb⟩
        case measure => simp [intOf]; omega
    · have hkn : k = n := by omega
      subst hkn
      have hcap := Lib.hid (cons_row hown.out)
      go_wp2_with (go_at_call 51; refine (clip_any A1 q c wr hcap.out.1 hcap.out.2).mono ?_; rintro e w5 ⟨rfl, rfl⟩)
      go_ret
      exact ⟨A1, q, hq.out, by simp, own_reads hown.out, fun ad e => own_ge hown.out ad.block (by subst e; rfl), hb.out⟩
end Go.Proofs.Ytdphillobnlpaaa
