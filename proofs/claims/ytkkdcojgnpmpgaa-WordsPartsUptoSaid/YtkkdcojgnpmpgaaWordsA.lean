/- The walks of words.Need, words.Pack and others: what they return, in plain numbers. -/
import Derived.Test.YtkkdcojgnpmpgaaRows
import Derived.Test.YtkkdcojgnpmpgaaMem
import Derived.Test.YtkkdcojgnpmpgaaWordsP
import Derived.BigRegion
import Derived.WalkLawsBesides
import Derived.WalkSpells
import Derived.Deep.QuietTactic
import Derived.BigQuiet
import Derived.Handy
namespace Go.Proofs.Ytkkdcojgnpmpgaa
open Go.RowKit
set_option linter.unusedVariables false

set_option maxHeartbeats 400000 in
theorem need_any (n : Int) (h0 : 0 ≤ n) (h1 : n ≤ 1000000000) (w : World) :
    Calls Try.prog 13 #[.int .i64 n] w fun e w' => e = .returned (.int .i64 (1 + (n + 7) / 8)) ∧ w = w' := by
  have h2 : ¬ n < 0 := by omega
  go_enter Try.func13, Try.ntmps13
  go_wp2
  go_ret
  exact ⟨ret_i64 (by omega), rfl⟩

theorem info26 : (Try.prog.info? 26).map (fun i => (i.zero, i.size, i.bytes)) = some (some (.int .u64 0), 1, 8) := by kernel_rfl
theorem pk_word (l : List Nat) (hb : ∀ i, l.getD i 0 < 256) (k : Nat) :
    bits .or .u64 ((pkw l k (k / 8) : Nat) : Int) (IntKind.u64.wrap (IntKind.u64.wrap ((l.getD k 0 : Nat) : Int) * 2 ^ (8 * (k % 8)))) = ((pkw l (k + 1) (k / 8) : Nat) : Int) := by
  have hc := hb k
  rw [IntWalk.u64_in ((l.getD k 0 : Nat) : Int) (by omega)]
  have e : ((l.getD k 0 : Nat) : Int) * 2 ^ (8 * (k % 8)) = ((l.getD k 0 * 2 ^ (8 * (k % 8)) : Nat) : Int) := by
    rw [Int.natCast_mul, Int.natCast_pow]; rfl
  have hs := byte_shift_lt (l.getD k 0) (k % 8) hc (Nat.mod_lt _ (by decide))
  rw [e, IntWalk.u64_in _ (by omega), u64_or_nat _ _ (pkw_u64 l hb _ _) hs, pkw_step l hb k]
def PackPost (n : Nat) (l : List Nat) (w : World) (e : Ending) (w' : World) : Prop :=
  e = .returned (.slice (some ⟨w.heap.size, 0, none⟩) (1 + (n + 7) / 8) (1 + (n + 7) / 8)) ∧ Blk w' w.heap.size 26 (Ints .u64 (packed l)).toArray ∧ Below w.heap.size w w'
set_option maxRecDepth 100000 in
set_option maxHeartbeats 1000000 in
theorem pack_any (A : Option Addr) (n cap : Nat) (l : List Nat) (hl : l.length = n) (hn : n ≤ 100000) (hb : ∀ i, l.getD i 0 < 256) (w : World) (hr : Reads w w.heap.size 1 A n (Ints .u8 l)) :
    Calls Try.prog 7 #[.slice A n cap] w (PackPost n l w) := by
  obtain ⟨i0, hi, hz0, hz1, hz2⟩ := info_parts info26
  obtain ⟨m, hm⟩ : ∃ m, m = (n + 7) / 8 := ⟨_, rfl⟩
  have hmk : ∀ W : World, (Instr.makeSlice 23 (.int .i64 (1 + ((n : Int) + 7) / 8)) (.int .i64 (1 + ((n : Int) + 7) / 8))).run Try.prog W = .ok (.slice (some ⟨W.heap.size, 0, none⟩) (m + 1) (m + 1)) (W.alloc (.cells (madeCells #[.int .u64 0] (m + 1)) 26)) := by
    intro W
    have h := run_make_rowN 23 26 i0 (.int .u64 0) Try.underlying23 hi hz0 .i64 .i64 (m + 1) (m + 1) (Nat.le_refl _) (by rw [hz2]; omega) (by omega) W
    have e : (((m + 1 : Nat) : Int)) = 1 + ((n : Int) + 7) / 8 := by omega
    rw [e, hz1, Nat.mul_one] at h
    exact h
  have hcell0 : ∀ W : World, (W.alloc (.cells (madeCells #[.int .u64 0] (m + 1)) 26)).cell? ⟨W.heap.size, 0, none⟩ = some (.int .u64 0) := by
    intro W
    rw [(Blk.new W 26 _).cell 0]
    simp [madeCells]
  have hfr0 : ∀ W : World, (W.alloc (.cells (madeCells #[.int .u64 0] (m + 1)) 26)).frozen? ⟨W.heap.size, 0, none⟩ = false := fun W => (Blk.new W 26 _).frozen 0
  have hu : IntKind.u64.wrap (n : Int) = n := IntWalk.u64_in _ (by omega)
  have Hm := Lib.hid hm
  clear hm
  go_enter Try.func7, Try.ntmps7
  go_wp2_with fail
  refine (need_any n (by omega) (by omega) _).mono ?_
  rintro e w' ⟨rfl, rfl⟩
  go_wp2_with fail
  go_loopw [17] (fun i wr => ∃ k : Nat, k ≤ n ∧ i = .int .i64 k ∧ Blk wr w.heap.size 26 (pkArr l k m) ∧ Below w.heap.size w wr) (fun i _ => n - (intOf i).toNat)
  case atStart =>
    refine ⟨0, by omega, rfl, ?_, ?_⟩
    · have := Blk.new w 26 ((madeCells #[.int .u64 0] (m + 1)).setIfInBounds 0 (.int .u64 (n : Int)))
      rw [← hl, pkArr_start] at this
      rw [← hl, pkArr_start]
      exact this
    · exact (Below.refl _ _).alloc (Nat.le_refl _) _
  case round =>
    obtain ⟨k, hk, rfl, hblk, hbel⟩ := hrel
    clear hcell0 hfr0 hmk
    by_cases hlt : k < n
    · have hkl : k < l.length := by omega
      have hm' := Hm.out
      have hkm : k / 8 < m := by omega
      clear hm'
      obtain ⟨ad, rfl, hab, hcb⟩ := Reads.ints_at (k := .u8) (l := l) (by rw [hl]; exact hr) k hkl
      have hc1 : wr.cell? (ad.add k) = some (.int .u8 ((l.getD k 0 : Nat) : Int)) := by rw [hbel.cell (by rw [block_of_add]; exact hab)]; exact hcb
      have hc2 : wr.cell? ⟨w.heap.size, 1 + k / 8, none⟩ = some (.int .u64 ((pkw l k (k / 8) : Nat) : Int)) := by
        rw [hblk.cell]
        unfold pkArr
        rw [List.getElem?_toArray, Ints_get _ _ _ (by rw [pkList_length]; omega), pkList_succ _ _ _ _ hkm]
      have hf2 := hblk.frozen (1 + k / 8)
      generalize hcc : l.getD k 0 = c at *
      have Hc := Lib.hid hcc
      clear hcc hcb
      have a1 : (0 : Int) ≤ (k : Int) := by omega
      have a2 : (k : Int) < (n : Int) := by omega
      have a3 : 1 + (k : Int) / 8 < (m : Int) + 1 := by omega
      go_wp2_with fail
      go_region
      rw [← Hc.out, pk_word l hb k]
      go_wp2_with fail
      go_roundw
      case rel =>
        refine ⟨k + 1, by omega, by go_num, ?_, ?_⟩
        · have := (hblk.set_ (1 + k / 8) (.int .u64 ((pkw l (k + 1) (k / 8) : Nat) : Int))).drew
          rw [pkArr_set l k m hkm] at this
          exact this
        · exact (hbel.setCell (Nat.le_refl _) _).drew
      case measure => simp [intOf]; omega
    · have hkn : k = n := by omega
      go_wp2_with fail
      go_ret
      refine ⟨?_, ?_, hbel⟩
      · have e : m + 1 = 1 + (n + 7) / 8 := by have := Hm.out; omega
        simp [e]
      · have := hblk
        rw [hkn, Hm.out, ← hl] at this
        exact this
end Go.Proofs.Ytkkdcojgnpmpgaa
