/- The walks of same and of the document's Pack. -/
import Derived.Test.YtkkdcojgnpmpgaaWordsC
import Derived.Test.YtkkdcojgnpmpgaaWordsQ
import Derived.BigRegion
namespace Go.Proofs.Ytkkdcojgnpmpgaa
open Go.RowKit
set_option linter.unusedVariables false

set_option maxRecDepth 100000 in
set_option maxHeartbeats 1000000 in
theorem same_any (A B : Option Addr) (n c d : Nat) (l : List Nat) (w : World) (hn : n ≤ 1000000) (hl : l.length = n) (ha : Reads w w.heap.size 1 A n (Ints .u64 l)) (hb : Reads w w.heap.size 1 B n (Ints .u64 l)) :
    Calls Try.prog 11 #[.slice A n c, .slice B n d] w fun e w' => e = .returned (.bool true) ∧ ∃ k, w' = w.drewN k := by
  go_enter Try.func11, Try.ntmps11
  go_wp2_with fail
  go_loopw [5] (fun i wr => ∃ k : Nat, k ≤ n ∧ i = .int .i64 k ∧ Hid (∃ q, wr = w.drewN q)) (fun i _ => n - (intOf i).toNat)
  case atStart => exact ⟨0, by omega, rfl, Lib.hid ⟨0, rfl⟩⟩
  case round =>
    obtain ⟨k, hk, rfl, hq⟩ := hrel
    by_cases hlt : k < n
    · obtain ⟨x, rfl, hx, hcx⟩ := Reads.ints_at (by rw [hl]; exact ha) k (by omega : k < l.length)
      obtain ⟨y, rfl, hy, hcy⟩ := Reads.ints_at (by rw [hl]; exact hb) k (by omega : k < l.length)
      have g1 : wr.cell? (x.add k) = some (.int .u64 ((l.getD k 0 : Nat) : Int)) := by obtain ⟨q, rfl⟩ := hq.out; exact hcx
      have g2 : wr.cell? (y.add k) = some (.int .u64 ((l.getD k 0 : Nat) : Int)) := by obtain ⟨q, rfl⟩ := hq.out; exact hcy
      generalize l.getD k 0 = v at *
      clear hcx hcy
      have a1 : (0 : Int) ≤ (k : Int) := by omega
      have a2 : (k : Int) < (n : Int) := by omega
      go_wp2_with fail
      go_quiet (fail)
      go_wp2_with fail
      go_roundw
      case rel => exact ⟨k + 1, by omega, by go_num, Lib.hid (by obtain ⟨q, rfl⟩ := hq.out; exact ⟨q + nq, by simp⟩)⟩
      case measure => simp [intOf]; omega
    · go_wp2_with fail
      go_ret
      exact ⟨rfl, hq.out⟩

theorem strB_size (l : List Nat) : (strB l).size = l.length := by simp [strB, ByteArray.size]
theorem strB_byte (l : List Nat) (hb : ∀ i, l.getD i 0 < 256) (k : Nat) (h : k < (strB l).size) : ((strB l)[k]).toNat = l.getD k 0 := by
  have h' : k < l.length := by rw [strB_size] at h; exact h
  have e : (strB l)[k] = UInt8.ofNat (l.getD k 0) := by
    show (strB l).data[k] = _
    simp [strB, List.getD, h']
  rw [e]
  have := hb k
  rw [UInt8.toNat_ofNat']
  omega
theorem pkw_zero (l : List Nat) (hb : ∀ i, l.getD i 0 < 256) (k j : Nat) (h : k ≤ 8 * j) : pkw l k j = 0 := by
  have := pkw_lt l hb k j
  rw [show min (k - 8 * j) 8 = 0 from by omega] at this
  simpa using this
theorem pkList_push (l : List Nat) (hb : ∀ i, l.getD i 0 < 256) (k q : Nat) (h : k ≤ 8 * q) : pkList l k q ++ [0] = pkList l k (q + 1) := by
  simp [pkList, List.range_succ, pkw_zero l hb k q h]
theorem Ints_setl (k : IntKind) (l : List Nat) (j v : Nat) : (Ints k l).set j (.int k (v : Int)) = Ints k (l.set j v) := by
  simp [Ints, List.map_set]
theorem row_store {W : World} {B e g c : Nat} {l : List Nat} {k Q : Nat} (hQ : Q = k / 8 + 1) (h : W.ownsRow B e 1 (.slice (some ⟨g, 0, none⟩) (Q + 1) c) (Q + 1) (Ints .u64 (pkList l k Q))) :
    (W.setCell ⟨g, Q, none⟩ (.int .u64 ((pkw l (k + 1) (k / 8) : Nat) : Int))).ownsRow B e 1 (.slice (some ⟨g, 0, none⟩) (Q + 1) c) (Q + 1) (Ints .u64 (pkList l (k + 1) Q)) := by
  have := (h.stored Q (.int .u64 ((pkw l (k + 1) (k / 8) : Nat) : Int))).1
  rw [Ints_setl] at this
  have e1 := pkList_set l k Q (by omega)
  rw [show 1 + k / 8 = Q from by omega] at e1
  rw [e1] at this
  exact this
theorem row_cell {W : World} {B e g c : Nat} {l : List Nat} {k Q : Nat} (hQ : Q = k / 8 + 1) (h : W.ownsRow B e 1 (.slice (some ⟨g, 0, none⟩) (Q + 1) c) (Q + 1) (Ints .u64 (pkList l k Q))) :
    W.cell? ⟨g, Q, none⟩ = some (.int .u64 ((pkw l k (k / 8) : Nat) : Int)) ∧ W.frozen? ⟨g, Q, none⟩ = false := by
  refine ⟨?_, h.frozenAt Q⟩
  rw [h.cellAt Q (by omega), Ints_get _ _ _ (by rw [pkList_length]; omega)]
  have := pkList_succ l k Q (k / 8) (by omega)
  rw [show 1 + k / 8 = Q from by omega] at this
  rw [this]
theorem pk_word2 (l : List Nat) (hb : ∀ i, l.getD i 0 < 256) (k c : Nat) (hc : c = l.getD k 0) :
    bits .or .u64 ((pkw l k (k / 8) : Nat) : Int) (IntKind.u64.wrap (IntKind.u64.wrap (c : Int) * 2 ^ (8 * (k % 8)))) = ((pkw l (k + 1) (k / 8) : Nat) : Int) := by
  subst hc; exact pk_word l hb k
theorem after_push {w wr w1 : World} {e : TypeId} {l : List Nat} {A : Option Addr} {k q cap g cap' : Nat} (hb : ∀ i, l.getD i 0 < 256) (hk8 : k % 8 = 0) (hq : q = (k + 7) / 8)
    (hown : wr.ownsRow w.heap.size e 1 (.slice A (q + 1) cap) (q + 1) (Ints .u64 (pkList l k q)))
    (hown1 : w1.ownsRow w.heap.size e 1 (.slice (some ⟨g, 0, none⟩) (q + 1 + 1) cap') (q + 1 + 1) (Ints .u64 (pkList l k q ++ [0]))) (hgrow : wr.grownBy w1 (Value.slice A (q + 1) cap).ownBlock) (hbel : Below w.heap.size w wr) :
    w1.ownsRow w.heap.size e 1 (.slice (some ⟨g, 0, none⟩) (q + 1 + 1) cap') (q + 1 + 1) (Ints .u64 (pkList l k (q + 1))) ∧
    w1.cell? ⟨g, q + 1, none⟩ = some (.int .u64 ((pkw l k (k / 8) : Nat) : Int)) ∧ w1.frozen? ⟨g, q + 1, none⟩ = false ∧ Below w.heap.size w w1 := by
  rw [pkList_push l hb k q (by omega)] at hown1
  obtain ⟨h1, h2⟩ := row_cell (by omega) hown1
  exact ⟨hown1, h1, h2, hbel.grown hgrow hbel.size (fun q hq => (hown.lt q hq).1)⟩
def RPackPost (l : List Nat) (w : World) (e : Ending) (w' : World) : Prop :=
  ∃ A cap, e = .returned (.slice A (1 + (l.length + 7) / 8) cap) ∧ Reads w' w'.heap.size 1 A (1 + (l.length + 7) / 8) (Ints .u64 (packed l)) ∧ Below w.heap.size w w'
set_option maxRecDepth 100000 in
set_option maxHeartbeats 2000000 in
theorem rpack_any (l : List Nat) (n : Nat) (hl : l.length = n) (hn : n ≤ 100000) (hb : ∀ i, l.getD i 0 < 256) (w : World) :
    Calls Try.prog 12 #[.string (strB l)] w (RPackPost l w) := by
  obtain ⟨i0, hi, hz0, hz1, hz2⟩ := info_parts info26
  have HS := Lib.hid (strB_size l)
  have HB := Lib.hid (strB_byte l hb)
  generalize strB l = s at *
  have hs1 : s.size ≤ 100000 := by have := HS.out; omega
  have hu : IntKind.u64.wrap (s.size : Int) = s.size := IntWalk.u64_in _ (by omega)
  have hown0 : (w.alloc (.cells #[.int .u64 (s.size : Int)] 26)).ownsRow w.heap.size 26 1 (.slice (some ⟨w.heap.size, 0, none⟩) 1 1) 1 (Ints .u64 (pkList l 0 0)) := by
    refine ⟨rfl, .inr ⟨w.heap.size, 1, #[.int .u64 (s.size : Int)], rfl, Nat.le_refl _, Blk.new w 26 _, Nat.le_refl _, by decide, rfl, ?_⟩⟩
    simp [pkList, Ints, HS.out]
  have Hown0 := Lib.hid hown0
  clear hown0
  go_enter Try.func12, Try.ntmps12
  go_wp2_with fail
  go_loopw [3, 4] (fun b i wr => ∃ (k q cap : Nat) (A : Option Addr), k ≤ s.size ∧ i = .int .i64 k ∧ b = .slice A (q + 1) cap ∧ Hid (q = (k + 7) / 8) ∧ wr.ownsRow w.heap.size 26 1 (.slice A (q + 1) cap) (q + 1) (Ints .u64 (pkList l k q)) ∧ Below w.heap.size w wr) (fun _ i _ => s.size - (intOf i).toNat)
  case atStart => exact ⟨0, 0, 1, _, by omega, rfl, rfl, Lib.hid (by omega), Hown0.out, (Below.refl _ _).alloc (Nat.le_refl _) _⟩
  case round =>
    obtain ⟨k, q, cap, A, hk, rfl, rfl, hq, hown, hbel⟩ := hrel
    have hq2 : q ≤ 100000 := by have := hq.out; omega
    clear Hown0
    by_cases hlt : k < s.size
    · have hsk := Lib.hid (HB.out k hlt)
      have hpw := pk_word2 l hb k _ hsk.out
      rw [IntWalk.u64_in (((s[k]).toNat : Nat) : Int) (by have := (s[k]).toNat_lt; omega)] at hpw
      have Hpw := Lib.hid hpw
      clear hpw
      have hcb : (s[k]).toNat < 256 := (s[k]).toNat_lt
      have a1 : (0 : Int) ≤ (k : Int) := by omega
      have a2 : (k : Int) < (s.size : Int) := by omega
      by_cases hk8 : k % 8 = 0
      · have hb1 : ((k : Int) % 8 == 0) = true := by rw [beq_iff_eq]; omega
        have Hk8 := Lib.hid hk8
        clear hk8
        go_wp2_with (at_builtin; refine wpList_push wr rfl (.tmp 19) (.tmp 20) 23 rfl w.heap.size 26 i0 .u64 8 Try.underlying23 hi hz0 hz1 hz2 A (q + 1) cap (pkList l k q) rfl hown _ 0 1 rfl rfl (by have := hq.out; unfold maxLen; omega) (by have := hq.out; omega) hbel.size ?_; intro g cap' w1 hown1 hgrow1 hsz1 hg1 hgB; obtain ⟨hown2, hcel, hfro, hbel2⟩ := after_push hb Hk8.out hq.out hown hown1 hgrow1 hbel; have Hown2 := Lib.hid hown2; clear hown1 hgrow1 hown2)
        go_region
        rw [Hpw.out]
        go_wp2_with fail
        go_roundw
        case rel => exact ⟨k + 1, q + 1, cap', _, by omega, by go_num, rfl, Lib.hid (by have := hq.out; have := Hk8.out; omega), (row_store (by have := hq.out; have := Hk8.out; omega) Hown2.out).drew, (hbel2.setCell hgB _).drew⟩
        case measure => simp [intOf]; omega
      · have hb1 : ((k : Int) % 8 == 0) = false := by rw [beq_eq_false_iff_ne]; omega
        obtain ⟨g, c', hv, hgB, hg⟩ := hown.form (by omega)
        injection hv with hA _ hC
        subst hA
        subst hC
        obtain ⟨hcel, hfro⟩ := row_cell (by have := hq.out; omega) hown
        have Hown2 := Lib.hid hown
        clear hown
        go_wp2_with fail
        go_region
        rw [Hpw.out]
        go_wp2_with fail
        go_roundw
        case rel => exact ⟨k + 1, q, cap, _, by omega, by go_num, rfl, Lib.hid (by have := hq.out; omega), (row_store (by have := hq.out; omega) Hown2.out).drew, (hbel.setCell hgB _).drew⟩
        case measure => simp [intOf]; omega
    · go_wp2_with fail
      go_ret
      have hkn : k = l.length := by have := HS.out; omega
      have hqn : q + 1 = 1 + (l.length + 7) / 8 := by have := hq.out; omega
      refine ⟨A, cap, by rw [← hqn]; rfl, ?_, hbel⟩
      have hr := Reads.of_own hown
      unfold packed
      have hqq : q = (l.length + 7) / 8 := by omega
      rw [hkn, hqq] at hr
      rw [Nat.add_comm 1]
      exact hr
end Go.Proofs.Ytkkdcojgnpmpgaa
