/- redo: the law's writes. -/
import Derived.Test.YtdphillobnlpaaaRedX
import Derived.Deep.CutBlock
namespace Go.Proofs.Ytdphillobnlpaaa
open Go.RowKit
set_option linter.unusedVariables false
/-- The blocks from B on, up to M: all that turn. -/
def Iv (B M b : Nat) : Prop := B ≤ b ∧ b < M
theorem DevA.own_in {w : World} {A : Nat → Prop} {G : Dv} {n : Nat} {s : DS} (h : DevA w A G n s) : ∀ b, G.own b → A b := fun b e => by
  have := h.1.2.2.2.2.1
  rcases e with rfl | rfl | rfl | rfl
  · exact this.1
  · exact this.2.1
  · exact this.2.2.1
  · exact this.2.2.2
/-- Where no line is on its way any blocks may turn. -/
theorem DevA.rebase {w : World} {A A' : Nat → Prop} {G : Dv} {n : Nat} {s : DS} (h : Dev w A G n s) (hw : ∀ j, s.way j = none) (hG : ∀ b, G.own b → A' b) (hA : ∀ b, A' b → b < w.heap.size) : DevA w A' G n s := by
  obtain ⟨h1, h2, h3, h4, h5, h6, D, hD, hL⟩ := h
  refine ⟨⟨h1, h2, h3, h4, ⟨hG _ (.inl rfl), hG _ (.inr (.inl rfl)), hG _ (.inr (.inr (.inl rfl))), hG _ (.inr (.inr (.inr rfl)))⟩, h6, D, hD, ?_, hL.2⟩, hA⟩
  intro q hq
  obtain ⟨k, b, e1, hk, hb, hn, hat, c, f, hf, hv⟩ := hL.1 q hq
  have := hv 0 (by decide)
  rw [hw] at this
  cases this
theorem isrow_rd {w : World} {a : Option Addr} {len cap : Nat} {zs : List Int} (h : IsRow .i64 w a len cap zs) : Reads w w.heap.size 1 a len ((zs.take len).map (Value.int .i64)) ∧ (zs.take len).length = len ∧ len ≤ 9223372036854775807 ∧ len ≤ cap ∧ ∀ z ∈ zs.take len, (Lit.int .i64 z).wf = true := by
  rcases h with ⟨rfl, rfl, rfl, rfl⟩ | ⟨x, rfl, h1, h2, h3, h4, h5⟩
  · exact ⟨Reads.none_, rfl, by decide, by decide, by intro n hn; simp at hn⟩
  · unfold maxLen at h2
    refine ⟨⟨by simp; omega, fun hn => ⟨x, rfl, ?_, fun j u hj => ?_⟩⟩, by simp; omega, by omega, h1, fun z hz => h5 z (List.mem_of_mem_take hz)⟩
    · have := World.block_lt_of_cell? w _ (h4 0 (by omega))
      rwa [block_of_add] at this
    · have hjl : j < len := by
        rcases Nat.lt_or_ge j len with h6 | h6
        · exact h6
        · rw [List.getElem?_eq_none (by simp; omega)] at hj; cases hj
      rw [List.getElem?_map, List.getElem?_take_of_lt hjl, List.getElem?_eq_getElem (by omega), Option.map_some, Option.some.injEq] at hj
      subst hj
      have := h4 j (by omega)
      rw [this]
      simp [show j < zs.length by omega]
theorem ofInt_i64 (m : Nat) (hm : m < 9223372036854775808) : (BitVec.ofInt 64 (m : Int)).toNat = m := by
  rw [BitVec.toNat_ofInt]
  omega
theorem mask (n : Int) (m : Nat) (hm : m < 9223372036854775808) : ∃ N : Nat, N ≤ m ∧ bits .and .i64 n (m : Int) = (N : Int) := by
  refine ⟨(BitVec.ofInt 64 n).toNat &&& m, Nat.and_le_right, ?_⟩
  have hx : (BitVec.ofInt 64 n).toNat &&& m ≤ m := Nat.and_le_right
  show IntKind.i64.wrap ((BitVec.ofInt 64 n &&& BitVec.ofInt 64 (m : Int)).toNat : Int) = _
  rw [BitVec.toNat_and, ofInt_i64 m hm, IntWalk.i64_in _ (by omega)]
theorem wrap_small {z : Int} (h1 : -9223372036854775808 ≤ z) (h2 : z < 9223372036854775808) : IntKind.i64.wrap z = z := IntWalk.i64_in _ (by omega)
theorem ints_get {zs : List Int} {i : Nat} {u : Value} (h : (zs.map (Value.int .i64))[i]? = some u) : u = .int .i64 (zs.getD i 0) := by
  rw [List.getElem?_map] at h
  rw [List.getD_eq_getElem?_getD]
  cases hb : zs[i]? with
  | none => rw [hb] at h; cases h
  | some b => rw [hb] at h; cases h; rfl
/-- The word that a number stands for. -/
def wd (z : Int) : Nat := 64 + (bits .and .i64 z 65535).toNat % 192
theorem wd_in (z : Int) : 64 ≤ wd z ∧ wd z < 256 := by
  unfold wd
  have := Nat.mod_lt (bits .and .i64 z 65535).toNat (show 0 < 192 by decide)
  omega
/-- What the law writes for k numbers. -/
def wrs (zs : List Int) (mark k : Nat) : List (Int × Int) := (List.range k).map fun i => ((wd (zs.getD i 0) : Int), ((mark + i : Nat) : Int))
theorem wrs_succ (zs : List Int) (mark k : Nat) : wrs zs mark (k + 1) = wrs zs mark k ++ [((wd (zs.getD k 0) : Int), ((mark + k : Nat) : Int))] := by simp [wrs, List.range_succ]
theorem wrs_len (zs : List Int) (mark k : Nat) : (wrs zs mark k).length = k := by simp [wrs]
set_option maxRecDepth 100000 in
set_option maxHeartbeats 4000000 in
theorem writes_any (w : World) (A : Option Addr) (n c mark : Nat) (zs : List Int) (hr : Reads w w.heap.size 1 A n (zs.map (Value.int .i64))) (hz : zs.length = n) (hn : n ≤ 9223372036854775807) (hm : mark ≤ 100000) :
    Calls Try.prog 17 #[.slice A n c, .int .u64 (mark : Int)] w fun e w' => ∃ (A2 : Option Addr) (c2 : Nat), e = .returned (.slice A2 (min n 24) c2) ∧ WO w' w.heap.size (.slice A2 (min n 24) c2) (wrs zs mark (min n 24)) ∧ Mv (fun _ => False) w w' := by
  have Hr := Lib.hid hr
  have Hz := Lib.hid hz
  have Hn := Lib.hid hn
  clear hr hz
  go_enter Try.func17, Try.ntmps17
  go_wp2_with fail
  go_loopw [5, 6] (fun v5 v6 wr => ∃ (A5 : Option Addr) (c5 i : Nat), v5 = .slice A5 i c5 ∧ v6 = .int .i64 (i : Int) ∧ i ≤ n ∧ i ≤ 24 ∧ Hid (WO wr w.heap.size (.slice A5 i c5) (wrs zs mark i)) ∧ Hid (Mv (fun _ => False) w wr))
    (fun _ v6 _ => 24 - (intOf v6).toNat)
  case atStart => exact ⟨none, 0, 0, rfl, rfl, Nat.zero_le _, by omega, Lib.hid (WO.nil w _), Lib.hid (Mv.refl _ w)⟩
  case round =>
    obtain ⟨A5, c5, i, rfl, rfl, hin, hi24, hwo, hmv⟩ := hrel
    rcases Nat.lt_or_ge i n with hlt | hge
    · rcases Nat.lt_or_ge i 24 with hl24 | hg24
      · obtain ⟨ad, u, hA1, hadb, hu, hcl⟩ := Hr.out.at_ hlt
        subst hA1
        have hu' := ints_get hu
        subst hu'
        have hcl2 := (mv_cell hmv.out (by rw [block_of_add]; exact hadb) (fun e => e)).trans hcl
        have hix := Lib.hid (wrs_succ zs mark i)
        have hwi := wrap_small (z := (i : Int) + 1) (by omega) (by omega)
        have hwd : Hid (wd (zs.getD i 0) = 64 + (bits .and .i64 (zs.getD i 0) 65535).toNat % 192) := Lib.hid rfl
        clear hu hcl hadb
        generalize zs.getD i 0 = z at hcl2 hix hwd
        obtain ⟨N, hN, hmask⟩ := mask z 65535 (by decide)
        have hmk : bits .and .i64 z 65535 = (N : Int) := hmask
        clear hmask
        rw [hmk, Int.toNat_natCast] at hwd
        have hb : N % 192 < 192 := Nat.mod_lt _ (by decide)
        have e1 : (N : Int).tmod 192 = ((N % 192 : Nat) : Int) := by rw [Int.tmod_eq_emod_of_nonneg (by omega)]; omega
        generalize N % 192 = m at e1 hb hwd
        have e2 : IntKind.i64.wrap (64 + (m : Int)) = ((64 + m : Nat) : Int) := by rw [wrap_small (by omega) (by omega)]; omega
        have e3 : IntKind.u64.wrap (i : Int) = (i : Int) := IntWalk.u64_in _ (by omega)
        have e4 : IntKind.u64.wrap ((mark : Int) + (i : Int)) = ((mark + i : Nat) : Int) := by rw [IntWalk.u64_in _ (by omega)]; omega
        have e5 := wrap_small (z := (m : Int)) (by omega) (by omega)
        have hsz := hmv.out.size
        go_wp2_with (first
          | (at_builtin; refine wpList_pushW wr rfl (.tmp 17) (.tmp 30) rfl w.heap.size A5 i c5 (wrs zs mark i) (wrs_len _ _ _) rfl hwo.out (((64 + m : Nat) : Int), ((mark + i : Nat) : Int)) 1 rfl (by omega) hsz ?_; intro g cp w9 hwo9 hg9 hs9 hat9; have Hwo9 := Lib.hid hwo9; have Hg9 := Lib.hid hg9; clear hwo9 hg9 hs9 hat9)
          | fail)
        refine ⟨⟨some ⟨g, 0, none⟩, cp, i + 1, rfl, by go_num, by omega, by omega, Lib.hid ?_, Lib.hid ?_⟩, ?_⟩
        · rw [hix.out, hwd.out]
          exact Hwo9.out
        · exact mv_none hmv.out ((Mv.refl (fun b => (Value.slice A5 i c5).ownBlock = some b) wr).grown Hg9.out (fun g e _ => e)) (fun b hb e => by have := (hwo.out.lt e).1; omega)
        · show 24 - ((i : Int) + 1).toNat < 24 - ((i : Int)).toNat
          omega
      · have e := Lib.hid (show min n 24 = i by omega)
        go_wp2_with fail
        go_ret
        exact ⟨A5, c5, by rw [e.out]; rfl, by rw [e.out]; exact hwo.out, hmv.out⟩
    · have e := Lib.hid (show min n 24 = i by omega)
      go_wp2_with fail
      go_ret
      exact ⟨A5, c5, by rw [e.out]; rfl, by rw [e.out]; exact hwo.out, hmv.out⟩
end Go.Proofs.Ytdphillobnlpaaa
