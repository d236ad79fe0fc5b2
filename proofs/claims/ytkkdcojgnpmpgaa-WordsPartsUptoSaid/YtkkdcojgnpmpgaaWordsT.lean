/- The walks of texts, and of the document's Join. -/
import Derived.Test.YtkkdcojgnpmpgaaWordsS
namespace Go.Proofs.Ytkkdcojgnpmpgaa
open Go.RowKit
set_option linter.unusedVariables false
theorem range_succ_map (ps : Nat → List Nat) (k : Nat) : txs ((List.range k).map ps) ++ [Value.string (strB (ps k))] = txs ((List.range (k + 1)).map ps) := by
  rw [List.range_succ, List.map_append, txs_push]
  rfl
def TxPost (P : List (List Nat)) (w : World) (e : Ending) (w' : World) : Prop :=
  ∃ X c, e = .returned (.slice X P.length c) ∧ Reads w' w'.heap.size 1 X P.length (txs P) ∧ Below w.heap.size w w'
set_option maxRecDepth 100000 in
set_option maxHeartbeats 2000000 in
theorem texts_any (A0 : Option Addr) (len cap : Nat) (A : Nat → Option Addr) (L C : Nat → Nat) (ps : Nat → List Nat) (w : World) (hlen : len ≤ 100)
    (hr : Reads w w.heap.size 1 A0 len ((List.range len).map fun r => Value.slice (A r) (L r) (C r)))
    (hrow : ∀ r, r < len → Reads w w.heap.size 1 (A r) (L r) (Ints .u8 (ps r)) ∧ (ps r).length = L r ∧ (∀ i, (ps r).getD i 0 < 256) ∧ L r ≤ 9223372036854775807) :
    Calls Try.prog 18 #[.slice A0 len cap] w (TxPost ((List.range len).map ps) w) := by
  obtain ⟨i0, hi, hz0, hz1, hz2⟩ := info_parts info9
  have Hr := Lib.hid hr
  have Hrow := Lib.hid hrow
  clear hr hrow
  go_enter Try.func18, Try.ntmps18
  go_wp2_with fail
  go_loopw [3, 4] (fun ov i ws => ∃ (k cx : Nat) (X : Option Addr), i = .int .i64 k ∧ ov = .slice X k cx ∧ k ≤ len ∧ Hid (ws.ownsRow w.heap.size 9 1 (.slice X k cx) k (txs ((List.range k).map ps))) ∧ Hid (Below w.heap.size w ws)) (fun _ i _ => len - (intOf i).toNat)
  case atStart => exact ⟨0, 0, none, rfl, rfl, by omega, Lib.hid ⟨rfl, .inl ⟨rfl, rfl⟩⟩, Lib.hid (Below.refl _ _)⟩
  case round =>
    obtain ⟨k, cx, X, rfl, rfl, hk, hown, hbel⟩ := hrel
    have hsz := hbel.out.size
    by_cases hlt : k < len
    · obtain ⟨ad, u, hA, hadb, hu, hcw⟩ := Hr.out.at_ hlt
      rw [List.getElem?_map, List.getElem?_range hlt, Option.map_some, Option.some.injEq] at hu
      subst hu
      subst hA
      have hcell := (hbel.out.cell (p := ad.add k) (by rw [block_of_add]; exact hadb)).trans hcw
      obtain ⟨hrk, hpl, hpb, hL63⟩ := Hrow.out k hlt
      have hcv := conv_reads (P := Try.prog) 22 5 9 Try.underlying22 Try.underlying5 Try.underlying9 (ps k) (C k) (hrk.below hbel.out) hpb
      obtain ⟨T, hT⟩ : ∃ T, T = strB (ps k) := ⟨_, rfl⟩
      rw [← hT] at hcv
      have HT := Lib.hid hT
      generalize hLk : L k = Lk at *
      generalize hAk : A k = Ak at *
      generalize hCk : C k = Ck at *
      clear hLk hAk hCk hrk hpb hcw hpl hT
      go_wp2_with (at_builtin; go_loud (refine wpList_append_any _ rfl (.tmp 11) (.tmp 17) 41 rfl w.heap.size 9 i0 (.string ⟨#[]⟩) 1 16 Try.underlying41 hi hz0 hz1 hz2 rfl (by decide) _ k (txs ((List.range k).map ps)) rfl (hown.out.alloc _) (wr.heap.size + 1) (some ⟨wr.heap.size, 0, none⟩) 1 _ [.string T] rfl (one_reads wr 9 (.string T)) (by intro u hu; rw [List.mem_singleton] at hu; subst hu; rfl) (by unfold maxLen; omega) (by omega) (by simp; omega) ?_; intro v' w7 hown7 hgrow7 hat; obtain ⟨A7, c7, rfl⟩ := own_shape hown7; have HOwn7 := Lib.hid hown7; have HB7 := Lib.hid ((hbel.out.alloc hsz _).grown hgrow7 (by simp; omega) (fun k hk => (hown.out.lt k hk).1)); clear hown7 hat))
      go_roundw
      case rel => exact ⟨k + 1, c7, A7, by go_num, rfl, by omega, Lib.hid (by have h := HOwn7.out; rw [HT.out, range_succ_map] at h; exact h), HB7⟩
      case measure => simp [intOf]; omega
    · have hkl : k = len := by omega
      have hrd := Reads.of_own hown.out
      have hl : ((List.range len).map ps).length = len := by simp
      rw [hkl] at hrd
      have Hrd := Lib.hid hrd
      have Hkl := Lib.hid hkl
      clear hrd hkl
      go_wp2_with fail
      go_ret
      refine ⟨X, cx, by rw [hl, ← Hkl.out]; rfl, ?_, hbel.out⟩
      rw [hl]
      exact Hrd.out
theorem txs_at (P : List (List Nat)) (k : Nat) (h : k < P.length) : (txs P)[k]? = some (Value.string (strB (P[k]))) := by simp [txs, h]
theorem joinL_take (P : List (List Nat)) (k : Nat) (h : k < P.length) : joinL (P.take (k + 1)) = joinL (P.take k) ++ (uv (P[k]).length ++ P[k]) := by
  have e : P.take (k + 1) = P.take k ++ [P[k]] := by rw [List.take_add_one, List.getElem?_eq_getElem h]; rfl
  rw [e, joinL_append]
  show _ ++ (uv (P[k]).length ++ P[k] ++ []) = _
  rw [List.append_nil]
theorem joinL_le (P : List (List Nat)) (k : Nat) : (joinL (P.take k)).length ≤ (joinL P).length := by
  have e := joinL_append (P.take k) (P.drop k)
  rw [List.take_append_drop] at e
  rw [e, List.length_append]
  omega
theorem strB_app (l m : List Nat) : strB l ++ strB m = strB (l ++ m) := by
  apply ByteArray.ext
  rw [ByteArray.data_append]
  unfold strB
  simp only [List.map_append]
  exact List.append_toArray _ _
set_option maxRecDepth 100000 in
set_option maxHeartbeats 2000000 in
theorem rjoin_any (X : Option Addr) (len cap : Nat) (P : List (List Nat)) (w : World) (hlen : P.length = len) (hl1 : len ≤ 100) (hbig : (joinL P).length ≤ 1000000) (hr : Reads w w.heap.size 1 X len (txs P)) :
    Calls Try.prog 17 #[.slice X len cap] w (fun e w' => e = .returned (.string (strB (joinL P))) ∧ Below w.heap.size w w') := by
  have Hr := Lib.hid hr
  have Hlen := Lib.hid hlen
  have Hbig := Lib.hid hbig
  clear hr hlen hbig
  go_enter Try.func17, Try.ntmps17
  go_wp2_with fail
  go_loopw [3, 4] (fun sv i ws => ∃ (k : Nat) (S : ByteArray), i = .int .i64 k ∧ sv = .string S ∧ k ≤ len ∧ Hid (S = strB (joinL (P.take k))) ∧ Hid (Below w.heap.size w ws)) (fun _ i _ => len - (intOf i).toNat)
  case atStart => exact ⟨0, _, rfl, rfl, by omega, Lib.hid rfl, Lib.hid (Below.refl _ _)⟩
  case round =>
    obtain ⟨k, S, rfl, rfl, hk, hS, hbel⟩ := hrel
    have hsz := hbel.out.size
    have hSs : S.size ≤ 1000000 := by rw [hS.out, strB_size]; exact Nat.le_trans (joinL_le P k) Hbig.out
    by_cases hlt : k < len
    · have hkP : k < P.length := by rw [Hlen.out]; exact hlt
      obtain ⟨ad, u, hA, hadb, hu, hcw⟩ := Hr.out.at_ hlt
      rw [txs_at P k hkP, Option.some.injEq] at hu
      subst hu
      subst hA
      have hcell := (hbel.out.cell (p := ad.add k) (by rw [block_of_add]; exact hadb)).trans hcw
      have hjt := joinL_take P k hkP
      have hjl := joinL_le P (k + 1)
      generalize P[k] = p at *
      have hps : p.length ≤ 1000000 := by rw [hjt, List.length_append, List.length_append] at hjl; have := Hbig.out; omega
      obtain ⟨T, hT⟩ : ∃ T, T = strB p := ⟨_, rfl⟩
      rw [← hT] at hcell hcw
      have hTs : T.size ≤ 1000000 := by rw [hT, strB_size]; exact hps
      have hTl : T.size = p.length := by rw [hT, strB_size]
      have HT := Lib.hid hT
      have HTl := Lib.hid hTl
      have Hjt := Lib.hid hjt
      have Hcw := Lib.hid hcw
      clear hT hTl hjt hjl hps hcw
      obtain ⟨V, hV⟩ : ∃ V, V = strB (uv T.size) := ⟨_, rfl⟩
      have hVs : V.size ≤ 10 := by rw [hV, strB_size]; exact uvl_len 9 _
      have hru := fun W => ruvar_any T.size (by omega) W
      unfold RuPost at hru
      simp only [← hV] at hru
      have Hru := Lib.hid hru
      have HV := Lib.hid hV
      have hwT : IntKind.u64.wrap (T.size : Int) = (T.size : Int) := IntWalk.u64_in _ (by omega)
      have hc1 : ¬ 9223372036854775807 < S.size + V.size := by omega
      have hc2 : ¬ 9223372036854775807 < S.size + V.size + T.size := by omega
      have a1 : (0 : Int) ≤ (k : Int) := by omega
      have a2 : (k : Int) < (len : Int) := by omega
      clear hru hV
      go_wp2_with fail
      go_region_held3 (fun w' => w'.cell? (ad.add k) = some (.string T)) (first | assumption | (simp [*]; done)) (first
        | (go_simp; go_at_call 25; refine (Hru.out _).mono ?_; rintro e w7 ⟨rfl, hb7⟩; have hcl7 : w7.cell? (ad.add k) = some (.string T) := ((hb7.cell (by rw [block_of_add]; show ad.block < wr.heap.size; omega)).trans hcell)))
      have Hb7 : Hid (Below w.heap.size w w7) := Lib.hid (hbel.out.drew.trans (hb7.mono hsz))
      clear hb7 hcl7 hcell
      go_wp2_with fail
      go_roundw
      case rel => exact ⟨k + 1, _, by go_num, rfl, by omega, Lib.hid (by rw [hS.out, HV.out, HTl.out, HT.out, strB_app, strB_app, Hjt.out, List.append_assoc]), Hb7⟩
      case measure => simp [intOf]; omega
    · have hkl : k = len := by omega
      have htk : P.take k = P := by rw [hkl, ← Hlen.out]; exact List.take_length
      have HS : Hid (S = strB (joinL P)) := Lib.hid (by rw [hS.out, htk])
      clear htk hkl
      go_wp2_with fail
      go_ret
      exact ⟨by rw [← HS.out]; rfl, hbel.out⟩
end Go.Proofs.Ytkkdcojgnpmpgaa
