/- WordsPack: for every slice of bytes and every slice of words the law returns true. -/
import Derived.Test.YtkkdcojgnpmpgaaRows
import Derived.WalkKit
import Derived.ProofKit
import Derived.OpenShut
import Derived.ShutString
import Derived.ChangeOld
import Derived.Below
import Derived.Test.YtkkdcojgnpmpgaaWordsF
namespace Go.Proofs.Ytkkdcojgnpmpgaa.wordsPack
open Go.ChangeShapes Go.WideShapes Go.ChangeAt Go.RowKit
open Go.ChangeMaps (open_string shut_string)
set_option linter.unusedVariables false

theorem own : ownKnob Try.prog.godebug = none := by kernel_rfl
theorem laidOut : laidOutB Try.prog = true := by kernel_rfl

theorem bytes_lt {l : List Nat} (h : ∀ n ∈ l, (Lit.int .u8 (n : Int)).wf = true) : ∀ i, l.getD i 0 < 256 := by
  intro i
  rcases Nat.lt_or_ge i l.length with hi | hi
  · have := (u8_lo (h _ (List.getElem_mem hi))).2
    simp [List.getD, hi]
    omega
  · simp [List.getD, hi]
theorem words_lt {l : List Nat} (h : ∀ n ∈ l, (Lit.int .u64 (n : Int)).wf = true) : ∀ i, l.getD i 0 < 18446744073709551616 := by
  intro i
  rcases Nat.lt_or_ge i l.length with hi | hi
  · have := (u64_lo (h _ (List.getElem_mem hi))).2
    simp [List.getD, hi]
    omega
  · simp [List.getD, hi]
theorem big (A B : Option Addr) (n c m d : Nat) (w : World) (h : 5000 < n ∨ 9000 < m) :
    Calls Try.prog 4 #[.slice A n c, .slice B m d] w fun e w' => e = .returned (.bool true) ∧ Below w.heap.size w w' := by
  by_cases h1 : 5000 < n
  · go_enter Try.func4, Try.ntmps4
    go_wp2_with fail
    refine (awake_any _).mono ?_
    rintro e w2 ⟨rfl, hbel2⟩
    have Hc := Lib.hid hbel2
    clear hbel2
    go_wp2_with fail
    go_ret
    exact ⟨rfl, Hc.out⟩
  · have h2 : 9000 < m := by omega
    go_enter Try.func4, Try.ntmps4
    go_wp2_with fail
    refine (awake_any _).mono ?_
    rintro e w2 ⟨rfl, hbel2⟩
    have Hc := Lib.hid hbel2
    clear hbel2
    go_wp2_with fail
    go_ret
    exact ⟨rfl, Hc.out⟩
set_option maxRecDepth 100000 in
set_option maxHeartbeats 2000000 in
theorem small (A B : Option Addr) (n c m d : Nat) (l ws : List Nat) (w : World) (hl : l.length = n) (hn : n ≤ 5000) (hb : ∀ i, l.getD i 0 < 256) (hr : Reads w w.heap.size 1 A n (Ints .u8 l))
    (hlw : ws.length = m) (hm : m ≤ 9000) (hw : ∀ i, ws.getD i 0 < 18446744073709551616) (hrw : Reads w w.heap.size 1 B m (Ints .u64 ws)) :
    Calls Try.prog 4 #[.slice A n c, .slice B m d] w fun e w' => e = .returned (.bool true) ∧ Below w.heap.size w w' := by
  have h1 : ¬ 5000 < n := by omega
  have h2 : ¬ 9000 < m := by omega
  have Hr := Lib.hid hr
  have Hrw := Lib.hid hrw
  clear hr hrw
  go_enter Try.func4, Try.ntmps4
  go_wp2_with fail
  refine (pack_any A n c l hl (by omega) hb _ Hr.out).mono ?_
  rintro e w1 ⟨rfl, hblk1, hbel1⟩
  have Hp1 : Hid (Reads w1 w1.heap.size 1 (some ⟨w.heap.size, 0, none⟩) (1 + (n + 7) / 8) (Ints .u64 (packed l))) := Lib.hid (blk_reads hblk1 (by rw [packed_length, hl]))
  have Hb1 := Lib.hid hbel1
  clear hblk1 hbel1
  go_wp2_with fail
  refine (unpack_any _ (1 + (n + 7) / 8) _ (packed l) w1 (by rw [packed_length, hl]) (by omega) (packed_u64 l hb (by omega)) Hp1.out).mono ?_
  rintro e w2 ⟨X, cx, rfl, hx, hbel2⟩
  rw [packed_bytes l hb (by omega)] at hx
  rw [packed_bytes l hb (by omega), packed_err l hb (by omega), hl]
  rw [hl] at hx
  have HX := Lib.hid hx
  have Hb2 := Lib.hid hbel2
  clear hx hbel2
  go_wp2_with fail
  have hbw2 := Hb1.out.trans (Hb2.out.mono Hb1.out.size)
  have Hrw2 := Lib.hid ((Hrw.out.below hbw2).more hbw2.size)
  clear hbw2
  refine (unpack_any B m d ws w2 hlw (by omega) hw Hrw2.out).mono ?_
  rintro e w3 ⟨Y, cy, rfl, hy, hbel3⟩
  have HY := Lib.hid hy
  have Hb3 := Lib.hid hbel3
  clear hy hbel3
  go_wp2_with fail
  have Hrw3 := Lib.hid ((Hrw2.out.below Hb3.out).more Hb3.out.size)
  refine (runpack_any B m d ws w3 hlw (by omega) hw Hrw3.out).mono ?_
  rintro e w4 ⟨rfl, hbel4⟩
  have hbw4 := ((Hb1.out.trans (Hb2.out.mono Hb1.out.size)).trans (Hb3.out.mono (Nat.le_trans Hb1.out.size Hb2.out.size))).trans (hbel4.mono (Nat.le_trans Hb1.out.size (Nat.le_trans Hb2.out.size Hb3.out.size)))
  have HP4 := Lib.hid ((Hp1.out.below ((Hb2.out.trans (Hb3.out.mono Hb2.out.size)).trans (hbel4.mono (Nat.le_trans Hb2.out.size Hb3.out.size)))).more (Nat.le_trans Hb2.out.size (Nat.le_trans Hb3.out.size hbel4.size)))
  have HX4 := Lib.hid ((HX.out.below (Hb3.out.trans (hbel4.mono Hb3.out.size))).more (Nat.le_trans Hb3.out.size hbel4.size))
  have HY4 := Lib.hid ((HY.out.below hbel4).more hbel4.size)
  have HA4 := Lib.hid ((Hr.out.below hbw4).more hbw4.size)
  have Hbw4 := Lib.hid hbw4
  clear Hp1 HX HY Hr Hrw Hrw2 Hrw3 Hb1 Hb2 Hb3 hbel4 hbw4
  have hcv := conv_reads (P := Try.prog) 22 5 9 Try.underlying22 Try.underlying5 Try.underlying9 l c HA4.out hb
  go_wp2_with fail
  refine (rpack_any l n hl (by omega) hb w4).mono ?_
  rintro e w5 ⟨R, cr, rfl, hrr, hbel5⟩
  rw [hl] at hrr
  rw [hl]
  have HR5 := Lib.hid hrr
  have Hb5 := Lib.hid hbel5
  clear hrr hbel5 hcv
  go_wp2_with fail
  refine (same_any _ R (1 + (n + 7) / 8) _ cr (packed l) w5 (by omega) (by rw [packed_length, hl]) ((HP4.out.below Hb5.out).more Hb5.out.size) HR5.out).mono ?_
  rintro e w6 ⟨rfl, q, hq⟩
  have hb6 : Below w4.heap.size w4 w6 := by rw [hq]; exact below_drewN Hb5.out q
  clear hq
  have hA6 := (HA4.out.below hb6).more hb6.size
  have hX6 := (HX4.out.below hb6).more hb6.size
  have hY6 := (HY4.out.below hb6).more hb6.size
  have cA := conv_reads (P := Try.prog) 22 5 9 Try.underlying22 Try.underlying5 Try.underlying9 l c hA6 hb
  have cX := conv_reads (P := Try.prog) 22 5 9 Try.underlying22 Try.underlying5 Try.underlying9 l cx hX6 hb
  have cY := conv_reads (P := Try.prog) 22 5 9 Try.underlying22 Try.underlying5 Try.underlying9 (unpBytes ws) cy hY6 (unpBytes_lt ws)
  have Hb6 := Lib.hid hb6
  clear hA6 hX6 hY6 hb6 HP4 HR5 Hb5
  go_wp2_with fail
  refine (need_any n (by omega) (by omega) _).mono ?_
  rintro e w7 ⟨rfl, rfl⟩
  go_wp2_with fail
  refine (awake_any _).mono ?_
  rintro e w8 ⟨rfl, hbel8⟩
  have Hb8 := Lib.hid hbel8
  clear hbel8 cA cX cY
  go_wp2_with fail
  go_ret
  exact ⟨rfl, (Hbw4.out.trans (Hb6.out.mono Hbw4.out.size)).trans (Hb8.out.mono (Nat.le_trans Hbw4.out.size Hb6.out.size))⟩
set_option maxRecDepth 100000 in
set_option maxHeartbeats 2000000 in
theorem walk (a0 : Option Addr) (len0 cap0 : Nat) (z0 : List Int) (a1 : Option Addr) (len1 cap1 : Nat) (z1 : List Int) (w : World) (w0 : IsRow .u8 w a0 len0 cap0 z0) (w1 : IsRow .u64 w a1 len1 cap1 z1) :
    Calls Try.prog 4 #[.slice a0 len0 cap0, .slice a1 len1 cap1] w fun e w' => e = .returned (.bool true) ∧ Below w.heap.size w w' := by

  obtain ⟨hr, hlen, hmax, hcap, hwf⟩ := IsRow.reads w0 (fun n h => (u8_lo h).1)
  obtain ⟨hr1, hlen1, hmax1, hcap1, hwf1⟩ := IsRow.reads w1 (fun n h => (u64_lo h).1)
  by_cases hsm : 5000 < len0 ∨ 9000 < len1
  · exact big a0 a1 len0 cap0 len1 cap1 w hsm
  · exact small a0 a1 len0 cap0 len1 cap1 _ _ w hlen (by omega) (bytes_lt hwf) hr hlen1 (by omega) (words_lt hwf1) hr1

set_option maxRecDepth 100000 in
theorem lifted (os : Os) (started : os.Started) (H : Type) (enc : TypeId × Value → H) :
    ReturnsInHanded {} Try.checked os 4 .any (Rows.wordsPackSpec.pre6 enc Try.prog Try.f4 Rows.wordsPackRow.domain false) (Rows.wordsPackSpec.post enc Try.prog Try.f4 false true false false) := by
  refine returnsInHanded_of_change (C := Try.checked) own started (by kernel_rfl) Try.func4
    (ChangeSpec.witness6 (enc := enc) (C := Try.checked) false ⟨#[], #[.slice none 0 0, .slice none 0 0], []⟩ 8 (by kernel_rfl) (by kernel_rfl) (by kernel_rfl) (by kernel_rfl)) ?_
  intro W base args ds gs before hval0 hW hcnd _
  have hval : ∀ (j : Nat) t v, Try.f4.params[j]? = some t → args[j]? = some v → Value.okWide Try.prog W .any base t v := hval0
  have hW' := hW
  obtain ⟨p, q, hA0, hV, rfl, hfz, hnd⟩ := hW
  have hA : DataW.TrodAll enc Try.prog W 0 (fun _ => true) true Try.f4.params.toList args.toList ds p := hA0
  rw [Try.params4] at hA hval
  obtain ⟨v0, vs0, d0, ds0, p0, q0, hargs, rfl, rfl, h0, r0⟩ := trodAll_cons hA
  obtain ⟨v1, vs1, d1, ds1, p1, q1, rfl, rfl, rfl, h1, r1⟩ := trodAll_cons r0
  obtain ⟨rfl, rfl, rfl⟩ := trodAll_nil r1
  obtain rfl : args = #[v0, v1] := by cases args; simp_all
  obtain ⟨rfl, rfl⟩ := trodVars_none hV
  obtain ⟨a0, len0, cap0, rfl⟩ := okWide_slice Try.underlying22 (hval 0 22 v0 rfl rfl)
  have k0 := h0
  have lt0 : ∀ x ∈ p0, x.block < W.heap.size := by obtain ⟨m, hm⟩ := k0; exact DataW.trod_lt m _ _ _ hm
  obtain ⟨z0, w0⟩ : ∃ zs, IsRow .u8 W a0 len0 cap0 zs := by
    obtain ⟨fuel, hf⟩ := h0
    rcases open_ints Try.underlying22 Try.underlying5 (by kernel_rfl) hf with ⟨hcs, _⟩ | ⟨x, l, c, zs, hcs, _, hl, hm, hz, _, hcell, hwz⟩
    · simp [Value.cells] at hcs
      obtain ⟨rfl, rfl, rfl⟩ := hcs
      exact ⟨[], .inl ⟨rfl, rfl, rfl, rfl⟩⟩
    · simp [Value.cells] at hcs
      obtain ⟨rfl, rfl, rfl⟩ := hcs
      exact ⟨zs, .inr ⟨_, rfl, hl, hm, by simpa using hz, hcell, hwz⟩⟩
  obtain ⟨a1, len1, cap1, rfl⟩ := okWide_slice Try.underlying23 (hval 1 23 v1 rfl rfl)
  have k1 := h1
  have lt1 : ∀ x ∈ p1, x.block < W.heap.size := by obtain ⟨m, hm⟩ := k1; exact DataW.trod_lt m _ _ _ hm
  obtain ⟨z1, w1⟩ : ∃ zs, IsRow .u64 W a1 len1 cap1 zs := by
    obtain ⟨fuel, hf⟩ := h1
    rcases open_ints Try.underlying23 Try.underlying26 (by kernel_rfl) hf with ⟨hcs, _⟩ | ⟨x, l, c, zs, hcs, _, hl, hm, hz, _, hcell, hwz⟩
    · simp [Value.cells] at hcs
      obtain ⟨rfl, rfl, rfl⟩ := hcs
      exact ⟨[], .inl ⟨rfl, rfl, rfl, rfl⟩⟩
    · simp [Value.cells] at hcs
      obtain ⟨rfl, rfl, rfl⟩ := hcs
      exact ⟨zs, .inr ⟨_, rfl, hl, hm, by simpa using hz, hcell, hwz⟩⟩
  clear hA0 hval0
  refine (walk a0 len0 cap0 z0 a1 len1 cap1 z1 W w0 w1).mono fun e W' ⟨he, bel⟩ => ?_
  subst he
  exact ⟨_, rfl, _, _, _, [], _, [], hW', trodAll_mk1 (shut_bool Try.underlying4 _), (trodAll_cons_mk (Below.trod laidOut (by kernel_rfl) (of_decide_eq_true (by kernel_rfl)) k0 bel lt0) (trodAll_cons_mk (Below.trod laidOut (by kernel_rfl) (of_decide_eq_true (by kernel_rfl)) k1 bel lt1) trodAll_mk0)), rfl, bel.frame _, fun h => by cases h⟩

theorem over : Rows.wordsPackRow.holds Try.pinned (OpenSpec.ofChange Rows.wordsPackSpec) :=
  OpenClaim.holds_of_wide 4 Try.f4 rfl rfl rfl rfl rfl rfl rfl ⟨rfl, rfl, rfl, rfl, rfl⟩ rfl rfl rfl rfl rfl (by kernel_rfl) Try.func4 (by kernel_rfl)
    (of_decide_eq_true (by kernel_rfl)) (by unfold Func.isWrapper; first | (rw [if_pos (by decide +kernel)]; kernel_rfl) | (rw [if_neg (by decide +kernel)]; exact ⟨rfl, rfl⟩))
    (fun os started H enc _ => lifted os started H enc)

theorem proved : Rows.WordsPackSaid := over
#print axioms proved
end Go.Proofs.Ytkkdcojgnpmpgaa.wordsPack
