/- WordsBits: for every slice of bytes, every place and every byte the law returns true. -/
import Derived.Test.YtkkdcojgnpmpgaaRows
import Derived.WalkKit
import Derived.ProofKit
import Derived.OpenShut
import Derived.ShutString
import Derived.ChangeOld
import Derived.Below
import Derived.Test.YtkkdcojgnpmpgaaWordsC
import Derived.Test.YtkkdcojgnpmpgaaWordsQ
import Derived.StillTailTactics
import Derived.Lib.Hide
namespace Go.Proofs.Ytkkdcojgnpmpgaa.wordsBits
open Go.ChangeShapes Go.WideShapes Go.ChangeAt Go.RowKit
open Go.ChangeMaps (open_string shut_string)
set_option linter.unusedVariables false

theorem own : ownKnob Try.prog.godebug = none := by kernel_rfl
theorem laidOut : laidOutB Try.prog = true := by kernel_rfl

theorem small (A : Option Addr) (n cap : Nat) (a : Int) (y : Int) (w : World) (h : n = 0 ∨ 1000 < n) :
    Calls Try.prog 3 #[.slice A n cap, .int .i64 a, .int .u8 y] w fun e w' => e = .returned (.bool true) ∧ Below w.heap.size w w' := by
  rcases h with rfl | h
  all_goals
    go_enter Try.func3, Try.ntmps3
    go_wp2_with fail
    refine (pack_any none 0 0 [] rfl (by decide) (by simp) _ Reads.none_).mono ?_
    rintro e w1 ⟨rfl, hblk, hbel⟩
    clear hblk
    have Hb := Lib.hid hbel
    clear hbel
    go_wp2_with fail
    refine (awake_any _).mono ?_
    rintro e w2 ⟨rfl, hbel2⟩
    have Hc := Lib.hid hbel2
    clear hbel2
    go_wp2_with fail
    go_ret
    exact ⟨rfl, Hb.out.trans (Hc.out.mono Hb.out.size)⟩
theorem bytes_lt {l : List Nat} (h : ∀ n ∈ l, (Lit.int .u8 (n : Int)).wf = true) : ∀ i, l.getD i 0 < 256 := by
  intro i
  rcases Nat.lt_or_ge i l.length with hi | hi
  · have := (u8_lo (h _ (List.getElem_mem hi))).2
    simp [List.getD, hi]
    omega
  · simp [List.getD, hi]
theorem place (n : Nat) (a : Int) (hn : 0 < n) (hm : n ≤ 1000) : ∃ K : Nat, K < n ∧ (wrap64 (a.tmod (n : Int) + (n : Int))).tmod (n : Int) = (K : Int) := by
  have h1 := Int.tmod_lt_of_pos a (show (0 : Int) < (n : Int) by omega)
  have h2 := Int.lt_tmod_of_pos a (show (0 : Int) < (n : Int) by omega)
  refine ⟨((a.tmod (n : Int) + (n : Int)) % (n : Int)).toNat, ?_, ?_⟩
  · have := Int.emod_lt_of_pos (a.tmod (n : Int) + (n : Int)) (show (0 : Int) < (n : Int) by omega)
    have := Int.emod_nonneg (a.tmod (n : Int) + (n : Int)) (show (n : Int) ≠ 0 by omega)
    omega
  · rw [IntWalk.wrap64_in _ (by omega), Int.tmod_eq_emod_of_nonneg (by omega)]
    have := Int.emod_nonneg (a.tmod (n : Int) + (n : Int)) (show (n : Int) ≠ 0 by omega)
    omega
theorem Ints_setl (k : IntKind) (l : List Nat) (j v : Nat) : (Ints k l).set j (.int k (v : Int)) = Ints k (l.set j v) := by
  simp [Ints, List.map_set]
theorem after_append {w wa : World} {g n cap' : Nat} {l : List Nat} (hl : l.length = n) (K c : Nat) (hK : K < n) (hc : Hid (l.getD K 0 = c))
    (h : wa.ownsRow w.heap.size 5 1 (.slice (some ⟨g, 0, none⟩) (0 + n) cap') (0 + n) ([] ++ Ints .u8 l)) :
    wa.ownsRow w.heap.size 5 1 (.slice (some ⟨g, 0, none⟩) n cap') n (Ints .u8 l) ∧ wa.cell? ⟨g, K, none⟩ = some (.int .u8 (c : Int)) ∧ wa.frozen? ⟨g, K, none⟩ = false ∧ w.heap.size ≤ g := by
  simp only [Nat.zero_add, List.nil_append] at h
  refine ⟨h, ?_, h.frozenAt K, (h.lt g rfl).1⟩
  rw [h.cellAt K (by omega), Ints_get _ _ _ (by omega), hc.out]
theorem set_lt {l : List Nat} (hb : ∀ i, l.getD i 0 < 256) {K v : Nat} (hK : K < l.length) (hv : v < 256) : ∀ i, (l.set K v).getD i 0 < 256 := by
  intro i
  rw [getD_set _ _ _ _ hK]
  split
  · exact hv
  · exact hb i
theorem blk_at {w : World} {P : Nat} {e : TypeId} {k : IntKind} {l : List Nat} (h : Blk w P e (Ints k l).toArray) (j : Nat) (hj : j < l.length) {v : Nat} (hv : l.getD j 0 = v) : w.cell? ⟨P, j, none⟩ = some (.int k (v : Int)) := by
  rw [h.cell j, List.getElem?_toArray, Ints_get _ _ _ hj, hv]
theorem word_at (l : List Nat) (hb : ∀ i, l.getD i 0 < 256) (n K c : Nat) (hl : l.length = n) (hK : K < n) (hc : l.getD K 0 = c) :
    ∃ v : Nat, (packed l).getD (1 + K / 8) 0 = v ∧ IntKind.u8.wrap ((v : Int) / 2 ^ (8 * (K % 8))) = (c : Int) := by
  refine ⟨_, rfl, ?_⟩
  unfold packed
  rw [pkList_succ _ _ _ _ (by omega)]
  have h := pkw_byte l hb l.length (K / 8) (K % 8) (Nat.mod_lt _ (by decide)) (by omega)
  have e : 8 * (K / 8) + K % 8 = K := by omega
  rw [e, hc] at h
  have e2 : ((pkw l l.length (K / 8) : Nat) : Int) / 2 ^ (8 * (K % 8)) = ((pkw l l.length (K / 8) / 2 ^ (8 * (K % 8)) : Nat) : Int) := by
    rw [Int.natCast_ediv, Int.natCast_pow]; rfl
  rw [e2, IntKind.wrap_u8']
  omega
theorem words_at (l : List Nat) (hb : ∀ i, l.getD i 0 < 256) (n K c y k : Nat) (hl : l.length = n) (hK : K < n) (hc : l.getD K 0 = c) (hy : y < 256) (hk : k < 1 + (n + 7) / 8) :
    ∃ pv qv : Nat, (packed l).getD k 0 = pv ∧ (packed (l.set K (c ^^^ y))).getD k 0 = qv ∧
      (k = 1 + K / 8 → bits .xor .u64 (pv : Int) (IntKind.u64.wrap ((y : Int) * 2 ^ (8 * (K % 8)))) = (qv : Int)) ∧ (k ≠ 1 + K / 8 → qv = pv) := by
  refine ⟨_, _, rfl, rfl, ?_, ?_⟩
  · rintro rfl
    unfold packed
    rw [List.length_set, pkList_succ _ _ _ _ (by omega), pkList_succ _ _ _ _ (by omega), ← hc, pkw_xor l hb K y (by omega) hy, if_pos rfl]
    have hs := byte_shift_lt y (K % 8) hy (Nat.mod_lt _ (by decide))
    have e : (y : Int) * 2 ^ (8 * (K % 8)) = ((y * 2 ^ (8 * (K % 8)) : Nat) : Int) := by
      rw [Int.natCast_mul, Int.natCast_pow]; rfl
    rw [e, IntWalk.u64_in _ (by omega)]
    exact u64_xor_nat _ _ (pkw_u64 l hb _ _) hs
  · intro hne
    unfold packed
    rcases Nat.eq_zero_or_pos k with rfl | h0
    · rw [pkList_zero, pkList_zero, List.length_set]
    · obtain ⟨j, rfl⟩ : ∃ j, k = 1 + j := ⟨k - 1, by omega⟩
      rw [List.length_set, pkList_succ _ _ _ _ (by omega), pkList_succ _ _ _ _ (by omega), ← hc, pkw_xor l hb K y (by omega) hy, if_neg (by omega)]
theorem grow_below {w wa : World} {e : TypeId} {v : Value} (h : (w.alloc (.cells #[] e)).grownBy wa v.ownBlock) (hv : v.ownBlock = some w.heap.size := by rfl) : Below w.heap.size w wa :=
  ((Below.refl _ w).alloc (Nat.le_refl _) _).grown h (by simp) (fun k hk => by rw [hv] at hk; injection hk with hk; omega)
set_option maxRecDepth 100000 in
set_option maxHeartbeats 2000000 in
theorem great (A : Option Addr) (n cap : Nat) (l : List Nat) (a : Int) (y : Nat) (w : World) (hl : l.length = n) (h0 : 0 < n) (h1 : n ≤ 1000) (hy : y < 256) (hb : ∀ i, l.getD i 0 < 256)
    (hr : Reads w w.heap.size 1 A n (Ints .u8 l)) :
    Calls Try.prog 3 #[.slice A n cap, .int .i64 a, .int .u8 (y : Int)] w fun e w' => e = .returned (.bool true) ∧ Below w.heap.size w w' := by
  obtain ⟨K, hKn, hK⟩ := place n a h0 h1
  obtain ⟨i0, hi, hz0, hz1, hz2⟩ := info_parts info5
  obtain ⟨ad, rfl, hab, hcad⟩ := hr.2 h0
  have hn0 : ((n : Int) == 0) = false := by rw [beq_eq_false_iff_ne]; omega
  have hn1 : ¬ 1000 < (n : Int) := by omega
  have hnews : ∀ j u, (Ints .u8 l)[j]? = some u → (w.alloc (.cells #[] 5)).cell? (ad.add j) = some u := fun j u hu => by
    rw [World.cell?_alloc_lt w _ _ (by rw [block_of_add]; exact hab)]
    exact hcad j u hu
  have Hn := Lib.hid hnews
  have Hc := Lib.hid hcad
  clear hnews hcad
  have hown : (w.alloc (.cells #[] 5)).ownsRow w.heap.size 5 1 (.slice (some ⟨w.heap.size, 0, none⟩) 0 0) 0 [] :=
    ⟨rfl, .inr ⟨w.heap.size, 0, #[], rfl, Nat.le_refl _, Blk.new w 5 #[], Nat.le_refl _, by decide, rfl, rfl⟩⟩
  obtain ⟨c, hcc⟩ : ∃ c, l.getD K 0 = c := ⟨_, rfl⟩
  have hc256 : c < 256 := hcc ▸ hb K
  have Hcc := Lib.hid hcc
  clear hcc
  have HX := Lib.hid (u8_xor_nat c y hc256 hy)
  go_enter Try.func3, Try.ntmps3
  go_wp2_with (at_builtin; refine wpList_append_lies _ rfl (.tmp 37) (.tmp 38) 22 rfl w.heap.size 5 i0 (.int .u8 0) 1 1 Try.underlying22 hi hz0 hz1 hz2 rfl (by decide) _ 0 [] rfl hown ad n cap (Ints .u8 l) rfl (by rw [Ints_length]; omega) Hn.out (Ints_one _ _) h0 (by unfold maxLen; omega) (by omega) (by simp) (w.heap.size + 1) (by simp) ?_; intro g cap' wa hown1 hgrow1 hat hglt; obtain ⟨hown2, hcK, hfK, hgB⟩ := after_append hl K c hKn Hcc hown1; have Hown := Lib.hid hown2; have Hgrow := Lib.hid (grow_below hgrow1); clear hown1 hgrow1 hown2 hat)
  generalize hW : wa.setCell ⟨g, K, none⟩ _ = wb
  have hbb : Below w.heap.size w wb := by subst hW; exact Hgrow.out.setCell hgB _
  have hownb : wb.ownsRow w.heap.size 5 1 (.slice (some ⟨g, 0, none⟩) n cap') n (Ints .u8 (l.set K (c ^^^ y))) := by
    subst hW
    have := (Hown.out.stored K (.int .u8 ((c ^^^ y : Nat) : Int))).1
    rw [Ints_setl, ← HX.out] at this
    exact this
  clear hW HX Hgrow Hown hcK hfK Hn
  have hl2 : (l.set K (c ^^^ y)).length = n := by simp [hl]
  have hb2 : ∀ i, (l.set K (c ^^^ y)).getD i 0 < 256 := set_lt hb (by omega) (by have := Nat.xor_lt_two_pow (n := 8) hc256 hy; exact this)
  have hr1 : Reads wb wb.heap.size 1 (some ad) n (Ints .u8 l) := (hr.below hbb).more hbb.size
  have hr2 : Reads wb wb.heap.size 1 (some ⟨g, 0, none⟩) n (Ints .u8 (l.set K (c ^^^ y))) := Reads.of_own hownb
  refine (pack_any _ n cap l hl (by omega) hb _ hr1).mono ?_
  rintro e w1 ⟨rfl, hblk1, hbel1⟩
  go_wp2_with fail
  have hr3 := (hr2.below hbel1).more hbel1.size
  refine (pack_any _ n cap' _ hl2 (by omega) hb2 _ hr3).mono ?_
  rintro e w2 ⟨rfl, hblk2, hbel2⟩
  have hP := hblk1.below hbel2 hblk1.lt
  have hPlt := hblk1.lt
  have hbw : Below w.heap.size w w2 := (hbb.trans (hbel1.mono hbb.size)).trans (hbel2.mono (Nat.le_trans hbb.size hbel1.size))
  generalize hPn : wb.heap.size = P at *
  generalize hQn : w1.heap.size = Q at *
  have HP := Lib.hid hP
  have HQ := Lib.hid hblk2
  have Hbw := Lib.hid hbw
  clear hPn hQn hr1 hr2 hr3 hbel1 hbel2 hblk1 hblk2 hownb hbb hP hbw hown
  obtain ⟨v, hv, hsh⟩ := word_at l hb n K c hl hKn Hcc.out
  have hp0 : w2.cell? ⟨P, 0, none⟩ = some (.int .u64 (n : Int)) := by rw [← hl]; exact blk_at HP.out 0 (by unfold packed; rw [pkList_length]; omega) (pkList_zero _ _ _)
  have hpK : w2.cell? ⟨P, 1 + K / 8, none⟩ = some (.int .u64 (v : Int)) := blk_at HP.out _ (by unfold packed; rw [pkList_length]; omega) hv
  have hbK : w2.cell? (ad.add K) = some (.int .u8 (c : Int)) := by
    rw [Hbw.out.cell (by rw [block_of_add]; exact hab)]
    exact Hc.out K _ (by rw [Ints_get _ _ _ (by omega), Hcc.out])
  have e2 : 0 ≤ (K : Int) := by omega
  have e3 : (K : Int) < (n : Int) := by omega
  go_wp2_with fail
  go_loop [11] (fun i => ∃ k : Nat, k ≤ 1 + (n + 7) / 8 ∧ i = .int .i64 k) (fun i => 1 + (n + 7) / 8 - (intOf i).toNat)
  case atStart => exact ⟨0, by omega, rfl⟩
  case round =>
    obtain ⟨k, hk, rfl⟩ := hrel
    by_cases hlt : k < 1 + (n + 7) / 8
    · clear hp0 hpK hbK hsh
      obtain ⟨pv, qv, hpv, hqv, hsame⟩ := words_at l hb n K c y k hl hKn Hcc.out hy hlt
      have hp : w2.cell? ⟨P, k, none⟩ = some (.int .u64 (pv : Int)) := blk_at HP.out k (by unfold packed; rw [pkList_length]; omega) hpv
      have hq : w2.cell? ⟨Q, k, none⟩ = some (.int .u64 (qv : Int)) := blk_at HQ.out k (by unfold packed; rw [pkList_length, hl2]; omega) hqv
      by_cases hkK : k = 1 + K / 8
      · have hx := hsame.1 hkK
        have hkb : ((k : Int) == 1 + (K : Int) / 8) = true := by rw [beq_iff_eq]; omega
        clear hsame hkK
        go_wp2_with fail
        go_round
        case rel => exact ⟨k + 1, by omega, by go_num⟩
        case measure => simp [intOf]; omega
      · have hx := hsame.2 hkK
        have hkb : ((k : Int) == 1 + (K : Int) / 8) = false := by rw [beq_eq_false_iff_ne]; omega
        clear hsame hkK
        go_wp2_with fail
        go_round
        case rel => exact ⟨k + 1, by omega, by go_num⟩
        case measure => simp [intOf]; omega
    · have e4 : (0 : Int) < 1 + ((n : Int) + 7) / 8 := by omega
      have e5 : 1 + (K : Int) / 8 < 1 + ((n : Int) + 7) / 8 := by omega
      have e6 : 0 ≤ 1 + (K : Int) / 8 := by omega
      have hu : IntKind.u64.wrap (n : Int) = n := IntWalk.u64_in _ (by omega)
      have f1 : IntKind.i64.wrap ((K : Int) / 8) = (K : Int) / 8 := IntWalk.i64_in _ (by omega)
      have f2 : IntKind.i64.wrap (1 + (K : Int) / 8) = 1 + (K : Int) / 8 := IntWalk.i64_in _ (by omega)
      have f3 : (1 + (K : Int) / 8).toNat = 1 + K / 8 := by omega
      have f4 : IntKind.i64.wrap (8 * ((K : Int) % 8)) = 8 * ((K : Int) % 8) := IntWalk.i64_in _ (by omega)
      have f0 : (K : Int).tmod 8 = (K : Int) % 8 := Int.tmod_eq_emod_of_nonneg (by omega)
      have f5 : (0 : Int) ≤ 8 * ((K : Int) % 8) := by omega
      have f6 : 8 * ((K : Int) % 8) ≤ 64 := by omega
      have f7 : (8 * ((K : Int) % 8)).toNat = 8 * (K % 8) := by omega
      go_wp2_with fail
      go_still_tail 26, (by kernel_rfl)
      change wpList _ _ _ _ _ w2.drew
      have Hbd : Hid (Below w.heap.size w w2.drew) := Lib.hid Hbw.out.drew
      generalize w2.drew = w4 at *
      go_wp2_with fail
      refine (awake_any _).mono ?_
      rintro e w3 ⟨rfl, hbel3⟩
      have Hb3 := Lib.hid hbel3
      clear hbel3
      go_wp2_with fail
      go_ret
      exact ⟨rfl, Hbd.out.trans (Hb3.out.mono Hbd.out.size)⟩
set_option maxRecDepth 100000 in
set_option maxHeartbeats 2000000 in
theorem walk (a0 : Option Addr) (len0 cap0 : Nat) (z0 : List Int) (a1 : Int) (a2 : Int) (w : World) (w0 : IsRow .u8 w a0 len0 cap0 z0) (w1 : (Lit.int .i64 a1).wf = true) (w2 : (Lit.int .u8 a2).wf = true) :
    Calls Try.prog 3 #[.slice a0 len0 cap0, .int .i64 a1, .int .u8 a2] w fun e w' => e = .returned (.bool true) ∧ Below w.heap.size w w' := by

  obtain ⟨hr, hlen, hmax, hcap, hwf⟩ := IsRow.reads w0 (fun n h => (u8_lo h).1)
  by_cases hsm : len0 = 0 ∨ 1000 < len0
  · exact small a0 len0 cap0 a1 a2 w hsm
  · obtain ⟨y, rfl⟩ := Int.eq_ofNat_of_zero_le (u8_lo w2).1
    have hy : y < 256 := by have := (u8_lo w2).2; omega
    exact great a0 len0 cap0 (natsOf len0 z0) a1 y w hlen (by omega) (by omega) hy (bytes_lt hwf) hr

set_option maxRecDepth 100000 in
theorem lifted (os : Os) (started : os.Started) (H : Type) (enc : TypeId × Value → H) :
    ReturnsInHanded {} Try.checked os 3 .any (Rows.wordsBitsSpec.pre6 enc Try.prog Try.f3 Rows.wordsBitsRow.domain false) (Rows.wordsBitsSpec.post enc Try.prog Try.f3 false true false false) := by
  refine returnsInHanded_of_change (C := Try.checked) own started (by kernel_rfl) Try.func3
    (ChangeSpec.witness6 (enc := enc) (C := Try.checked) false ⟨#[], #[.slice none 0 0, .int .i64 0, .int .u8 0], []⟩ 8 (by kernel_rfl) (by kernel_rfl) (by kernel_rfl) (by kernel_rfl)) ?_
  intro W base args ds gs before hval0 hW hcnd _
  have hval : ∀ (j : Nat) t v, Try.f3.params[j]? = some t → args[j]? = some v → Value.okWide Try.prog W .any base t v := hval0
  have hW' := hW
  obtain ⟨p, q, hA0, hV, rfl, hfz, hnd⟩ := hW
  have hA : DataW.TrodAll enc Try.prog W 0 (fun _ => true) true Try.f3.params.toList args.toList ds p := hA0
  rw [Try.params3] at hA hval
  obtain ⟨v0, vs0, d0, ds0, p0, q0, hargs, rfl, rfl, h0, r0⟩ := trodAll_cons hA
  obtain ⟨v1, vs1, d1, ds1, p1, q1, rfl, rfl, rfl, h1, r1⟩ := trodAll_cons r0
  obtain ⟨v2, vs2, d2, ds2, p2, q2, rfl, rfl, rfl, h2, r2⟩ := trodAll_cons r1
  obtain ⟨rfl, rfl, rfl⟩ := trodAll_nil r2
  obtain rfl : args = #[v0, v1, v2] := by cases args; simp_all
  obtain ⟨rfl, rfl⟩ := trodVars_none hV
  obtain ⟨a0, len0, cap0, rfl⟩ := okWide_slice Try.underlying22 (hval 0 22 v0 rfl rfl)
  have k0 := h0
  have lt0 : ∀ x ∈ p0, x.block < W.heap.size := by obtain ⟨m, hm⟩ := k0; exact DataW.trod_lt m _ _ _ hm
  obtain ⟨z0, w0⟩ : ∃ zs, IsRow .u8 W a0 len0 cap0 zs := by
    obtain ⟨fuel, hf⟩ := h0
    rcases open_ints Try.underlying22 Try.underlying5 (by kernel_rfl) hf with ⟨hcs, _⟩ | ⟨x, l, c, zs, hcs, _, hl, hm, hz, _, hcell, hwz⟩
    · simp [Value.cells] at hcs
      obtain ⟨rfl, rfl, rfl⟩ := hcs
      exact ⟨[], .inl ⟨rfl, rfl, rfl, rfl⟩⟩
    · simp [Value.cells] at hcs
      obtain ⟨rfl, rfl, rfl⟩ := hcs
      exact ⟨zs, .inr ⟨_, rfl, hl, hm, by simpa using hz, hcell, hwz⟩⟩
  obtain ⟨a1, rfl, rfl, rfl, w1⟩ := open_int Try.underlying3 (hval 1 3 v1 rfl rfl) h1
  obtain ⟨a2, rfl, rfl, rfl, w2⟩ := open_int Try.underlying5 (hval 2 5 v2 rfl rfl) h2
  clear hA0 hval0
  refine (walk a0 len0 cap0 z0 a1 a2 W w0 w1 w2).mono fun e W' ⟨he, bel⟩ => ?_
  subst he
  exact ⟨_, rfl, _, _, _, [], _, [], hW', trodAll_mk1 (shut_bool Try.underlying4 _), (trodAll_cons_mk (Below.trod laidOut (by kernel_rfl) (of_decide_eq_true (by kernel_rfl)) k0 bel lt0) (trodAll_cons_mk (shut_int Try.underlying3 w1) (trodAll_cons_mk (shut_int Try.underlying5 w2) trodAll_mk0))), rfl, bel.frame _, fun h => by cases h⟩

theorem over : Rows.wordsBitsRow.holds Try.pinned (OpenSpec.ofChange Rows.wordsBitsSpec) :=
  OpenClaim.holds_of_wide 3 Try.f3 rfl rfl rfl rfl rfl rfl rfl ⟨rfl, rfl, rfl, rfl, rfl⟩ rfl rfl rfl rfl rfl (by kernel_rfl) Try.func3 (by kernel_rfl)
    (of_decide_eq_true (by kernel_rfl)) (by unfold Func.isWrapper; first | (rw [if_pos (by decide +kernel)]; kernel_rfl) | (rw [if_neg (by decide +kernel)]; exact ⟨rfl, rfl⟩))
    (fun os started H enc _ => lifted os started H enc)

theorem proved : Rows.WordsBitsSaid := over
#print axioms proved
end Go.Proofs.Ytkkdcojgnpmpgaa.wordsBits
