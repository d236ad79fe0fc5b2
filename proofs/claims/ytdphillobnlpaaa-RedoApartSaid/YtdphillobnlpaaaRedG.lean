/- The contract of Power. -/
import Derived.Test.YtdphillobnlpaaaRedF
namespace Go.Proofs.Ytdphillobnlpaaa
open Go.RowKit
open Go.Maps (Keyed)
open Go.ChangeMaps
set_option linter.unusedVariables false

/-- What the map of what is kept says. -/
def KeepD (D : DataW Unit) (l : List Int) : Prop := ∀ q : Nat, q < 65536 → D.atKey (.int .i64 (q : Int)) (.lit (.bool false)) = .lit (.bool (decide ((q : Int) ∈ l)))
noncomputable abbrev boolR : Value → Option (DataW Unit × List MemPlace) := plainElem Try.prog 4
set_option maxRecDepth 100000 in
theorem keepD_nil : KeepD (.map []) [] := fun q _ => by simp [DataW.atKey]
set_option maxRecDepth 100000 in
theorem keepD_put {D : DataW Unit} {l : List Int} {z : Int} (h : KeepD D l) (hm : Maps.IsMap D) (hz : (Lit.int .i64 z).wf = true) : KeepD (D.put (.int .i64 z) (.lit (.bool true))) (l ++ [z]) := by
  intro q hq
  have hkl : WideAt.IsKeyLit (.int .i64 z) := keyedI.key (Maps.keyOf_int_mk Try.underlying3 hz)
  by_cases e : (q : Int) = z
  · rw [e, Maps.atKey_put_same hm hkl]
    simp
  · have hne : (Lit.int .i64 (q : Int)) ≠ (Lit.int .i64 z) := fun e' => e (by injection e')
    rw [Maps.atKey_put_other hne, h q hq]
    simp [e]
set_option maxRecDepth 100000 in
theorem keep_look {w : World} {b m : Nat} {D : DataW Unit} {l : List Int} (h : w.ownsMap Try.prog 3 boolR b m D) (hk : KeepD D l) (q : Nat) (hq : q < 65536) :
    (Instr.lookup 67 (.map (some b)) (.int .i64 (q : Int)) false).run Try.prog w = .ok (.bool (decide ((q : Int) ∈ l))) w := by
  obtain ⟨v, ps, hrun, hv⟩ := h.lookup (t := 67) (e := 4) keyedI Try.underlying67 (z := .bool false) (by rfl) (plainElem_bool Try.underlying4 false) (key_int (a := (q : Int)) (by omega))
  rw [hk q hq] at hv
  have e : v = .bool (decide ((q : Int) ∈ l)) := by
    unfold boolR plainElem at hv
    rw [Try.underlying4] at hv
    cases v <;> simp at hv
    rw [hv.1]
  rw [hrun, e]
def DS.power (s : DS) (p : Nat → Bool) : DS := { now := fun j => if p j = true then s.now j else s.last j, last := fun j => if p j = true then s.now j else s.last j, way := fun _ => none, steps := s.steps, fuse := -1, dead := false }
/-- What lasts when the first of the waiting words have been looked at. -/
def lastP (s : DS) (p : Nat → Bool) (ws : List Nat) (j : Nat) : Int := if (decide (j ∈ ws) && p j) = true then s.now j else s.last j
set_option maxRecDepth 100000 in
theorem lastP_all (s : DS) (p : Nat → Bool) (n j : Nat) (hj : j < n) : lastP s p (waits s n) j = if p j = true then s.now j else s.last j := by
  unfold lastP waits
  by_cases h : s.now j = s.last j
  · simp [h]
  · have : decide (j ∈ List.filter (fun i => !(s.now i == s.last i)) (List.range n)) = true := by simp [h, hj]
    rw [this, Bool.true_and]
set_option maxRecDepth 100000 in
theorem lastP_hit (s : DS) (p : Nat → Bool) (ws : List Nat) (x : Nat) (hp : p x = true) : upd (lastP s p ws) x (s.now x) = lastP s p (ws ++ [x]) := by
  funext j
  unfold upd lastP
  by_cases e : j = x
  · subst e
    simp [hp]
  · simp [e]
set_option maxRecDepth 100000 in
theorem lastP_miss (s : DS) (p : Nat → Bool) (ws : List Nat) (x : Nat) (hp : p x = false) : lastP s p ws = lastP s p (ws ++ [x]) := by
  funext j
  unfold lastP
  by_cases e : j = x
  · subst e
    simp [hp]
  · simp [e]
set_option maxRecDepth 100000 in
theorem beq_of_ne {b f : Bool} (h : false = (b != f)) : (b == f) = true := by revert b f; decide
set_option maxRecDepth 100000 in
theorem beq_of_nn {b f : Bool} (h : true = (b != f)) : (b == f) = false := by revert b f; decide
set_option maxRecDepth 100000 in
set_option maxRecDepth 100000 in
set_option maxHeartbeats 4000000 in
theorem power_any (w : World) (A : Nat → Prop) (G : Dv) (n : Nat) (s : DS) (flip : Bool) (L : Option Addr) (m c : Nat) (zs : List Int) (h : Dev w A G n s) (hA : ∀ b, A b → b < w.heap.size)
    (hr : Reads w w.heap.size 1 L m (zs.map (Value.int .i64))) (hz : ∀ z ∈ zs, (Lit.int .i64 z).wf = true) (hm : m ≤ 9223372036854775807) (p : Nat → Bool) (hp : ∀ j : Nat, p j = (decide ((j : Int) ∈ zs) != flip)) :
    Calls Try.prog 15 #[.pointer (some ⟨G.d, 0, none⟩), .bool flip, .slice L m c] w fun e w' => e = .returned (.tuple #[]) ∧ Dev w' A G n (s.power p) ∧ Mv G.own w w' := by
  have hmz : zs.length = m := by have := hr.1; simpa using this
  have h' := Lib.hid h
  have hn : n ≤ 65536 := h.2.2.2.2.2.1.2.1
  have hap := Lib.hid h.apart
  have hr' := Lib.hid hr
  have hz' := Lib.hid hz
  have hA' := Lib.hid hA
  have hmz' := Lib.hid hmz
  have Hp := Lib.hid hp
  have hmm := @run_makeMap Try.prog
  clear h hr hz hA hmz hp
  go_enter Try.func15, Try.ntmps15
  go_wp2_with fail
  go_loopw [14] (fun i wr => ∃ (k : Nat) (D : DataW Unit), i = .int .i64 k ∧ k ≤ m ∧ Hid (wr.ownsMap Try.prog 3 boolR w.heap.size k D) ∧ Hid (KeepD D (zs.take k)) ∧ Hid (Below w.heap.size w wr))
    (fun i _ => m - (intOf i).toNat)
  case atStart => exact ⟨0, .map [], rfl, by omega, Lib.hid (World.ownsMap_made w Try.prog 3 boolR), Lib.hid keepD_nil, Lib.hid ((Below.refl _ _).alloc (Nat.le_refl _) _)⟩
  case round =>
    obtain ⟨k, D, rfl, hk, hown, hD, hb⟩ := hrel
    by_cases hlt : k < m
    · obtain ⟨ad, u, hA1, hadb, hu, hcl⟩ := (hr'.out.below hb.out).at_ hlt
      subst hA1
      have hkz : k < zs.length := by rw [hmz'.out]; exact hlt
      rw [List.getElem?_map, List.getElem?_eq_getElem hkz, Option.map_some, Option.some.injEq] at hu
      subst hu
      have hwz := hz'.out _ (List.getElem_mem hkz)
      have htk : zs.take (k + 1) = zs.take k ++ [zs[k]] := by rw [List.take_succ_eq_append_getElem hkz]
      have Htk := Lib.hid htk
      have hnext := Lib.hid (keepD_put hD.out hown.out.isMap hwz)
      rw [← htk] at hnext
      clear htk
      generalize zs[k] = z at hcl hwz hnext Htk
      go_wp2_with (at_mapUpdate; refine wpList_mapUpdate_own _ rfl _ _ _ 67 rfl 3 4 keyedI Try.underlying67 boolR w.heap.size k D rfl hown.out (by unfold maxLen; omega) _ _ (.int .i64 z) rfl rfl (Maps.keyOf_int_mk Try.underlying3 hwz) (.lit (.bool true)) [] (plainElem_bool Try.underlying4 true) ?_; intro w5 hown5 hg5; have Hown5 := Lib.hid hown5; have Hg5 := Lib.hid hg5; clear hown5 hg5)
      go_roundw
      case rel => exact ⟨k + 1, _, by go_num, by omega, Hown5, hnext, Lib.hid (hb.out.grown Hg5.out hb.out.size (fun j hj => by cases hj; exact Nat.le_refl _))⟩
      case measure => simp [intOf]; omega
    · have hkm : k = m := by omega
      subst hkm
      have hD2 : Hid (KeepD D zs) := Lib.hid (by have := hD.out; rwa [← hmz'.out, List.take_length] at this)
      have hsz := hb.out.size
      have Hdev := Lib.hid (h'.out.mv (Mv.of_below hb.out (fun _ => False)) (fun _ _ e => e.elim) (A' := A) (fun _ _ e => e) h'.out.2.2.2.2.1 (fun _ _ e => e))
      clear hD hmm
      go_wp2_with (go_at_call 44; refine (waiting_any wr A G n s Hdev.out).mono ?_; rintro e w5 ⟨A5, q, hq, rfl, hr5, hg5, hb5⟩; have Hq := Lib.hid hq; have Hr5 := Lib.hid hr5; have Hg5 := Lib.hid hg5; have Hb5 := Lib.hid hb5; clear hq hr5 hg5 hb5)
      have Hdev5 := Lib.hid (Hdev.out.mv (Mv.of_below Hb5.out (fun _ => False)) (fun _ _ e => e.elim) (A' := A) (fun _ _ e => e) h'.out.2.2.2.2.1 (fun _ _ e => e))
      have Hown5 := Lib.hid (mv_map hown.out (Mv.of_below Hb5.out (fun _ => False)) (fun e => e))
      have hqn : q ≤ 65536 := by have := Hq.out; have := waits_len s n; omega
      have hap5 := Lib.hid Hdev5.out.apart
      have hb05 := Lib.hid (hb.out.trans (Hb5.out.mono hsz))
      clear hown Hdev hb
      go_loopw [24] (fun i ws => ∃ k : Nat, i = .int .i64 k ∧ k ≤ q ∧ Hid (Row ws G.l G.cl n (lastP s p ((waits s n).take k))) ∧ Hid (Mv (fun b => b = G.l) w5 ws))
        (fun i _ => q - (intOf i).toNat)
      case atStart => exact ⟨0, rfl, by omega, Lib.hid (Hdev5.out.2.2.1.congr (fun i _ => by simp [lastP])), Lib.hid (Mv.refl _ _)⟩
      case round =>
        obtain ⟨k2, rfl, hk2, hrow, hM⟩ := hrel
        by_cases hlt2 : k2 < q
        · obtain ⟨ad, u, hA1, hadb, hu, hcl⟩ := Hr5.out.at_ hlt2
          subst hA1
          have hkz : k2 < (waits s n).length := by rw [← Hq.out]; exact hlt2
          rw [Ints_get .i64 _ _ hkz, Option.some.injEq] at hu
          subst hu
          have hmem : (waits s n)[k2] ∈ waits s n := List.getElem_mem hkz
          have htk : (waits s n).take (k2 + 1) = (waits s n).take k2 ++ [(waits s n)[k2]] := by rw [List.take_succ_eq_append_getElem hkz]
          have e1 : (waits s n).getD k2 0 = (waits s n)[k2] := by simp [hkz]
          rw [e1] at hcl
          have hxn : (waits s n)[k2] < n := by
            have := hmem
            unfold waits at this
            rw [List.mem_filter, List.mem_range] at this
            exact this.1
          generalize (waits s n)[k2] = x at hcl htk hxn
          have hcl' : wr.cell? (ad.add k2) = some (.int .i64 (x : Int)) := (mv_cell hM.out (p := ad.add k2) (by rw [block_of_add]; exact hadb) (by rw [block_of_add]; have h1 := Hg5.out ad rfl; have h2 := hap.out.2.2.2.2.2.2.2.2.1; omega)).trans hcl
          have hms := Lib.hid (mv_map Hown5.out hM.out (by have h2 := hap.out.2.2.2.2.2.2.2.2.1; omega))
          have hlk := keep_look hms.out hD2.out x (by omega)
          have hpx := Hp.out x
          have Htk := Lib.hid htk
          clear htk hcl
          generalize decide ((x : Int) ∈ zs) = bx at hlk hpx
          have d0 : wr.cell? ⟨G.d, 0, none⟩ = some (.slice (some ⟨G.n, 0, none⟩) n G.cn) := ((Hdev5.out.1.mv hM.out hap.out.2.1).cell 0).trans rfl
          have d1 : wr.cell? ⟨G.d, 1, none⟩ = some (.slice (some ⟨G.l, 0, none⟩) n G.cl) := ((Hdev5.out.1.mv hM.out hap.out.2.1).cell 1).trans rfl
          have dn : wr.cell? ⟨G.n, x, none⟩ = some (.int .u64 (s.now x)) := (Hdev5.out.2.1.mv hM.out hap.out.2.2.1).cell hxn
          have dl := hrow.out.cell hxn
          have fl := hrow.out.frozen x
          have x0 : (0 : Int) ≤ (x : Int) := by omega
          have x1 : (x : Int) < (n : Int) := by omega
          obtain ⟨vx, hvx⟩ : ∃ vx, vx = s.now x := ⟨_, rfl⟩
          rw [← hvx] at dn
          have Hvx := Lib.hid hvx
          clear hvx
          rcases hpb : p x with _ | _
          · rw [hpb] at hpx
            have hpx' := beq_of_ne hpx
            clear hpx
            go_wp2_with fail
            go_roundw
            case rel => exact ⟨k2 + 1, by go_num, by omega, Lib.hid (by rw [Htk.out, ← lastP_miss s p _ x hpb]; exact hrow.out), hM⟩
            case measure => simp [intOf]; omega
          · rw [hpb] at hpx
            have hpx' := beq_of_nn hpx
            clear hpx
            go_wp2_with fail
            go_region
            go_wp2_with fail
            go_roundw
            case rel =>
              refine ⟨k2 + 1, by go_num, by omega, Lib.hid ?_, Lib.hid ?_⟩
              · have h1 := hrow.out.set_ x vx
                rw [Hvx.out, lastP_hit s p _ x hpb, ← Htk.out, ← Hvx.out] at h1
                exact h1
              · exact (hM.out.setCell (p := ⟨G.l, x, none⟩) (fun _ => rfl) _).drew
            case measure => simp [intOf]; omega
        · have hkq : k2 = q := by omega
          subst hkq
          have hrow2 : Hid (Row wr G.l G.cl n (s.power p).now) := Lib.hid (hrow.out.congr (fun i hi => by
            rw [Hq.out, List.take_length]
            exact lastP_all s p n i hi))
          clear hrow
          have d0 : wr.cell? ⟨G.d, 0, none⟩ = some (.slice (some ⟨G.n, 0, none⟩) n G.cn) := ((Hdev5.out.1.mv hM.out hap.out.2.1).cell 0).trans rfl
          have d1 : wr.cell? ⟨G.d, 1, none⟩ = some (.slice (some ⟨G.l, 0, none⟩) n G.cl) := ((Hdev5.out.1.mv hM.out hap.out.2.1).cell 1).trans rfl
          obtain ⟨hcopy, hrow7, hM7⟩ := copy64 (w := wr.drew) (b := G.n) (c := G.cn) (n := n) (o := 0) (m := n) (f := s.now) (g := (s.power p).now) (a := ⟨G.l, 0, none⟩) (dLen := n) (dCap := G.cn) (sLen := n) (sCap := G.cl) (xs := []) (B := 0)
            (show Row wr G.n G.cn n s.now from Hdev5.out.2.1.mv hM.out hap.out.2.2.1) (by show min n n = n; omega) (by omega) (fun j hj => by rw [addr_row]; exact hrow2.out.cell hj)
          obtain ⟨w7, hw7⟩ : ∃ w7, w7 = wr.drew.setCells G.n 0 (((List.range n).map (s.power p).now).map (Value.int .u64)) := ⟨_, rfl⟩
          rw [← hw7] at hcopy hrow7 hM7
          have Hrow7 := Lib.hid hrow7
          have HM7 := Lib.hid hM7
          clear hw7 hrow7 hM7
          go_wp2_with fail
          go_region
          have HM57 : Hid (Mv (fun b => b = G.l ∨ b = G.n) w5 w7) := Lib.hid ((hM.out.mono (fun b _ e => .inl e)).trans' (show Mv (fun x => x = G.n) wr w7 from (Mv.refl (fun x => x = G.n) wr).drew.trans HM7.out) (fun b _ e => .inr e))
          have Hb7 : Hid (Blk w7 G.d 59 _) := Lib.hid (Hdev5.out.1.mv HM57.out (fun e => by rcases e with e | e; exact hap.out.2.1 e; exact hap.out.1 e))
          have Hl7 : Hid (Row w7 G.l G.cl n (s.power p).now) := Lib.hid ((show Row wr.drew G.l G.cl n (s.power p).now from hrow2.out).mv HM7.out (fun e => hap.out.2.2.1 e.symm))
          have d2 : w7.cell? ⟨G.d, 2, none⟩ = some (.map (some G.m)) := (Hb7.out.cell 2).trans rfl
          obtain ⟨-, -, -, -, -, hbnd, D0, hD0, -⟩ := Hdev5.out
          have hD07 := mv_map hD0 HM57.out (fun e => by rcases e with e | e; exact hap.out.2.2.2.2.2.1 e.symm; exact hap.out.2.2.2.2.1 e.symm)
          obtain ⟨w8, hcl8, hown8, hM8⟩ := clear_map hD07
          have Hown8 := Lib.hid hown8
          have HM8 := Lib.hid hM8
          have Hb8 : Hid (Blk w8 G.d 59 _) := Lib.hid (Hb7.out.mv hM8 hap.out.2.2.2.1)
          have Hbnd := Lib.hid hbnd
          have e4 : w8.cell? ⟨G.d, 4, none⟩ = some (.int .i64 s.fuse) := (Hb8.out.cell 4).trans rfl
          have e5 : w8.cell? ⟨G.d, 5, none⟩ = some (.bool s.dead) := (Hb8.out.cell 5).trans rfl
          have f4 := Hb8.out.frozen 4
          have f5 := Hb8.out.frozen 5
          clear hD07 hD0 hown8 hM8 hcopy d0 d1 hbnd
          go_wp2_with fail
          go_end0
          have hM89 : Mv (fun b => b = G.d) w8 ((w8.setCell ⟨G.d, 5, none⟩ (.bool false)).setCell ⟨G.d, 4, none⟩ (.int .i64 (-1))) :=
            ((Mv.refl (fun b => b = G.d) w8).setCell (p := ⟨G.d, 5, none⟩) (fun _ => rfl) _).setCell (p := ⟨G.d, 4, none⟩) (fun _ => rfl) _
          refine ⟨rfl, ⟨(Hb8.out.set_ 5 (.bool false)).set_ 4 (.int .i64 (-1)), ?_, ?_, Hdev5.out.2.2.2.1, Hdev5.out.2.2.2.2.1, ⟨Hbnd.out.1, Hbnd.out.2.1, Hbnd.out.2.2.1, Hbnd.out.2.2.2.1, Int.le_refl _, by show (-1 : Int) < 9223372036854775808; omega⟩, .map [], ?_, lines_none _ _ _⟩, ?_⟩
          · refine ((Hrow7.out.mv HM8.out hap.out.2.2.2.2.1).mv hM89 (fun e => hap.out.1 e.symm)).congr (fun i hi => ?_)
            rw [if_pos (by omega), Nat.sub_zero]
          · exact (Hl7.out.mv HM8.out hap.out.2.2.2.2.2.1).mv hM89 (fun e => hap.out.2.1 e.symm)
          · exact (mv_map Hown8.out hM89 (fun e => hap.out.2.2.2.1 e.symm)).mono (Nat.zero_le _)
          · have h1 : Mv G.own w w5 := Mv.of_below hb05.out _
            have h2 : Mv G.own w5 w7 := HM57.out.mono (fun b _ e => by rcases e with e | e; exact .inr (.inr (.inl e)); exact .inr (.inl e))
            have h3 : Mv G.own w7 w8 := HM8.out.mono (fun b _ e => .inr (.inr (.inr e)))
            exact ((h1.trans h2).trans h3).trans (hM89.mono (fun b _ e => .inl e))
end Go.Proofs.Ytdphillobnlpaaa
