/- mark: the walk of From's closure that enters numbers. -/
import Derived.Test.YtogdmmjonojdfaaMarkG
namespace Go.Proofs.Ytogdmmjonojdfaa
open Go.RowKit
open Go.Maps (Keyed)
open Go.ChangeMaps
set_option linter.unusedVariables false
set_option maxHeartbeats 4000000 in
theorem enter_any (w : World) (O : Nat → Prop) (a b c U : Nat) (out asked : List Nat) (h : FSt w O a b c U out asked) (hU : U ≤ 1000) (L : Option Addr) (k cap : Nat) (zs : List Nat) (hk : zs.length = k) (hk2 : k < 1000000)
    (hr : Reads w w.heap.size 1 L k (Ints .i64 zs)) (hL : ∀ ad, L = some ad → ¬ O ad.block) (hz : ∀ z ∈ zs, z < U) :
    Calls Try.prog 20 #[.slice L k cap, .pointer (some ⟨a, 0, none⟩), .pointer (some ⟨b, 0, none⟩), .pointer (some ⟨c, 0, none⟩)] w (fun e w' => e = .returned (.tuple #[]) ∧ ∃ O', FSt w' O' a b c U (entL out zs) asked ∧ Mv O w w' ∧ ∀ x, O' x → O x ∨ w.heap.size ≤ x) := by
  obtain ⟨i0, hi, hz0, hz1, hz2⟩ := info_parts infoI
  have Hh := Lib.hid h
  have Hr := Lib.hid hr
  have HL := Lib.hid hL
  have Hz := Lib.hid hz
  have Hk := Lib.hid hk
  clear h hr hL hz hk
  go_enter Try.func20, Try.ntmps20
  go_wp2_with fail
  go_loopw [9] (fun v wr => ∃ (j : Nat) (Oj : Nat → Prop), v = .int .i64 (j : Int) ∧ j ≤ k ∧ Hid (FSt wr Oj a b c U (entL out (zs.take j)) asked) ∧ Hid (Mv O w wr) ∧ Hid (∀ x, Oj x → O x ∨ w.heap.size ≤ x))
    (fun v _ => k - (intOf v).toNat)
  case atStart => exact ⟨0, O, rfl, Nat.zero_le _, Hh, Lib.hid (Mv.refl _ w), Lib.hid (fun _ h => .inl h)⟩
  case round =>
    obtain ⟨j, Oj, rfl, hj, hF, hM, hO⟩ := hrel
    rcases Nat.lt_or_ge j k with hlt | hge
    · have hlz : j < zs.length := by rw [Hk.out]; exact hlt
      obtain ⟨ad, u, hA1, hadb, hu, hcl⟩ := Hr.out.at_ hlt
      subst hA1
      rw [Ints_get .i64 _ _ hlz, Option.some.injEq] at hu
      subst hu
      have hgd : zs.getD j 0 = zs[j] := by simp [hlz]
      rw [hgd] at hcl
      have hzU := Hz.out _ (List.getElem_mem hlz)
      have htk := Lib.hid (entL_take (out := out) hlz)
      generalize zs[j] = z at hcl hzU htk
      have hcl2 : wr.cell? (ad.add j) = some (.int .i64 (z : Int)) := by
        rw [← hcl]
        exact World.cell?_of_block (w := w) (hM.out.block _ (by rw [block_of_add]; exact hadb) (by rw [block_of_add]; exact HL.out ad rfl))
      obtain ⟨m, q, g, cq, n, co, bd, f, A, D, hFS⟩ := hF.out
      have ca : wr.cell? ⟨a, 0, none⟩ = some (.map (some m)) := (hFS.ba.cell 0).trans rfl
      have hlook := keepN_look hFS.mp hFS.kd z (by omega)
      have HF := Lib.hid hFS
      have hwj := wrap_small (z := (j : Int) + 1) (by omega) (by omega)
      have hK := Hk.out
      clear hcl hgd hFS
      generalize entL out (zs.take j) = o at hF htk HF hlook
      by_cases hin : z ∈ 0 :: o
      · rw [decide_eq_true hin] at hlook
        have Hin := Lib.hid hin
        clear hin
        go_wp2_with fail
        have he : ent o z = o := by
          unfold ent
          rw [if_pos (by have := Hin.out; simpa using this)]
        have hst := htk.out
        rw [he] at hst
        refine ⟨⟨j + 1, Oj, by go_num, by omega, Lib.hid (by rw [hst]; exact hF.out), hM, hO⟩, ?_⟩
        show k - ((j : Int) + 1).toNat < k - ((j : Int)).toNat
        omega
      · rw [decide_eq_false hin] at hlook
        have cb : wr.cell? ⟨b, 0, none⟩ = some (.slice A o.length co) := (HF.out.bb.cell 0).trans rfl
        have hown := HF.out.mp
        have hsz := HF.out.sz
        have houtU := HF.out.outU
        have hnU := HF.out.nU
        have hhp := HF.out.hp
        have Hin := Lib.hid hin
        clear hin
        go_wp2_with (first
          | (at_mapUpdate; refine wpList_mapUpdate_own _ rfl _ _ _ 42 rfl 3 4 keyedI Try.underlying42 boolR m bd D rfl hown (by unfold maxLen; omega) _ _ (.int .i64 (z : Int)) rfl rfl (key_int (by omega)) (.lit (.bool true)) [] (plainElem_bool Try.underlying4 true) ?_; intro w5 hown5 hg5; have cb5 := ((HF.out.at5 hg5).1.cell 0).trans (show _ = some (Value.slice A o.length co) from rfl); have hrow5 := (HF.out.at5 hg5).2)
          | (at_builtin; refine wpList_pushZ w5 rfl (.tmp 19) (.tmp 21) 22 rfl 0 3 i0 .i64 8 Try.underlying22 hi hz0 hz1 hz2 A o.length co _ rfl hrow5 (z : Int) 1 rfl (by unfold maxLen; omega) (by omega) (Nat.zero_le _) ?_; intro g6 c6 w6 hown6 hg6 hsz6 hat6; have hB6 := HF.out.at6 hg5 hg6; have cb6 := (hB6.cell 0).trans (show _ = some (Value.slice A o.length co) from rfl); have fb6 := hB6.frozen 0; have h7 := HF.out.at7 hg5 hg6 (.slice (some ⟨g6, 0, none⟩) (o.length + 1) c6); have cc7 := (h7.1.cell 0).trans (show _ = some (Value.pointer (some ⟨q, 0, none⟩)) from rfl); have H7 := Lib.hid h7; clear h7 hB6)
          | (go_at_call 21; refine (heap_push _ q g cq n f H7.out.2.1 (by omega) hhp (z : Int)).mono ?_; rintro e w8 ⟨rfl, g8, c8, f8, hq8, hp8, hh8, hat8, hm8⟩)
          | fail)
        have hin := Hin.out
        have hz1' : z ≠ 0 := fun e => hin (by simp [e])
        have hzo : z ∉ o := fun e => hin (by simp [e])
        have he : ent o z = o ++ [z] := by
          unfold ent
          rw [if_neg (fun e => by rcases e with e | e; exact hz1' e; exact hzo e)]
        have hst := htk.out
        rw [he] at hst
        obtain ⟨O', hF', hM', hO'⟩ := HF.out.entered hz1' hzo hzU hU hown5 hg5 hown6 hg6 hat6 hq8 hp8 hh8 hat8 hm8
        have hwr := hM.out.size
        refine ⟨⟨j + 1, O', by go_num, by omega, Lib.hid (by rw [hst]; exact hF'), Lib.hid (hM.out.trans' hM' (fun x hx e => by rcases hO.out x e with h1 | h1; exact h1; omega)), Lib.hid (fun x e => by
          rcases hO' x e with h1 | h1
          · exact hO.out x h1
          · exact .inr (by omega))⟩, ?_⟩
        show k - ((j : Int) + 1).toNat < k - ((j : Int)).toNat
        omega
    · have hjk : j = k := by omega
      subst hjk
      go_wp2_with fail
      go_end0
      have e1 : zs.take j = zs := by rw [← Hk.out]; exact List.take_length
      have hF2 := hF.out
      rw [e1] at hF2
      exact ⟨rfl, Oj, hF2, hM.out, hO.out⟩
end Go.Proofs.Ytogdmmjonojdfaa
