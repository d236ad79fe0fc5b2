/- redo: the law's done. -/
import Derived.Test.YtdphillobnlpaaaRedY
import Derived.Deep.MidRow
namespace Go.Proofs.Ytdphillobnlpaaa
open Go.RowKit
set_option linter.unusedVariables false
theorem WO.at_ {w : World} {B k c : Nat} {A : Option Addr} {ps : List (Int × Int)} (h : WO w B (.slice A k c) ps) {i : Nat} (hi : i < ps.length) : ∃ g, A = some ⟨g, 0, none⟩ ∧ B ≤ g ∧ g < w.heap.size ∧ i + 1 ≤ c ∧ w.cell? ⟨g, i * 2, none⟩ = some (.int .i64 (ps.getD i (0, 0)).1) ∧ w.cell? ⟨g, i * 2 + 1, none⟩ = some (.int .u64 (ps.getD i (0, 0)).2) := by
  obtain ⟨ad, e, h1, h2, h3⟩ := h.wr i hi
  obtain ⟨_, hh⟩ := id h
  rcases hh with ⟨_, h3⟩ | ⟨g, cap, cur, e1, e2, e3, e4, e5, e6, e7⟩
  · rw [h3] at hi; cases hi
  · cases e1
    cases e
    rw [add_head] at h2 h3
    exact ⟨g, rfl, e2, h1, by omega, h2, h3⟩
def putAll (cs : Array Value) : Nat → List Value → Array Value
  | _, [] => cs
  | o, v :: r => putAll (cs.setIfInBounds o v) (o + 1) r
theorem putAll_get : ∀ (vs : List Value) (cs : Array Value) (o i : Nat), o + vs.length ≤ cs.size → (putAll cs o vs)[i]? = if o ≤ i ∧ i < o + vs.length then vs[i - o]? else cs[i]?
  | [], cs, o, i, _ => by rw [if_neg (by simp only [List.length_nil]; omega)]; rfl
  | v :: r, cs, o, i, h => by
    simp only [List.length_cons] at h ⊢
    rw [putAll, putAll_get r _ _ _ (by simp; omega)]
    by_cases e : o + 1 ≤ i ∧ i < o + 1 + r.length
    · rw [if_pos e, if_pos (by omega), show i - o = (i - (o + 1)) + 1 by omega]
      rfl
    · rw [if_neg e, Array.getElem?_setIfInBounds]
      by_cases e2 : o = i
      · subst e2
        rw [if_pos rfl, if_pos (by omega), if_pos (by omega), Nat.sub_self]
        rfl
      · rw [if_neg e2, if_neg (by omega)]
theorem putAll_all (vs : List Value) (cs : Array Value) (h : vs.length = cs.size) : putAll cs 0 vs = vs.toArray := by
  apply Array.ext_getElem?
  intro i
  rw [putAll_get _ _ _ _ (by omega)]
  by_cases e : 0 ≤ i ∧ i < 0 + vs.length
  · rw [if_pos e]; simp
  · rw [if_neg e, Array.getElem?_eq_none (by omega), Array.getElem?_eq_none (by simp; omega)]
theorem Blk.puts_ {b : Nat} {t : TypeId} : ∀ (vs : List Value) (o : Nat) (cN : Array Value) (w : World), Blk w b t cN → Blk (w.setCells b o vs) b t (putAll cN o vs)
  | [], _, _, _, h => h
  | v :: r, o, cN, w, h => Blk.puts_ r (o + 1) _ _ (h.set_ o v)
theorem mv_puts {S : Nat → Prop} {b : Nat} (hS : S b) : ∀ (vs : List Value) (o : Nat) (w0 w : World), Mv S w0 w → Mv S w0 (w.setCells b o vs)
  | [], _, _, _, h => h
  | v :: r, o, w0, w, h => mv_puts hS r (o + 1) w0 _ (h.setCell (p := ⟨b, o, none⟩) (fun _ => hS) v)
/-- A whole row of words is laid in a block. -/
theorem blk_all {w : World} {b : Nat} {t : TypeId} {cN : Array Value} {vs : List Value} (h : Blk w b t cN) (hl : vs.length = cN.size) : Blk (w.setCells b 0 vs) b t vs.toArray := by
  have := Blk.puts_ vs 0 cN w h
  rwa [putAll_all vs cN hl] at this
set_option maxRecDepth 100000 in
set_option maxHeartbeats 4000000 in
theorem done_any (w : World) (A : Option Addr) (n c B : Nat) (ps : List (Int × Int)) (f : Nat → Int) (hw : WO w B (.slice A n c) ps) (hn : ps.length = n) (hn1 : n ≤ 1000000) (hp : ∀ p ∈ ps, 0 ≤ p.1 ∧ p.1 < 256) :
    Calls Try.prog 18 #[.agg (words .u64 256 f), .slice A n c] w fun e w' => e = .returned (.agg (words .u64 256 (puts f (nat2 ps)))) ∧ Mv (fun _ => False) w w' := by
  have Hw := Lib.hid hw
  have Hn := Lib.hid hn
  have Hp := Lib.hid hp
  clear hw hn hp
  go_enter Try.func18, Try.ntmps18
  go_wp2_with fail
  obtain ⟨w2, hw2⟩ : ∃ w2, w2 = (w.alloc (Obj.cells (words IntKind.u64 256 f) 40)).alloc (Obj.cells Try.zeroCells40 40) := ⟨_, rfl⟩
  rw [← hw2]
  have Hm2 := Lib.hid (show Mv (fun _ => False) w w2 by rw [hw2]; exact ((Mv.refl _ w).alloc _).alloc _)
  have Hb2 := Lib.hid (show Blk w2 w.heap.size 40 (words .u64 256 f) by rw [hw2]; exact (Blk.new w _ _).alloc _)
  have Hz2 := Lib.hid (show Blk w2 (w.heap.size + 1) 40 Try.zeroCells40 by rw [hw2]; exact blk_new _ _ _ (by simp))
  have Hs2 := Lib.hid (show w2.heap.size = w.heap.size + 2 by rw [hw2]; simp)
  clear hw2
  go_loopw [5] (fun v5 wr => ∃ i : Nat, v5 = .int .i64 (i : Int) ∧ i ≤ n ∧ Hid (Mv (fun _ => False) w wr) ∧ Hid (Blk wr w.heap.size 40 (words .u64 256 (puts f (nat2 (ps.take i))))) ∧ Hid (Blk wr (w.heap.size + 1) 40 Try.zeroCells40))
    (fun v5 _ => n - (intOf v5).toNat)
  case atStart => exact ⟨0, rfl, Nat.zero_le _, Hm2, Hb2, Hz2⟩
  case round =>
    obtain ⟨i, rfl, hin, hmv, hb, hz⟩ := hrel
    rcases Nat.lt_or_ge i n with hlt | hge
    · obtain ⟨g, rfl, hgB, hgl, hic, k0, k1⟩ := Hw.out.at_ (i := i) (by rw [Hn.out]; exact hlt)
      have d0 := (mv_cell hmv.out hgl (fun e => e)).trans k0
      have d1 := (mv_cell hmv.out hgl (fun e => e)).trans k1
      have hstep : Hid (nat2 (ps.take (i + 1)) = nat2 (ps.take i) ++ [((ps.getD i (0, 0)).1.toNat, (ps.getD i (0, 0)).2)]) := Lib.hid (by
        have hi : i < ps.length := by rw [Hn.out]; exact hlt
        rw [List.take_succ_eq_append_getElem hi, List.getD_eq_getElem?_getD, List.getElem?_eq_getElem hi]
        simp only [nat2, List.map_append, List.map_cons, List.map_nil, Option.getD_some])
      have hpm := Hp.out (ps.getD i (0, 0)) (by
        have hi : i < ps.length := by rw [Hn.out]; exact hlt
        rw [List.getD_eq_getElem?_getD, List.getElem?_eq_getElem hi]
        exact List.getElem_mem hi)
      clear k0 k1
      generalize ps.getD i (0, 0) = p at d0 d1 hstep hpm
      obtain ⟨z, v⟩ := p
      obtain ⟨q, rfl⟩ : ∃ q : Nat, z = q := ⟨z.toNat, by have := hpm.1; simp at this; omega⟩
      have hq : q < 256 := by have := hpm.2; simp at this; omega
      simp only [Int.toNat_natCast] at hstep d0 d1
      clear hpm
      have hwi := wrap_small (z := (i : Int) + 1) (by omega) (by omega)
      have cq := words_cell hb.out hq
      have fq := hb.out.frozen q
      go_wp2_with fail
      go_region
      go_wp2_with fail
      refine ⟨⟨i + 1, by go_num, by omega, Lib.hid ?_, Lib.hid ?_, Lib.hid ?_⟩, ?_⟩
      · exact mv_none hmv.out (((Mv.refl (fun b => b = w.heap.size) wr).setCell (p := ⟨w.heap.size, q, none⟩) (fun _ => rfl) _).drewN 1) (fun b hb e => by omega)
      · have := hb.out.set_ q (.int .u64 v)
        rw [words_set, ← puts_snoc _ _ (q, v), ← hstep.out] at this
        exact this
      · exact Blk.far hz.out (show w.heap.size + 1 ≠ w.heap.size by omega) _
      · show n - ((i : Int) + 1).toNat < n - ((i : Int)).toNat
        omega
    · have e := Lib.hid (show ps.take i = ps by rw [List.take_of_length_le]; have := Hn.out; omega)
      rw [e.out] at hb
      have hCl : (words .u64 256 (puts f (nat2 ps))).toList.length = 256 := by simp [words]
      have hrng : wr.rangeAt w.heap.size 0 (words .u64 256 (puts f (nat2 ps))).toList := fun j v hv => by
        rw [Nat.zero_add, hb.out.cell j, ← hv, Array.getElem?_toList]
      have hthr : wr.there (w.heap.size + 1) 0 (words .u64 256 (puts f (nat2 ps))).toList.toArray.size := fun j hj => by
        have hj : j < 256 := by rw [List.size_toArray, hCl] at hj; exact hj
        rw [Nat.zero_add, hz.out.cell j]
        refine ⟨?_, hz.out.frozen j⟩
        have hsz : Try.zeroCells40.size = 256 := by kernel_rfl
        rw [Array.getElem?_eq_getElem (by omega)]
        rfl
      have hone : ∀ v ∈ (words .u64 256 (puts f (nat2 ps))).toList, v.oneCell' = true := by
        intro v hv
        simp [words] at hv
        obtain ⟨_, _, rfl⟩ := hv
        rfl
      have hi40 : (Try.prog.info? 40).map (·.size) = some (words .u64 256 (puts f (nat2 ps))).toList.length := by rw [hCl]; kernel_rfl
      have hCa : Hid ((words .u64 256 (puts f (nat2 ps))).toList.toArray = words .u64 256 (puts f (nat2 ps))) := Lib.hid (by simp)
      generalize (words .u64 256 (puts f (nat2 ps))).toList = CS at hCl hrng hthr hone hi40 hCa
      have Hi := Lib.hid hi40
      have Hone := Lib.hid hone
      have Hrng := Lib.hid hrng
      have Hthr := Lib.hid hthr
      clear hi40 hone hCl hrng hthr
      go_wp2_with (first
        | (refine wpList_load_mid rfl 40 (.tmp 2) rfl w.heap.size 0 rfl CS _ Hrng.out Try.underlying40 rfl Hi.out ?_)
        | (refine wpList_store_mid rfl 40 (.tmp 4) (.tmp 23) rfl (w.heap.size + 1) 0 CS.toArray rfl rfl Hthr.out (by rw [List.size_toArray]; exact Hi.out) (all_oneCell_toArray Hone.out) ?_))
      have hcl : CS.length = Try.zeroCells40.size := by
        have h1 := Hi.out
        have h2 : (Try.prog.info? 40).map (·.size) = some Try.zeroCells40.size := by kernel_rfl
        rw [h2] at h1
        simpa using h1.symm
      have hB := blk_all hz.out hcl
      have hM := mv_puts (S := fun b => b = w.heap.size + 1) rfl CS 0 wr wr (Mv.refl _ wr)
      rw [hCa.out] at hB
      have Hi2 : (Try.prog.info? 40).map (·.size) = some (words .u64 256 (puts f (nat2 ps))).size := by rw [words_size]; kernel_rfl
      refine bodyPost_ret (results_cell_row rfl _ _ (w.heap.size + 1) _ _ _ _ rfl hB Try.underlying40 rfl Hi2) rfl ?_
      exact ⟨rfl, mv_none hmv.out hM (fun b hb e => by omega)⟩
end Go.Proofs.Ytdphillobnlpaaa
