/- The walk of HashSeeds. -/
import Derived.Test.YtgepbckaejleoaaWalkA
import Derived.Deep.RegionLaw
import Derived.Deep.RegionHeld
import Derived.Handy
namespace Go.Proofs.Ytgepbckaejleoaa
open Go.RowKit
set_option linter.unusedVariables false
theorem u8_lo {a : Int} (h : (Lit.int .u8 a).wf = true) : 0 ≤ a ∧ a < 256 := by
  simp [Lit.wf, IntKind.min, IntKind.max, IntKind.signed, IntKind.bits] at h
  omega
theorem small_lo {x : Nat} (h : x < 256) : x < two64 := by unfold two64; omega
theorem ofZero (s : Nat) (hs : s < two64) (w : World) : Calls Try.prog 8 #[.int .u64 (s : Int), .string ⟨#[]⟩] w fun e w' => e = .returned (.int .u64 (ofN s [] : Nat)) ∧ w = w' :=
  of_any s ⟨#[]⟩ hs (by decide) w
theorem conv_one (c : Nat) : ∃ S : ByteArray, S.size ≤ maxLen ∧ ∀ (W : World) (b : Nat), W.cell? ⟨b, 0, none⟩ = some (.int .u8 (c : Int)) → (convert 24 9 (.slice (some ⟨b, 0, none⟩) 1 1)).run Try.prog W = .ok (.string S) W := by
  refine ⟨strOfNums [(c : Int)], by rw [strOfNums_size]; show 1 ≤ maxLen; decide, fun W b h => ?_⟩
  refine run_convert_bytes_arg W 24 5 Try.underlying24 Try.underlying5 b 0 1 1 [(c : Int)] rfl (fun i hi => ?_) 9 Try.underlying9
  obtain rfl : i = 0 := by omega
  exact h
theorem held_mono {P : Program} {ops : Array Oper} {Q : Exit → Act → World → Prop} {md : Region.Mode} {S S2 : World → Prop} (hS : ∀ w, S2 w → S w) : ∀ (fuel : Nat) (listed : Array Bool) (a : Act) (w : World), wpAnyH P md ops Q S2 fuel listed a w → wpAnyH P md ops Q S fuel listed a w
  | 0, _, _, _, h => h
  | fuel + 1, _, _, _, h => ⟨h.1, fun i hi => wpOp_mono (fun a' w' h' => ⟨hS _ h'.1, held_mono hS fuel _ a' w' h'.2⟩) (h.2 i hi)⟩
set_option maxRecDepth 100000 in
set_option maxHeartbeats 20000000 in
theorem seeds_any (x y c : Nat) (hx : x < 256) (hy : y < 256) (hc : c < 256) (w : World) :
    Calls Try.prog 3 #[.int .u8 (x : Int), .int .u8 (y : Int), .int .u8 (c : Int)] w fun e w' => e = .returned (.bool true) ∧ Grown w w' := by
  obtain ⟨S, hsz, hconv⟩ := conv_one c
  have hinj := ofN_seeds x y hx hy
  have hg : (((ofN x [] : Nat) : Int) == ((ofN y [] : Nat) : Int)) = ((x : Int) == (y : Int)) := by
    rw [Bool.eq_iff_iff, beq_iff_eq, beq_iff_eq]
    constructor
    · intro h; have := hinj.1 (by omega); omega
    · intro h; have : x = y := by omega
      rw [this]
  clear hinj
  have hwx : IntKind.u64.wrap (x : Int) = x := IntWalk.u64_in _ (by omega)
  have hwy : IntKind.u64.wrap (y : Int) = y := IntWalk.u64_in _ (by omega)
  go_enter Try.func3, Try.ntmps3
  go_wp2_with fail
  refine (ofZero x (small_lo hx) _).mono ?_
  rintro e w' ⟨rfl, rfl⟩
  go_wp2_with fail
  refine (ofZero y (small_lo hy) _).mono ?_
  rintro e w' ⟨rfl, rfl⟩
  generalize ofN x [] = ox at *
  generalize ofN y [] = oy at *
  generalize hbb : ((x : Int) == (y : Int)) = bb at *
  go_wp2_with fail
  refine wp_region_any (by kernel_rfl) ?_
  try (change wpAny _ _ _ _ _ _ _ (World.drew _))
  (refine wpAny_take (i := 0) (v := ?v115) rfl (by kernel_rfl) (by kernel_rfl) (by kernel_rfl) (fun _ _ _ h => h) (Or.inl ⟨by rfl, ?hy115⟩) ?rest115; (case hy115 => (intro w; go_simp; try with_reducible rfl)); (try simp only [Act.put, List.getElem_toArray, List.getElem_cons_zero, List.setIfInBounds_toArray, List.set_cons_zero, List.set_cons_succ]))
  (refine wpAny_take (i := 1) (v := ?v116) rfl (by kernel_rfl) (by kernel_rfl) (by kernel_rfl) (fun _ _ _ h => h) (Or.inl ⟨by rfl, ?hy116⟩) ?rest116; (case hy116 => (intro w; go_simp; try with_reducible rfl)); (try simp only [Act.put, List.getElem_toArray, List.getElem_cons_succ, List.getElem_cons_zero, List.setIfInBounds_toArray, List.set_cons_zero, List.set_cons_succ]))
  (refine wpAny_take (i := 2) (v := ?v117) rfl (by kernel_rfl) (by kernel_rfl) (by kernel_rfl) (fun _ _ _ h => h) (Or.inl ⟨by rfl, ?hy117⟩) ?rest117; (case hy117 => (intro w; go_simp; try with_reducible rfl)); (try simp only [Act.put, List.getElem_toArray, List.getElem_cons_succ, List.getElem_cons_zero, List.setIfInBounds_toArray, List.set_cons_zero, List.set_cons_succ]))
  (refine wpAny_take (i := 3) (v := ?v118) rfl (by kernel_rfl) (by kernel_rfl) (by kernel_rfl) (fun _ _ _ h => h) (Or.inl ⟨by rfl, ?hy118⟩) ?rest118; (case hy118 => (intro w; go_simp; try with_reducible rfl)); (try simp only [Act.put, List.getElem_toArray, List.getElem_cons_succ, List.getElem_cons_zero, List.setIfInBounds_toArray, List.set_cons_zero, List.set_cons_succ]))
  (refine wpAny_take (i := 4) (v := ?v119) rfl (by kernel_rfl) (by kernel_rfl) (by kernel_rfl) (fun _ _ _ h => h) (Or.inl ⟨by rfl, ?hy119⟩) ?rest119; (case hy119 => (intro w; go_simp; try with_reducible rfl)); (try simp only [Act.put, List.getElem_toArray, List.getElem_cons_succ, List.getElem_cons_zero, List.setIfInBounds_toArray, List.set_cons_zero, List.set_cons_succ]))
  (refine wpAny_take (i := 5) (v := ?v120) rfl (by kernel_rfl) (by kernel_rfl) (by kernel_rfl) (fun _ _ _ h => h) (Or.inl ⟨by rfl, ?hy120⟩) ?rest120; (case hy120 => (intro w; go_simp; try with_reducible rfl)); (try simp only [Act.put, List.getElem_toArray, List.getElem_cons_succ, List.getElem_cons_zero, List.setIfInBounds_toArray, List.set_cons_zero, List.set_cons_succ]))
  (refine wpAny_take (i := 6) (v := ?v121) rfl (by kernel_rfl) (by kernel_rfl) (by kernel_rfl) (fun _ _ _ h => h) (Or.inl ⟨by rfl, ?hy121⟩) ?rest121; (case hy121 => (intro w; go_simp; try with_reducible rfl)); (try simp only [Act.put, List.getElem_toArray, List.getElem_cons_succ, List.getElem_cons_zero, List.setIfInBounds_toArray, List.set_cons_zero, List.set_cons_succ]))
  (refine wpAny_take (i := 7) (v := ?v122) rfl (by kernel_rfl) (by kernel_rfl) (by kernel_rfl) (fun _ _ _ h => h) (Or.inl ⟨by rfl, ?hy122⟩) ?rest122; (case hy122 => (intro w; go_simp; try with_reducible rfl)); (try simp only [Act.put, List.getElem_toArray, List.getElem_cons_succ, List.getElem_cons_zero, List.setIfInBounds_toArray, List.set_cons_zero, List.set_cons_succ]))
  (refine wpAny_take (i := 8) (v := ?v123) rfl (by kernel_rfl) (by kernel_rfl) (by kernel_rfl) (fun _ _ _ h => h) (Or.inl ⟨by rfl, ?hy123⟩) ?rest123; (case hy123 => (intro w; go_simp; try with_reducible rfl)); (try simp only [Act.put, List.getElem_toArray, List.getElem_cons_succ, List.getElem_cons_zero, List.setIfInBounds_toArray, List.set_cons_zero, List.set_cons_succ]))
  (refine wpAny_take (i := 9) (v := ?v124) rfl (by kernel_rfl) (by kernel_rfl) (by kernel_rfl) (fun _ _ _ h => h) (Or.inl ⟨by rfl, ?hy124⟩) ?rest124; (case hy124 => (intro w; go_simp; try with_reducible rfl)); (try simp only [Act.put, List.getElem_toArray, List.getElem_cons_succ, List.getElem_cons_zero, List.setIfInBounds_toArray, List.set_cons_zero, List.set_cons_succ]))
  (refine wpAny_take (i := 10) (v := ?v125) rfl (by kernel_rfl) (by kernel_rfl) (by kernel_rfl) (fun _ _ _ h => h) (Or.inl ⟨by rfl, ?hy125⟩) ?rest125; (case hy125 => (intro w; go_simp; try with_reducible rfl)); (try simp only [Act.put, List.getElem_toArray, List.getElem_cons_succ, List.getElem_cons_zero, List.setIfInBounds_toArray, List.set_cons_zero, List.set_cons_succ]))
  (refine wpAny_take (i := 14) (v := ?v126) rfl (by kernel_rfl) (by kernel_rfl) (by kernel_rfl) (fun _ _ _ h => h) (Or.inl ⟨by rfl, ?hy126⟩) ?rest126; (case hy126 => (intro w; go_simp; try with_reducible rfl)); (try simp only [Act.put, List.getElem_toArray, List.getElem_cons_succ, List.getElem_cons_zero, List.setIfInBounds_toArray, List.set_cons_zero, List.set_cons_succ]))
  (refine wpAny_take (i := 15) (v := ?v127) rfl (by kernel_rfl) (by kernel_rfl) (by kernel_rfl) (fun _ _ _ h => h) (Or.inl ⟨by rfl, ?hy127⟩) ?rest127; (case hy127 => (intro w; go_simp; try with_reducible rfl)); (try simp only [Act.put, List.getElem_toArray, List.getElem_cons_succ, List.getElem_cons_zero, List.setIfInBounds_toArray, List.set_cons_zero, List.set_cons_succ]))
  (refine wpAny_take (i := 16) (v := ?v128) rfl (by kernel_rfl) (by kernel_rfl) (by kernel_rfl) (fun _ _ _ h => h) (Or.inl ⟨by rfl, ?hy128⟩) ?rest128; (case hy128 => (intro w; go_simp; try with_reducible rfl)); (try simp only [Act.put, List.getElem_toArray, List.getElem_cons_succ, List.getElem_cons_zero, List.setIfInBounds_toArray, List.set_cons_zero, List.set_cons_succ]))
  refine wpAny_ready (rs := [11, 17]) (by kernel_rfl) (by simp) ?_
  refine AllReady.cons rfl (fun K hK => ?_) (AllReady.cons rfl (fun K hK => ?_) (AllReady.nil))
  · (go_simp; refine hK _ _ ?_; clear hK K)
    refine wpAny_of_held (S := fun w' => w'.cell? ⟨w.heap.size, 0, none⟩ = some (.int .u8 (c : Int))) _ _ _ _ ?_
    have hS1 : (fun w' : World => w'.cell? ⟨w.heap.size, 0, none⟩ = some (.int .u8 (c : Int))) ((w.alloc (.cells #[.int .u8 (c : Int)] 5)).drew) := by (try dsimp only); go_simp
    (refine wpAnyH_take (i := 12) (v := ?v129) rfl (by kernel_rfl) (by kernel_rfl) (by kernel_rfl) (fun _ _ _ h => h) (Or.inl ⟨by rfl, ?hy129⟩) (by assumption) ?rest129; (case hy129 => (intro W hSW; (try dsimp only at hSW); go_split_ands; go_simp; try with_reducible rfl)); (try simp only [Act.put, List.getElem_toArray, List.getElem_cons_succ, List.getElem_cons_zero, List.setIfInBounds_toArray, List.set_cons_zero, List.set_cons_succ]))
    refine wpAnyH_ready (rs := [13, 17]) (by kernel_rfl) (by simp) ?_
    refine AllReadyH.cons rfl (fun K hK => ?_) (AllReadyH.cons rfl (fun K hK => ?_) (AllReadyH.nil))
    · (go_simp; refine (of_any x S (small_lo hx) hsz _).mono ?_; rintro e w' ⟨rfl, rfl⟩; refine hK.out _ _ (by first | assumption | ((try dsimp only); simp [*, World.cell?_alloc_some]; done) | ((try dsimp only); go_simp; done)) (fun hSS => ?_); clear hK K)
      refine wpAnyH_ready (rs := [17]) (by kernel_rfl) (by simp) ?_
      refine AllReadyH.cons rfl (fun K hK => ?_) (AllReadyH.nil)
      (go_simp; refine hK.out _ _ (by first | assumption | ((try dsimp only); simp [*, World.cell?_alloc_some]; done) | ((try dsimp only); go_simp; done)) (fun hSS => ?_); clear hK K)
      refine wpAnyH_ready (rs := [18]) (by kernel_rfl) (by simp) ?_
      refine AllReadyH.cons rfl (fun K hK => ?_) (AllReadyH.nil)
      (go_simp; refine hK.out _ _ (by first | assumption | ((try dsimp only); simp [*, World.cell?_alloc_some]; done) | ((try dsimp only); go_simp; done)) (fun hSS => ?_); clear hK K)
      refine wpAnyH_ready (rs := [19]) (by kernel_rfl) (by simp) ?_
      refine AllReadyH.cons rfl (fun K hK => ?_) (AllReadyH.nil)
      (go_simp; refine (rof_any x S (small_lo hx) hsz _).mono ?_; rintro e w' ⟨rfl, rfl⟩; refine hK.out _ _ (by first | assumption | ((try dsimp only); simp [*, World.cell?_alloc_some]; done) | ((try dsimp only); go_simp; done)) (fun hSS => ?_); clear hK K)
      (refine wpAnyH_take (i := 20) (v := ?v130) rfl (by kernel_rfl) (by kernel_rfl) (by kernel_rfl) (fun _ _ _ h => h) (Or.inl ⟨by rfl, ?hy130⟩) (by assumption) ?rest130; (case hy130 => (intro W hSW; (try dsimp only at hSW); go_split_ands; go_simp; try with_reducible rfl)); (try simp only [Act.put, List.getElem_toArray, List.getElem_cons_succ, List.getElem_cons_zero, List.setIfInBounds_toArray, List.set_cons_zero, List.set_cons_succ]))
      (refine wpAnyH_take (i := 21) (v := ?v131) rfl (by kernel_rfl) (by kernel_rfl) (by kernel_rfl) (fun _ _ _ h => h) (Or.inl ⟨by rfl, ?hy131⟩) (by assumption) ?rest131; (case hy131 => (intro W hSW; (try dsimp only at hSW); go_split_ands; go_simp; try with_reducible rfl)); (try simp only [Act.put, List.getElem_toArray, List.getElem_cons_succ, List.getElem_cons_zero, List.setIfInBounds_toArray, List.set_cons_zero, List.set_cons_succ]))
      (refine wpAnyH_take (i := 22) (v := ?v132) rfl (by kernel_rfl) (by kernel_rfl) (by kernel_rfl) (fun _ _ _ h => h) (Or.inl ⟨by rfl, ?hy132⟩) (by assumption) ?rest132; (case hy132 => (intro W hSW; (try dsimp only at hSW); go_split_ands; go_simp; try with_reducible rfl)); (try simp only [Act.put, List.getElem_toArray, List.getElem_cons_succ, List.getElem_cons_zero, List.setIfInBounds_toArray, List.set_cons_zero, List.set_cons_succ]))
      refine wpAnyH_ready (rs := [23]) (by kernel_rfl) (by simp) ?_
      refine AllReadyH.cons rfl (fun K hK => ?_) (AllReadyH.nil)
      (go_simp; refine (awake_any _).mono ?_; rintro e w' ⟨rfl, rfl⟩; refine hK.out _ _ (by first | assumption | ((try dsimp only); simp [*, World.cell?_alloc_some]; done) | ((try dsimp only); go_simp; done)) (fun hSS => ?_); clear hK K)
      (refine wpAnyH_take (i := 24) (v := ?v133) rfl (by kernel_rfl) (by kernel_rfl) (by kernel_rfl) (fun _ _ _ h => h) (Or.inl ⟨by rfl, ?hy133⟩) (by assumption) ?rest133; (case hy133 => (intro W hSW; (try dsimp only at hSW); go_split_ands; go_simp; try with_reducible rfl)); (try simp only [Act.put, List.getElem_toArray, List.getElem_cons_succ, List.getElem_cons_zero, List.setIfInBounds_toArray, List.set_cons_zero, List.set_cons_succ]))
      (refine wpAnyH_take (i := 25) (v := ?v134) rfl (by kernel_rfl) (by kernel_rfl) (by kernel_rfl) (fun _ _ _ h => h) (Or.inl ⟨by rfl, ?hy134⟩) (by assumption) ?rest134; (case hy134 => (intro W hSW; (try dsimp only at hSW); go_split_ands; go_simp; try with_reducible rfl)); (try simp only [Act.put, List.getElem_toArray, List.getElem_cons_succ, List.getElem_cons_zero, List.setIfInBounds_toArray, List.set_cons_zero, List.set_cons_succ]))
      refine wpAnyH_done (by kernel_rfl) ?_ _
      go_wp2
      go_ret
      exact ⟨rfl, by go_grown⟩
    · (go_simp; refine hK.out _ _ (by first | assumption | ((try dsimp only); simp [*, World.cell?_alloc_some]; done) | ((try dsimp only); go_simp; done)) (fun hSS => ?_); clear hK K)
      refine held_mono (S2 := fun w' => w'.cell? ⟨w.heap.size, 0, none⟩ = some (.int .u8 (c : Int)) ∧ w'.cell? ⟨w.heap.size + 1, 0, none⟩ = some (.int .u8 (c : Int))) (fun _ h => h.1) _ _ _ _ ?_
      have hS2 : (fun w' : World => w'.cell? ⟨w.heap.size, 0, none⟩ = some (.int .u8 (c : Int)) ∧ w'.cell? ⟨w.heap.size + 1, 0, none⟩ = some (.int .u8 (c : Int))) (((w.alloc (.cells #[.int .u8 (c : Int)] 5)).alloc (.cells #[.int .u8 (c : Int)] 5)).drew) := by (try dsimp only); go_simp
      (refine wpAnyH_take (i := 18) (v := ?v135) rfl (by kernel_rfl) (by kernel_rfl) (by kernel_rfl) (fun _ _ _ h => h) (Or.inl ⟨by rfl, ?hy135⟩) (by assumption) ?rest135; (case hy135 => (intro W hSW; (try dsimp only at hSW); go_split_ands; go_simp; try with_reducible rfl)); (try simp only [Act.put, List.getElem_toArray, List.getElem_cons_succ, List.getElem_cons_zero, List.setIfInBounds_toArray, List.set_cons_zero, List.set_cons_succ]))
      refine wpAnyH_ready (rs := [13]) (by kernel_rfl) (by simp) ?_
      refine AllReadyH.cons rfl (fun K hK => ?_) (AllReadyH.nil)
      (go_simp; refine (of_any x S (small_lo hx) hsz _).mono ?_; rintro e w' ⟨rfl, rfl⟩; refine hK.out _ _ (by first | assumption | ((try dsimp only); simp [*, World.cell?_alloc_some]; done) | ((try dsimp only); go_simp; done)) (fun hSS => ?_); clear hK K)
      refine wpAnyH_ready (rs := [19]) (by kernel_rfl) (by simp) ?_
      refine AllReadyH.cons rfl (fun K hK => ?_) (AllReadyH.nil)
      (go_simp; refine (rof_any x S (small_lo hx) hsz _).mono ?_; rintro e w' ⟨rfl, rfl⟩; refine hK.out _ _ (by first | assumption | ((try dsimp only); simp [*, World.cell?_alloc_some]; done) | ((try dsimp only); go_simp; done)) (fun hSS => ?_); clear hK K)
      (refine wpAnyH_take (i := 20) (v := ?v136) rfl (by kernel_rfl) (by kernel_rfl) (by kernel_rfl) (fun _ _ _ h => h) (Or.inl ⟨by rfl, ?hy136⟩) (by assumption) ?rest136; (case hy136 => (intro W hSW; (try dsimp only at hSW); go_split_ands; go_simp; try with_reducible rfl)); (try simp only [Act.put, List.getElem_toArray, List.getElem_cons_succ, List.getElem_cons_zero, List.setIfInBounds_toArray, List.set_cons_zero, List.set_cons_succ]))
      (refine wpAnyH_take (i := 21) (v := ?v137) rfl (by kernel_rfl) (by kernel_rfl) (by kernel_rfl) (fun _ _ _ h => h) (Or.inl ⟨by rfl, ?hy137⟩) (by assumption) ?rest137; (case hy137 => (intro W hSW; (try dsimp only at hSW); go_split_ands; go_simp; try with_reducible rfl)); (try simp only [Act.put, List.getElem_toArray, List.getElem_cons_succ, List.getElem_cons_zero, List.setIfInBounds_toArray, List.set_cons_zero, List.set_cons_succ]))
      (refine wpAnyH_take (i := 22) (v := ?v138) rfl (by kernel_rfl) (by kernel_rfl) (by kernel_rfl) (fun _ _ _ h => h) (Or.inl ⟨by rfl, ?hy138⟩) (by assumption) ?rest138; (case hy138 => (intro W hSW; (try dsimp only at hSW); go_split_ands; go_simp; try with_reducible rfl)); (try simp only [Act.put, List.getElem_toArray, List.getElem_cons_succ, List.getElem_cons_zero, List.setIfInBounds_toArray, List.set_cons_zero, List.set_cons_succ]))
      refine wpAnyH_ready (rs := [23]) (by kernel_rfl) (by simp) ?_
      refine AllReadyH.cons rfl (fun K hK => ?_) (AllReadyH.nil)
      (go_simp; refine (awake_any _).mono ?_; rintro e w' ⟨rfl, rfl⟩; refine hK.out _ _ (by first | assumption | ((try dsimp only); simp [*, World.cell?_alloc_some]; done) | ((try dsimp only); go_simp; done)) (fun hSS => ?_); clear hK K)
      (refine wpAnyH_take (i := 24) (v := ?v139) rfl (by kernel_rfl) (by kernel_rfl) (by kernel_rfl) (fun _ _ _ h => h) (Or.inl ⟨by rfl, ?hy139⟩) (by assumption) ?rest139; (case hy139 => (intro W hSW; (try dsimp only at hSW); go_split_ands; go_simp; try with_reducible rfl)); (try simp only [Act.put, List.getElem_toArray, List.getElem_cons_succ, List.getElem_cons_zero, List.setIfInBounds_toArray, List.set_cons_zero, List.set_cons_succ]))
      (refine wpAnyH_take (i := 25) (v := ?v140) rfl (by kernel_rfl) (by kernel_rfl) (by kernel_rfl) (fun _ _ _ h => h) (Or.inl ⟨by rfl, ?hy140⟩) (by assumption) ?rest140; (case hy140 => (intro W hSW; (try dsimp only at hSW); go_split_ands; go_simp; try with_reducible rfl)); (try simp only [Act.put, List.getElem_toArray, List.getElem_cons_succ, List.getElem_cons_zero, List.setIfInBounds_toArray, List.set_cons_zero, List.set_cons_succ]))
      refine wpAnyH_done (by kernel_rfl) ?_ _
      go_wp2
      go_ret
      exact ⟨rfl, by go_grown⟩
  · (go_simp; refine hK _ _ ?_; clear hK K)
    refine wpAny_of_held (S := fun w' => w'.cell? ⟨w.heap.size, 0, none⟩ = some (.int .u8 (c : Int))) _ _ _ _ ?_
    have hS1 : (fun w' : World => w'.cell? ⟨w.heap.size, 0, none⟩ = some (.int .u8 (c : Int))) ((w.alloc (.cells #[.int .u8 (c : Int)] 5)).drew) := by (try dsimp only); go_simp
    (refine wpAnyH_take (i := 18) (v := ?v141) rfl (by kernel_rfl) (by kernel_rfl) (by kernel_rfl) (fun _ _ _ h => h) (Or.inl ⟨by rfl, ?hy141⟩) (by assumption) ?rest141; (case hy141 => (intro W hSW; (try dsimp only at hSW); go_split_ands; go_simp; try with_reducible rfl)); (try simp only [Act.put, List.getElem_toArray, List.getElem_cons_succ, List.getElem_cons_zero, List.setIfInBounds_toArray, List.set_cons_zero, List.set_cons_succ]))
    refine wpAnyH_ready (rs := [11]) (by kernel_rfl) (by simp) ?_
    refine AllReadyH.cons rfl (fun K hK => ?_) (AllReadyH.nil)
    · (go_simp; refine hK.out _ _ (by first | assumption | ((try dsimp only); simp [*, World.cell?_alloc_some]; done) | ((try dsimp only); go_simp; done)) (fun hSS => ?_); clear hK K)
      refine held_mono (S2 := fun w' => w'.cell? ⟨w.heap.size, 0, none⟩ = some (.int .u8 (c : Int)) ∧ w'.cell? ⟨w.heap.size + 1, 0, none⟩ = some (.int .u8 (c : Int))) (fun _ h => h.1) _ _ _ _ ?_
      have hS2 : (fun w' : World => w'.cell? ⟨w.heap.size, 0, none⟩ = some (.int .u8 (c : Int)) ∧ w'.cell? ⟨w.heap.size + 1, 0, none⟩ = some (.int .u8 (c : Int))) (((w.alloc (.cells #[.int .u8 (c : Int)] 5)).alloc (.cells #[.int .u8 (c : Int)] 5)).drew) := by (try dsimp only); go_simp
      (refine wpAnyH_take (i := 12) (v := ?v142) rfl (by kernel_rfl) (by kernel_rfl) (by kernel_rfl) (fun _ _ _ h => h) (Or.inl ⟨by rfl, ?hy142⟩) (by assumption) ?rest142; (case hy142 => (intro W hSW; (try dsimp only at hSW); go_split_ands; go_simp; try with_reducible rfl)); (try simp only [Act.put, List.getElem_toArray, List.getElem_cons_succ, List.getElem_cons_zero, List.setIfInBounds_toArray, List.set_cons_zero, List.set_cons_succ]))
      refine wpAnyH_ready (rs := [13]) (by kernel_rfl) (by simp) ?_
      refine AllReadyH.cons rfl (fun K hK => ?_) (AllReadyH.nil)
      (go_simp; refine (of_any x S (small_lo hx) hsz _).mono ?_; rintro e w' ⟨rfl, rfl⟩; refine hK.out _ _ (by first | assumption | ((try dsimp only); simp [*, World.cell?_alloc_some]; done) | ((try dsimp only); go_simp; done)) (fun hSS => ?_); clear hK K)
      refine wpAnyH_ready (rs := [19]) (by kernel_rfl) (by simp) ?_
      refine AllReadyH.cons rfl (fun K hK => ?_) (AllReadyH.nil)
      (go_simp; refine (rof_any x S (small_lo hx) hsz _).mono ?_; rintro e w' ⟨rfl, rfl⟩; refine hK.out _ _ (by first | assumption | ((try dsimp only); simp [*, World.cell?_alloc_some]; done) | ((try dsimp only); go_simp; done)) (fun hSS => ?_); clear hK K)
      (refine wpAnyH_take (i := 20) (v := ?v143) rfl (by kernel_rfl) (by kernel_rfl) (by kernel_rfl) (fun _ _ _ h => h) (Or.inl ⟨by rfl, ?hy143⟩) (by assumption) ?rest143; (case hy143 => (intro W hSW; (try dsimp only at hSW); go_split_ands; go_simp; try with_reducible rfl)); (try simp only [Act.put, List.getElem_toArray, List.getElem_cons_succ, List.getElem_cons_zero, List.setIfInBounds_toArray, List.set_cons_zero, List.set_cons_succ]))
      (refine wpAnyH_take (i := 21) (v := ?v144) rfl (by kernel_rfl) (by kernel_rfl) (by kernel_rfl) (fun _ _ _ h => h) (Or.inl ⟨by rfl, ?hy144⟩) (by assumption) ?rest144; (case hy144 => (intro W hSW; (try dsimp only at hSW); go_split_ands; go_simp; try with_reducible rfl)); (try simp only [Act.put, List.getElem_toArray, List.getElem_cons_succ, List.getElem_cons_zero, List.setIfInBounds_toArray, List.set_cons_zero, List.set_cons_succ]))
      (refine wpAnyH_take (i := 22) (v := ?v145) rfl (by kernel_rfl) (by kernel_rfl) (by kernel_rfl) (fun _ _ _ h => h) (Or.inl ⟨by rfl, ?hy145⟩) (by assumption) ?rest145; (case hy145 => (intro W hSW; (try dsimp only at hSW); go_split_ands; go_simp; try with_reducible rfl)); (try simp only [Act.put, List.getElem_toArray, List.getElem_cons_succ, List.getElem_cons_zero, List.setIfInBounds_toArray, List.set_cons_zero, List.set_cons_succ]))
      refine wpAnyH_ready (rs := [23]) (by kernel_rfl) (by simp) ?_
      refine AllReadyH.cons rfl (fun K hK => ?_) (AllReadyH.nil)
      (go_simp; refine (awake_any _).mono ?_; rintro e w' ⟨rfl, rfl⟩; refine hK.out _ _ (by first | assumption | ((try dsimp only); simp [*, World.cell?_alloc_some]; done) | ((try dsimp only); go_simp; done)) (fun hSS => ?_); clear hK K)
      (refine wpAnyH_take (i := 24) (v := ?v146) rfl (by kernel_rfl) (by kernel_rfl) (by kernel_rfl) (fun _ _ _ h => h) (Or.inl ⟨by rfl, ?hy146⟩) (by assumption) ?rest146; (case hy146 => (intro W hSW; (try dsimp only at hSW); go_split_ands; go_simp; try with_reducible rfl)); (try simp only [Act.put, List.getElem_toArray, List.getElem_cons_succ, List.getElem_cons_zero, List.setIfInBounds_toArray, List.set_cons_zero, List.set_cons_succ]))
      (refine wpAnyH_take (i := 25) (v := ?v147) rfl (by kernel_rfl) (by kernel_rfl) (by kernel_rfl) (fun _ _ _ h => h) (Or.inl ⟨by rfl, ?hy147⟩) (by assumption) ?rest147; (case hy147 => (intro W hSW; (try dsimp only at hSW); go_split_ands; go_simp; try with_reducible rfl)); (try simp only [Act.put, List.getElem_toArray, List.getElem_cons_succ, List.getElem_cons_zero, List.setIfInBounds_toArray, List.set_cons_zero, List.set_cons_succ]))
      refine wpAnyH_done (by kernel_rfl) ?_ _
      go_wp2
      go_ret
      exact ⟨rfl, by go_grown⟩
end Go.Proofs.Ytgepbckaejleoaa
