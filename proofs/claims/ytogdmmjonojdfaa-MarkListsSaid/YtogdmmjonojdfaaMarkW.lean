/- mark: MarkFrom's walk. -/
import Derived.Test.YtogdmmjonojdfaaMarkV
namespace Go.Proofs.Ytogdmmjonojdfaa
open Go.RowKit
set_option linter.unusedVariables false
theorem isrow_rd {w : World} {a : Option Addr} {len cap : Nat} {zs : List Int} (h : IsRow .i64 w a len cap zs) : Reads w w.heap.size 1 a len ((zs.take len).map (Value.int .i64)) ∧ (zs.take len).length = len ∧ len ≤ 9223372036854775807 ∧ len ≤ cap ∧ ∀ z ∈ zs.take len, (Lit.int .i64 z).wf = true := by
  rcases h with ⟨rfl, rfl, rfl, rfl⟩ | ⟨x, rfl, h1, h2, h3, h4, h5⟩
  · exact ⟨Reads.none_, rfl, by decide, by decide, by intro n hn; simp at hn⟩
  · unfold maxLen at h2
    refine ⟨⟨by simp; omega, fun hn => ⟨x, rfl, ?_, fun j u hj => ?_⟩⟩, by simp; omega, by omega, h1, fun z hz => h5 z (List.mem_of_mem_take hz)⟩
    · have := World.block_lt_of_cell? w _ (h4 0 (by omega))
      rwa [block_of_add] at this
    · have hjl : j < len := by
        rcases Nat.lt_or_ge j len with h6 | h6
        · exact h6
        · rw [List.getElem?_eq_none (by simp; omega)] at hj; cases hj
      rw [List.getElem?_map, List.getElem?_take_of_lt hjl, List.getElem?_eq_getElem (by omega), Option.map_some, Option.some.injEq] at hj
      subst hj
      have := h4 j (by omega)
      rw [this]
      simp [show j < zs.length by omega]
/-- The world ahead of the first loop. -/
structure E1 (w w1 : World) (bw bb ba len c0 : Nat) (bad : Int) (W0 : Option Addr) : Prop where
  bel : Below w.heap.size w w1
  cw : Blk w1 bw 35 #[.slice W0 len c0]
  cb : Blk w1 bb 3 #[.int .i64 bad]
  ca : Blk w1 ba 36 #[.func (.func 13) #[] #[]]
theorem e1_made (w : World) (len c0 : Nat) (bad : Int) (W0 : Option Addr) : E1 w (((w.alloc (.cells #[.slice W0 len c0] 35)).alloc (.cells #[.int .i64 bad] 3)).alloc (.cells #[.func (.func 13) #[] #[]] 36)) w.heap.size (w.heap.size + 1) (w.heap.size + 1 + 1) len c0 bad W0 := by
  have b1 : Blk (w.alloc (.cells #[.slice W0 len c0] 35)) w.heap.size 35 #[.slice W0 len c0] := blk_new w _ _ rfl
  have b2 : Blk ((w.alloc (.cells #[.slice W0 len c0] 35)).alloc (.cells #[.int .i64 bad] 3)) (w.heap.size + 1) 3 #[.int .i64 bad] := blk_new _ _ _ (by simp)
  exact ⟨(((Below.refl _ w).alloc (Nat.le_refl _) _).alloc (by simp) _).alloc (by simp; omega) _, (b1.mv ((Mv.refl (fun _ => False) _).alloc _) (fun e => e)).mv ((Mv.refl (fun _ => False) _).alloc _) (fun e => e), b2.mv ((Mv.refl (fun _ => False) _).alloc _) (fun e => e), blk_new _ _ _ (by simp)⟩
theorem cell_b {w w' : World} {b B : Nat} {t : TypeId} {v : Value} (h : Blk w b t #[v]) (hb : Below w.heap.size w w') : w'.cell? ⟨b, 0, none⟩ = some v :=
  (hb.cell (p := (⟨b, 0, none⟩ : Addr)) h.lt).trans ((h.cell 0).trans rfl)
/-- The world that From is called in. -/
def W3 (wc : World) (bw ba : Nat) : World := (wc.alloc (.cells #[.func (.func 14) #[] #[.pointer (some ⟨bw, 0, none⟩), .pointer (some ⟨ba, 0, none⟩)]] 37)).alloc (.cells #[.slice none 0 0] 22)
theorem W3.below {w wc : World} {B bw ba : Nat} (h : Below B w wc) (hB : B ≤ wc.heap.size) : Below B w (W3 wc bw ba) := (h.alloc hB _).alloc (by simp; omega) _
theorem W3.mv (wc : World) (bw ba : Nat) : Below wc.heap.size wc (W3 wc bw ba) := W3.below (Below.refl _ _) (Nat.le_refl _)
theorem W3.size (wc : World) (bw ba : Nat) : (W3 wc bw ba).heap.size = wc.heap.size + 1 + 1 := by simp [W3]
theorem env_made {w w1 wc : World} {bw bb ba len c0 : Nat} {bad : Int} {W0 : Option Addr} {A : Nat → Option Addr} {L C : Nat → Nat} {zs : Nat → List Int} (h : E1 w w1 bw bb ba len c0 bad W0) (hweb : Web w w.heap.size W0 len A L C zs) (hb : Below w1.heap.size w1 wc) :
    Env (W3 wc bw ba) w.heap.size bw ba bb wc.heap.size (wc.heap.size + 1) len c0 bad W0 A L C zs := by
  have hs := hb.size
  have hs1 := h.bel.size
  have hW := W3.size wc bw ba
  have hb3 : Below w1.heap.size w1 (W3 wc bw ba) := W3.below hb hs
  have b1 : Blk (wc.alloc (.cells #[.func (.func 14) #[] #[.pointer (some ⟨bw, 0, none⟩), .pointer (some ⟨ba, 0, none⟩)]] 37)) wc.heap.size 37 #[.func (.func 14) #[] #[.pointer (some ⟨bw, 0, none⟩), .pointer (some ⟨ba, 0, none⟩)]] := blk_new _ _ _ rfl
  have h1 := h.cw.lt
  have h2 := h.ca.lt
  have h3 := h.cb.lt
  exact ⟨by omega, hweb.below (h.bel.trans (hb3.mono hs1)), cell_b (B := 0) h.cw hb3, cell_b (B := 0) h.ca hb3, cell_b (B := 0) h.cb hb3, cell_b (B := 0) b1 ((Below.refl _ _).alloc (Nat.le_refl _) _), by omega, by omega, by omega, by omega, by omega, by omega, by omega, by omega, by omega⟩
def P3 (w3 : World) : Nat → Prop := fun x => x < w3.heap.size ∨ (Value.slice none 0 0).ownBlock = some x
theorem if_made (wc : World) (bw ba : Nat) : IF (W3 wc bw ba) (wc.heap.size + 1) (P3 (W3 wc bw ba)) (W3 wc bw ba) [] :=
  ⟨none, 0, 0, ⟨by have := W3.size wc bw ba; omega, Mv.refl _ _, blk_new _ _ _ (by simp), ⟨by simp [Ints], .inl ⟨rfl, rfl⟩⟩⟩, rfl⟩
theorem fromF {roots : List Nat} {len bk : Nat} {zs : Nat → List Int} {bad most : Int} {P : Nat → Prop} {w3 w4 : World} {e : Ending} (h : FromPost roots (ansF len zs bad) most (IF w3 bk) P w3 e w4) :
    ∃ (out asked : List Nat) (er : Int) (A : Option Addr) (l : List Nat) (k : Nat) (A9 : Option Addr) (n9 c9 : Nat), e = .returned (.tuple #[.slice A k k, .int .i64 er]) ∧ l.length = k ∧ End roots (ansF len zs bad) most out asked er ∧ HF w3 w4 bk A9 n9 c9 asked ∧ Reads w4 w4.heap.size 1 A k (Zs (l.map Int.ofNat)) ∧ (er = 0 → l.Perm out ∧ l.Pairwise (· ≤ ·)) ∧ (er ≠ 0 → l = []) := by
  obtain ⟨out, asked, P', hI, hm, _, h⟩ := h
  obtain ⟨A9, n9, c9, hF, rfl⟩ := hI
  rcases h with ⟨hf, hall, A, l, hp, hs, rfl, hr, _⟩ | ⟨hf, hx, hbig, rfl⟩ | ⟨a0, x, ha, hf, hx, hxa, hxm, hl, hne, rfl⟩
  · exact ⟨out, asked, 0, A, l, _, A9, n9, c9, rfl, rfl, .inl ⟨hf, hall, rfl⟩, hF, by rw [← ints_zs]; exact hr, fun _ => ⟨hp, hs⟩, fun h => absurd rfl h⟩
  · exact ⟨out, asked, 5, none, [], 0, A9, n9, c9, rfl, rfl, .inr (.inl ⟨hf, hx, hbig, rfl⟩), hF, Reads.none_, fun h => absurd h (by decide), fun _ => rfl⟩
  · exact ⟨out, asked, _, none, [], 0, A9, n9, c9, rfl, rfl, .inr (.inr ⟨a0, x, ha, hf, ⟨hx, hxa, hxm⟩, hl, hne, rfl⟩), hF, Reads.none_, fun h => absurd h hne, fun _ => rfl⟩
theorem own_ltA {w : World} {B : Nat} {e : TypeId} {A : Option Addr} {c n : Nat} {xs : List Value} (h : w.ownsRow B e 1 (.slice A n c) n xs) : ∀ ad, A = some ad → ad.block < w.heap.size := by
  intro ad hA
  subst hA
  rcases h.2 with ⟨h1, h2⟩ | ⟨g, cap, cur, hv, hg, hh, _⟩
  · cases h1
  · cases hv
    rcases Nat.lt_or_ge g w.heap.size with h1 | h1
    · exact h1
    · rw [Array.getElem?_eq_none h1] at hh; cases hh
theorem Reads.bel {w w' : World} {size n : Nat} {A : Option Addr} {xs : List Value} (h : Reads w w.heap.size size A n xs) (hb : Below w.heap.size w w') : Reads w' w'.heap.size size A n xs := (h.below hb).more hb.size
theorem Env.bel {w w' : World} {B bw ba bb bo bk len c0 : Nat} {bad : Int} {W0 : Option Addr} {A : Nat → Option Addr} {L C : Nat → Nat} {zs : Nat → List Int} (h : Env w B bw ba bb bo bk len c0 bad W0 A L C zs) (hb : Below w.heap.size w w') : Env w' B bw ba bb bo bk len c0 bad W0 A L C zs := h.mv (Mv.of_below hb _)
theorem Sp.belx {w0 w w' : World} {v v' : Value} {n n' : Nat} {x x' : List Int} (h : Sp w0 w v n x v' n' x') (hb : Below w.heap.size w w') : Sp w0 w' v n x v' n' x' :=
  ⟨own_mvx h.o1 (Mv.of_below hb (fun _ => False)) (fun _ _ e => e), own_mvx h.o2 (Mv.of_below hb (fun _ => False)) (fun _ _ e => e), h.ne, h.bel.trans (hb.mono h.big)⟩
theorem own_base {w : World} {B B' : Nat} {e : TypeId} {v : Value} {n : Nat} {xs : List Value} (h : w.ownsRow B e 1 v n xs) (hB : B' ≤ B) : w.ownsRow B' e 1 v n xs := by
  refine ⟨h.1, ?_⟩
  rcases h.2 with h1 | ⟨g, cap, cur, e1, e2, e3⟩
  · exact .inl h1
  · exact .inr ⟨g, cap, cur, e1, Nat.le_trans hB e2, e3⟩
theorem fr_lt {roots : List Nat} {ans : Nat → List Nat × Int} {most : Int} {U : Nat} {out asked : List Nat} (h : Fr roots ans most out asked) (hr : ∀ z ∈ roots, z < U) (ha : ∀ x, x < U → ∀ y ∈ (ans x).1, y < U) : ∀ x ∈ out, x < U := by
  induction h with
  | start =>
    intro x hx
    rcases entL_mem.1 hx with h | h
    · cases h
    · exact hr x h.1
  | @step out asked x h1 hx hxa hm _ _ ih =>
    intro y hy
    rcases entL_mem.1 hy with h | h
    · exact ih y h
    · exact ha x (ih x hx) y h.1
theorem ansF_lt (len : Nat) (zs : Nat → List Int) (bad : Int) (x : Nat) : ∀ y ∈ (ansF len zs bad x).1, y < 41 := by
  unfold ansF
  split
  · intro y hy; simp at hy; omega
  · exact ofL_lt len zs x
theorem sp_empty (w : World) : Sp w ((w.alloc (.cells #[] 3)).drew) (.slice (some ⟨w.heap.size, 0, none⟩) 0 0) 0 [] (.slice none 0 0) 0 [] := by
  refine ⟨⟨by simp [Zs], .inr ⟨w.heap.size, 0, #[], rfl, Nat.le_refl _, blk_new w 3 #[] rfl, Nat.le_refl _, by unfold maxLen; omega, rfl, by simp [Zs]⟩⟩, ⟨by simp [Zs], .inl ⟨rfl, rfl⟩⟩, (fun b _ e => by cases e), below_drewN ((Below.refl _ w).alloc (Nat.le_refl _) _) 1⟩
theorem Sp.renew {w4 w7 wC wD : World} {v v' u : Value} {n n' m : Nat} {x x' z : List Int} (h : Sp w4 w7 v n x v' n' x') (hb : Below w7.heap.size w7 wD) (ho : wD.ownsRow wC.heap.size 3 1 u m (Zs z)) (hC : w7.heap.size ≤ wC.heap.size) : Sp w4 wD v n x u m z :=
  ⟨own_mvx h.o1 (Mv.of_below hb (fun _ => False)) (fun _ _ e => e), own_base ho (Nat.le_trans h.big hC), fun b e e' => by have := (h.o1.lt b e).2; have := (ho.lt b e').1; omega, h.bel.trans (hb.mono h.big)⟩
/-- A round of the law's own. -/
theorem rounds_len {S : List Nat} {len : Nat} {zs : Nat → List Int} {bad most : Int} {out d : List Nat} (h : Fr S (ansF len zs bad) most out d) (hS : ∀ z ∈ S, z < 41) : out.length ≤ 41 ∧ d.length ≤ 41 ∧ ∀ x ∈ out, x < 41 := by
  have h1 := fr_lt h hS (fun x _ => ansF_lt len zs bad x)
  exact ⟨pigeon 41 out h.inv.nd h1, pigeon 41 d h.inv.and (fun x hx => h1 x (h.inv.sub x hx)), h1⟩
set_option maxRecDepth 100000 in
set_option maxHeartbeats 16000000 in
theorem from_law (w : World) (len c0 N cN : Nat) (bad most : Int) (W0 R0 : Option Addr) (A : Nat → Option Addr) (L C : Nat → Nat) (zs : Nat → List Int) (rs : List Int) (hl : len ≤ 9223372036854775807) (hweb : Web w w.heap.size W0 len A L C zs) (hrl : rs.length = N) (hN : N ≤ 9223372036854775807) (hr : Reads w w.heap.size 1 R0 N (Zs rs)) :
    Calls Try.prog 5 #[.slice W0 len c0, .slice R0 N cN, .int .i64 bad, .int .i64 most] w (fun e w' => e = .returned (.bool true) ∧ Below w.heap.size w w') := by
  have Hweb := Lib.hid hweb
  have Hrl := Lib.hid hrl
  have Hr := Lib.hid hr
  have k3 : Blk (((w.alloc (.cells #[.slice W0 len c0] 35)).alloc (.cells #[.int .i64 bad] 3)).alloc (.cells #[.nilFunc] 36)) (w.heap.size + 1 + 1) 36 #[.nilFunc] := blk_new _ _ _ (by simp)
  have k3f := k3.frozen 0
  have k3c := (k3.cell 0).trans (show _ = some Value.nilFunc from rfl)
  have HE1 := Lib.hid (e1_made w len c0 bad W0)
  have hsf := fun (a : Addr) (f : Fn) (x c : Array Value) (W : World) => run_store Try.prog W a (.func f x c) .plain rfl
  clear hweb hrl hr k3
  go_enter Try.func5, Try.ntmps5
  go_upto_block 0 with fail
  clear k3f k3c
  generalize ((w.alloc (.cells #[.slice W0 len c0] 35)).alloc (.cells #[.int .i64 bad] 3)).alloc (.cells #[.func (.func 13) #[] #[]] 36) = w1 at HE1 ⊢
  generalize hba : w.heap.size + 1 + 1 = ba at HE1 ⊢
  generalize hbb : w.heap.size + 1 = bb at HE1 ⊢
  clear hba hbb
  obtain ⟨bw, hbw⟩ : ∃ bw, bw = w.heap.size := ⟨_, rfl⟩
  have HE2 : Hid (E1 w w1 bw bb ba len c0 bad W0) := by rw [hbw]; exact HE1
  have hga : Act.mk #[] [] = Act.mk #[] [] := rfl
  rw [← hbw]
  clear hbw HE1 hga
  rename Hid (E1 w w1 bw bb ba len c0 bad W0) => HE1
  have hs1 := HE1.out.bel.size
  have HR1 := Lib.hid (Hr.out.below HE1.out.bel)
  go_cut [10, 11] from 21 to 39 (fun s10 s11 wx => ∃ (A1 : Option Addr) (n1 c1 : Nat), s10 = .slice A1 n1 c1 ∧ n1 ≤ 20 ∧ Hid (Sp w1 wx (.slice A1 n1 c1) n1 (((rs.take 20).map atN).map Int.ofNat) (.slice none 0 0) 0 []))
  case first =>
    go_wp2_with fail
    go_loopw [10, 11] (fun v10 v11 wr => ∃ (A1 : Option Addr) (n1 c1 i : Nat), v10 = .slice A1 n1 c1 ∧ v11 = .int .i64 (i : Int) ∧ i ≤ N ∧ i ≤ 20 ∧ n1 ≤ 20 ∧ Hid (n1 = i) ∧ Hid (Sp w1 wr (.slice A1 n1 c1) n1 (((rs.take i).map atN).map Int.ofNat) (.slice none 0 0) 0 []))
      (fun _ v11 _ => 20 - (intOf v11).toNat)
    case atStart => exact ⟨none, 0, 0, 0, rfl, rfl, Nat.zero_le _, by omega, by omega, Lib.hid rfl, Lib.hid ⟨⟨by simp [Zs], .inl ⟨rfl, rfl⟩⟩, ⟨by simp [Zs], .inl ⟨rfl, rfl⟩⟩, (fun b e => by cases e), Below.refl _ _⟩⟩
    case round =>
      obtain ⟨A1, n1, c1, i, rfl, rfl, hiN, hi20, hn20, hni, hsp⟩ := hrel
      have k2 : wr.cell? ⟨ba, 0, none⟩ = some (.func (.func 13) #[] #[]) := cell_b (B := 0) HE1.out.ca hsp.out.bel
      rcases Nat.lt_or_ge i N with hl1 | hg1
      · rcases Nat.lt_or_ge i 20 with hl2 | hg2
        · have hlx : i < rs.length := by rw [Hrl.out]; exact hl1
          obtain ⟨ad2, u, hA2, hadb2, hu, hcl2⟩ := HR1.out.at_ hl1
          subst hA2
          rw [Zs_get _ _ hlx, Option.some.injEq] at hu
          subst hu
          have htk := Lib.hid (List.take_succ_eq_append_getElem hlx)
          have k4 : wr.cell? (ad2.add i) = some (.int .i64 rs[i]) := (hsp.out.bel.cell (by rw [block_of_add]; omega)).trans hcl2
          generalize rs[i] = z at k4 htk hcl2
          have Hc2 := Lib.hid hcl2
          have hwi := wrap_small (z := (i : Int) + 1) (by omega) (by omega)
          clear hcl2 hlx
          go_upto_region 6 with fail
          go_region_held3 (fun w' => w'.cell? ⟨ba, 0, none⟩ = some (.func (.func 13) #[] #[]) ∧ w'.cell? (ad2.add i) = some (.int .i64 z)) (first | assumption | exact ⟨by assumption, by assumption⟩ | (simp [*, World.cell?_alloc_some]; done)) (first
            | (go_at_call 13; refine (at_any _ _).mono ?_; rintro e w6 ⟨rfl, rfl⟩)
            | (rw [if_pos (by rfl)]; refine wp_push (w0 := w1) (v := .slice A1 n1 c1) (n := n1) (x := ((rs.take i).map atN).map Int.ofNat) (v' := .slice none 0 0) (n' := 0) (x' := []) (.tmp 31) (.tmp 38) rfl rfl ((hsp.out.alloc _).drew) (by omega) (wr.heap.size + 1) (some ⟨wr.heap.size, 0, none⟩) 1 rfl (news := [(atN z : Int)]) ((one_reads wr (atN z : Int) 3 rfl).drew) (by omega) ?_; intro A6 c6 w6 hsp6; have d2 : w6.cell? ⟨ba, 0, none⟩ = some (.func (.func 13) #[] #[]) := cell_b (B := 0) HE1.out.ca hsp6.bel; have d4 : w6.cell? (ad2.add i) = some (.int .i64 z) := (hsp6.bel.cell (by rw [block_of_add]; omega)).trans Hc2.out))
          rename_i hHeld
          clear hHeld
          have Hsp6 := Lib.hid hsp6
          clear hsp6
          go_wp2_with fail
          refine ⟨⟨A6, n1 + 1, c6, i + 1, by go_num, by go_num, by omega, by omega, by have := hni.out; omega, Lib.hid (by have := hni.out; omega), Lib.hid (by rw [htk.out]; simpa using Hsp6.out)⟩, ?_⟩
          show 20 - ((i : Int) + 1).toNat < 20 - ((i : Int)).toNat
          omega
        · have e := Lib.hid (show i = 20 by omega)
          go_wp2_with fail
          go_meet
          case rel => exact ⟨A1, n1, c1, rfl, by omega, Lib.hid (by have := hsp.out; rw [e.out] at this; exact this)⟩
      · have e := Lib.hid (show rs.take 20 = rs.take i by rw [List.take_of_length_le (show rs.length ≤ i by rw [Hrl.out]; omega), List.take_of_length_le (show rs.length ≤ 20 by rw [Hrl.out]; omega)])
        go_wp2_with fail
        go_meet
        case rel => exact ⟨A1, n1, c1, rfl, by omega, Lib.hid (by rw [e.out]; exact hsp.out)⟩
  case rest =>
    obtain ⟨A1, n1, c1, rfl, hn1, hsp⟩ := hcut
    obtain ⟨S, hS⟩ : ∃ S, S = (rs.take 20).map atN := ⟨_, rfl⟩
    rw [← hS] at hsp
    have HS41 := Lib.hid (show ∀ z ∈ S, z < 41 by rw [hS]; intro z hz; obtain ⟨y, _, rfl⟩ := List.mem_map.1 hz; exact atN_lt y)
    clear hS
    have hSl : S.length = n1 := by have := hsp.out.o1.1; simpa [Zs] using this
    have HSl := Lib.hid hSl
    have Henv := Lib.hid (env_made HE1.out Hweb.out hsp.out.bel)
    have Hrow := Lib.hid (Reads.of_own hsp.out.o1)
    have hbel2 := Lib.hid (HE1.out.bel.trans (hsp.out.bel.mono hs1))
    have hfrom := from_any 15 #[.pointer (some ⟨wc.heap.size + 1, 0, none⟩), .pointer (some ⟨bb, 0, none⟩), .pointer (some ⟨wc.heap.size, 0, none⟩)] 41 (IF (W3 wc bw ba) (wc.heap.size + 1)) (ansF len zs bad) (ofF _ _ _ _ _ _ _ _ _ _ _ _ _ _ _ Henv.out) (by omega) (W3 wc bw ba) (P3 (W3 wc bw ba)) (if_made wc bw ba) S A1 n1 c1 hSl (by omega) (by rw [ints_zs]; exact Hrow.out.bel (W3.mv wc bw ba)) (fun ad e => by have h1 := own_ltA hsp.out.o1 ad e; have := W3.size wc bw ba; omega) HS41.out most
    have Hfrom := Lib.hid hfrom
    have k5 : Blk (wc.alloc (.cells #[.nilFunc] 37)) wc.heap.size 37 #[.nilFunc] := blk_new _ _ _ rfl
    have k5f := k5.frozen 0
    have k5c := (k5.cell 0).trans (show _ = some Value.nilFunc from rfl)
    clear hfrom k5 hSl hsp
    go_upto_block 2 with (first
      | (go_at_call 8; refine Hfrom.out.mono ?_; rintro e w4 h2; obtain ⟨out, asked, er, AR, l, k, A9, n9, c9, rfl, hlk, hend, hF, hr4, he0, he5⟩ := fromF h2; have HF4 := Lib.hid hF; have Hlk := Lib.hid hlk; have Hend := Lib.hid hend; have Hr4 := Lib.hid hr4; have He0 := Lib.hid he0; have He5 := Lib.hid he5; have hbc := (W3.mv wc bw ba).trans (hF.mv.below (B := wc.heap.size) (by have := W3.size wc bw ba; omega) (fun b e => by have := W3.size wc bw ba; rcases e with e | e <;> omega)); have Hbc := Lib.hid hbc; have HrS := Lib.hid (Hrow.out.bel hbc); have Henv4 := Lib.hid (Henv.out.mv hF.mv); clear hF hlk hend hr4 he0 he5 h2 hbc)
      | (go_at_call 16; refine (rising_any w4 A1 n1 c1 (S.map Int.ofNat) (by simp; exact HSl.out) HrS.out (by omega)).mono ?_; rintro e w5 ⟨A5, c5, z5, rfl, ho5, hz5, hl5, hb5⟩; have Ho5 := Lib.hid ho5; have Hz5 := Lib.hid (Fd.start hz5); have Hb5 := Lib.hid hb5; clear ho5 hz5 hb5)
      | fail)
    clear k5f k5c Hfrom
    have HS4 := HSl
    have Hfr0 := Lib.hid (show Fr S (ansF len zs bad) most (entL [] S) [] from .start)
    have hl5' := Lib.hid (show z5.length ≤ 41 by rw [Hz5.out.len Hfr0.out.inv.nd]; exact (rounds_len Hfr0.out HS41.out).1)
    have hbo : wc.heap.size + 1 = wc.heap.size + 1 := rfl
    generalize wc.heap.size = bo at Henv4 HF4 ⊢
    generalize hn5 : z5.length = n5 at Ho5 hl5' ⊢
    have Hn5 := Lib.hid hn5
    clear hn5 hbo
    have Hsp0 : Hid (Sp w4 w5 (.slice none 0 0) 0 (([] : List Nat).map Int.ofNat) (.slice A5 n5 c5) n5 z5) := Lib.hid ⟨⟨by simp [Zs], .inl ⟨rfl, rfl⟩⟩, Ho5.out, (fun b e => by cases e), Hb5.out⟩
    go_cut [16, 17, 18, 19, 20] from 50 to 93 (fun s16 s17 s18 s19 s20 wx => ∃ (Af : Option Addr) (nf cf : Nat) (Ad : Option Addr) (nd cd : Nat) (wn : Int) (zf : List Int) (d out' : List Nat), s16 = .slice Af nf cf ∧ s17 = .slice Ad nd cd ∧ s18 = .int .i64 wn ∧ nf ≤ 41 ∧ nd ≤ 50 ∧ Hid (Sp w4 wx (.slice Ad nd cd) nd (d.map Int.ofNat) (.slice Af nf cf) nf zf) ∧ Hid (Fd out' zf) ∧ Hid (End S (ansF len zs bad) most out' d wn))
    case first =>
      go_wp2_with fail
      go_loopw [16, 17, 18] (fun v16 v17 v18 wr => ∃ (Af : Option Addr) (nf cf : Nat) (Ad : Option Addr) (nd cd : Nat) (zf : List Int) (d out' : List Nat), v16 = .slice Af nf cf ∧ v17 = .slice Ad nd cd ∧ v18 = .int .i64 0 ∧ nf ≤ 41 ∧ nd ≤ 41 ∧ Hid (Sp w4 wr (.slice Ad nd cd) nd (d.map Int.ofNat) (.slice Af nf cf) nf zf) ∧ Hid (Fd out' zf) ∧ Hid (Fr S (ansF len zs bad) most out' d))
        (fun _ v17 _ _ => 42 - lenOf v17)
      case atStart => exact ⟨A5, n5, c5, none, 0, 0, z5, [], entL [] S, rfl, rfl, rfl, hl5'.out, by omega, Hsp0, Hz5, Hfr0⟩
      case round =>
        clear Hsp0 Hfr0 Hz5 Ho5 Hb5 hl5' Hn5
        obtain ⟨Af, nf, cf, Ad, nd, cd, zf, d, out', rfl, rfl, rfl, hnf, hnd, hsp, hfd, hfr⟩ := hrel
        have hzl := Lib.hid (show zf.length = nf by have := hsp.out.o2.1; simpa [Zs] using this)
        have hdl := Lib.hid (show d.length = nd by have := hsp.out.o1.1; simpa [Zs] using this)
        have HE := Lib.hid (Henv4.out.bel hsp.out.bel)
        go_upto_block 4 with fail
        go_cut [19, 20] from 52 to 72 (fun s19 s20 wx => ∃ nx : Nat, s19 = .int .i64 (nx : Int) ∧ nx < 41 ∧ wx = wr ∧ Hid ((nx = 0 ∧ ∀ x ∈ out', x ∈ d) ∨ (nx ≠ 0 ∧ Nx out' d nx)))
        case first =>
          go_wp2_with fail
          go_loopw [19, 20] (fun v19 v20 wy => ∃ nx i : Nat, v19 = .int .i64 (nx : Int) ∧ v20 = .int .i64 (i : Int) ∧ nx < 41 ∧ i ≤ nf ∧ Hid (wy = wr) ∧ Hid ((nx = 0 ∧ ∀ z ∈ zf.take i, z ∈ d.map Int.ofNat) ∨ (nx ≠ 0 ∧ Nx out' d nx)))
            (fun _ v20 _ => nf - (intOf v20).toNat)
          case atStart => exact ⟨0, 0, rfl, rfl, by omega, Nat.zero_le _, Lib.hid rfl, Lib.hid (.inl ⟨rfl, by simp⟩)⟩
          case round =>
            obtain ⟨nx, i, rfl, rfl, hnx, hi, hw, hnn⟩ := hrel
            obtain rfl := hw.out
            clear hw
            rcases Nat.lt_or_ge i nf with hlt | hge
            · rcases Nat.eq_zero_or_pos nx with h0 | h0
              · have hb0 : ((nx : Int) == 0) = true := by simp [h0]
                have H0 := Lib.hid h0
                clear h0
                have hlx : i < zf.length := by rw [hzl.out]; exact hlt
                obtain ⟨ad, u, hA1, hadb, hu, hcl⟩ := (Reads.of_own hsp.out.o2).at_ hlt
                subst hA1
                rw [Zs_get _ _ hlx, Option.some.injEq] at hu
                subst hu
                obtain ⟨x, hxo, hxe⟩ := (hfd.out.mem zf[i]).1 (List.getElem_mem hlx)
                have hx41 := (rounds_len hfr.out HS41.out).2.2 x hxo
                have hx0 := hfr.out.inv.nz x hxo
                have htk := Lib.hid (List.take_succ_eq_append_getElem hlx)
                have hget := Lib.hid (List.getElem?_eq_getElem hlx)
                rw [hxe] at hcl
                have Htk : Hid (zf.take (i + 1) = zf.take i ++ [(x : Int)]) := by rw [← hxe]; exact htk
                have Hget : Hid (zf[i]? = some (x : Int)) := by rw [← hxe]; exact hget
                clear htk hget hxe hxo hlx
                have hwi := wrap_small (z := (i : Int) + 1) (by omega) (by omega)
                have hhas := fun W => has_any W Ad nd cd (d.map Int.ofNat) (x : Int) (by simp; exact hdl.out)
                by_cases hm : (x : Int) ∈ d.map Int.ofNat
                · have hhas := has_any wr Ad nd cd (d.map Int.ofNat) (x : Int) (by simp; exact hdl.out) (Reads.of_own hsp.out.o1) (by omega)
                  rw [decide_eq_true hm] at hhas
                  have Hhas := Lib.hid hhas
                  have Hm := Lib.hid hm
                  clear hhas hm
                  go_wp2_with (first
                    | (go_at_call 10; refine Hhas.out.mono ?_; rintro e w6 ⟨rfl, rfl⟩)
                    | fail)
                  refine ⟨⟨nx, i + 1, rfl, by go_num, hnx, by omega, Lib.hid trivial, Lib.hid (.inl ⟨H0.out, ?_⟩)⟩, ?_⟩
                  · intro z hz
                    rw [Htk.out] at hz
                    rcases List.mem_append.1 hz with hz | hz
                    · rcases hnn.out with ⟨_, h⟩ | ⟨h, _⟩
                      · exact h z hz
                      · exact absurd H0.out h
                    · simp at hz; subst hz; exact Hm.out
                  · show nf - ((i : Int) + 1).toNat < nf - ((i : Int)).toNat
                    omega
                · have hhas := has_any wr Ad nd cd (d.map Int.ofNat) (x : Int) (by simp; exact hdl.out) (Reads.of_own hsp.out.o1) (by omega)
                  rw [decide_eq_false hm] at hhas
                  have Hhas := Lib.hid hhas
                  have Hm := Lib.hid hm
                  have Hx0 := Lib.hid hx0
                  clear hhas hm hx0
                  go_wp2_with (first
                    | (go_at_call 10; refine Hhas.out.mono ?_; rintro e w6 ⟨rfl, rfl⟩)
                    | fail)
                  refine ⟨⟨x, i + 1, rfl, by go_num, hx41, by omega, Lib.hid trivial, Lib.hid (.inr ⟨Hx0.out, ?_⟩)⟩, ?_⟩
                  · rcases hnn.out with ⟨_, h⟩ | ⟨h, _⟩
                    · exact hfd.out.next Hget.out h Hm.out
                    · exact absurd H0.out h
                  · show nf - ((i : Int) + 1).toNat < nf - ((i : Int)).toNat
                    omega
              · have hb0 : ((nx : Int) == 0) = false := by simp; omega
                have H0 := Lib.hid h0
                clear h0
                go_wp2_with fail
                go_meet
                case rel => exact ⟨nx, rfl, hnx, rfl, Lib.hid (by rcases hnn.out with ⟨h, _⟩ | h; exact absurd h (by have := H0.out; omega); exact .inr h)⟩
            · go_wp2_with fail
              go_meet
              case rel => exact ⟨nx, rfl, hnx, rfl, Lib.hid (by rcases hnn.out with ⟨h, h2⟩ | h; exact .inl ⟨h, hfd.out.all (fun z hz => h2 z (by rw [List.take_of_length_le (by rw [hzl.out]; exact hge)]; exact hz))⟩; exact .inr h)⟩
        case rest =>
          obtain ⟨nx, rfl, hnx, rfl, hnn⟩ := hcut
          rcases Nat.eq_zero_or_pos nx with h0 | h0
          · have hb0 : ((nx : Int) == 0) = true := by simp [h0]
            have hall : ∀ x ∈ out', x ∈ d := by
              rcases hnn.out with ⟨_, h⟩ | ⟨h, _⟩
              · exact h
              · exact absurd h0 h
            have Hend2 : Hid (End S (ansF len zs bad) most out' d 0) := Lib.hid (.inl ⟨hfr.out, hall, rfl⟩)
            clear h0 hall
            go_wp2_with fail
            go_meet
            case rel => exact ⟨Af, nf, cf, Ad, nd, cd, 0, zf, d, out', rfl, rfl, rfl, hnf, by omega, hsp, hfd, Hend2⟩
          · have hb0 : ((nx : Int) == 0) = false := by simp; omega
            have hNx : Nx out' d nx := by
              rcases hnn.out with ⟨h, _⟩ | ⟨_, h⟩
              · omega
              · exact h
            have HNx := Lib.hid hNx
            have H0 := Lib.hid h0
            have Hlen := Lib.hid (show nf = out'.length by rw [← hzl.out]; exact hfd.out.len hfr.out.inv.nd)
            clear hnn hNx h0
            by_cases hbig : most < (nf : Int)
            · have hb1 : decide ((nf : Int) > most) = true := by simp; omega
              have hb2 : decide (most < (nf : Int)) = true := by simp; omega
              have Hend2 : Hid (End S (ansF len zs bad) most out' d 5) := Lib.hid (.inr (.inl ⟨hfr.out, ⟨nx, HNx.out.1, HNx.out.2.1⟩, by rw [← Hlen.out]; exact hbig, rfl⟩))
              clear hbig
              go_wp2_with fail
              go_meet
              case rel => exact ⟨Af, nf, cf, Ad, nd, cd, 5, zf, d, out', rfl, rfl, rfl, hnf, by omega, hsp, hfd, Hend2⟩
            · have hb1 : decide ((nf : Int) > most) = false := by simp; omega
              have hb2 : decide (most < (nf : Int)) = false := by simp; omega
              have Hbig := Lib.hid (show (out'.length : Int) ≤ most by rw [← Hlen.out]; omega)
              clear hbig
              by_cases hbad : (nx : Int) = bad
              · have hb3 : ((nx : Int) == bad) = true := by simp [hbad]
                have hans : ansF len zs bad nx = ([1, 2, 3], 3) := by unfold ansF; rw [if_pos hbad]
                have Hend2 : Hid (End S (ansF len zs bad) most out' (d ++ [nx]) 3) := Lib.hid (.inr (.inr ⟨d, nx, rfl, hfr.out, HNx.out, Hbig.out, by rw [hans]; decide, by rw [hans]⟩))
                clear hbad hans
                go_wp2_with (first
                  | (at_builtin; refine wpList_pushL (w0 := w4) (v := .slice Ad nd cd) (n := nd) (x := d.map Int.ofNat) (v' := .slice Af nf cf) (n' := nf) (x' := zf) rfl (.tmp 79) (.tmp 81) rfl rfl (hsp.out.alloc _) (by omega) (wc.heap.size + 1) (some ⟨wc.heap.size, 0, none⟩) 1 rfl (news := [(nx : Int)]) (one_reads wc (nx : Int) 3 rfl) (by omega) ?_; intro A7 c7 w7 hsp7; have kb := (Henv4.out.bel hsp7.bel).cb; have Hsp7 := Lib.hid hsp7; clear hsp7)
                  | fail)
                go_meet
                case rel => exact ⟨Af, nf, cf, A7, nd + 1, c7, 3, zf, d ++ [nx], out', rfl, rfl, rfl, hnf, by omega, Lib.hid (by simpa using Hsp7.out), hfd, Hend2⟩
              · have hb3 : ((nx : Int) == bad) = false := by simp [hbad]
                have hans : ansF len zs bad nx = (ofL len zs nx, 0) := by unfold ansF; rw [if_neg hbad]
                have hfr2 : Hid (Fr S (ansF len zs bad) most (entL out' (ofL len zs nx)) (d ++ [nx])) := by
                  have := Fr.step hfr.out HNx.out.1 HNx.out.2.1 HNx.out.2.2 Hbig.out (by rw [hans])
                  rw [hans] at this
                  exact this
                clear hbad hans
                go_upto_region 26 with (first
                  | (at_builtin; refine wpList_pushL (w0 := w4) (v := .slice Ad nd cd) (n := nd) (x := d.map Int.ofNat) (v' := .slice Af nf cf) (n' := nf) (x' := zf) rfl (.tmp 79) (.tmp 81) rfl rfl (hsp.out.alloc _) (by omega) (wc.heap.size + 1) (some ⟨wc.heap.size, 0, none⟩) 1 rfl (news := [(nx : Int)]) (one_reads wc (nx : Int) 3 rfl) (by omega) ?_; intro A7 c7 w7 hsp7; have kb := (Henv4.out.bel hsp7.bel).cb; have Hsp7 := Lib.hid hsp7; clear hsp7)
                  | fail)
                have HE7 := Lib.hid (Henv4.out.bel Hsp7.out.bel)
                have hco := HE7.out.co
                have hspE := Lib.hid (sp_empty w7)
                have hRz := Lib.hid (((Reads.of_own Hsp7.out.o2).alloc (Nat.le_refl _) (.cells #[] 3)).drew)
                have hofl := Lib.hid (ofL_len len zs nx)
                clear hb0 hb1 hb2 hb3 HE kb
                go_region_held3 (fun w' => w'.cell? ⟨bo, 0, none⟩ = some (.func (.func 14) #[] #[.pointer (some ⟨bw, 0, none⟩), .pointer (some ⟨ba, 0, none⟩)])) (first | assumption | (simp [*, World.cell?_alloc_some]; done)) (first
                  | (rw [if_pos (by rfl)]; (fail_if_success (have := wA)); refine wp_push (w0 := w7) (v := .slice (some ⟨w7.heap.size, 0, none⟩) 0 0) (n := 0) (x := []) (v' := .slice none 0 0) (n' := 0) (x' := []) (.tmp 86) (.tmp 87) rfl rfl hspE.out (by omega) w7.heap.size Af cf rfl (news := zf) hRz.out (by omega) ?_; intro AA cA wA hspA; rw [Nat.zero_add] at hspA ⊢; rw [List.nil_append] at hspA; have dA := (HE7.out.bel hspA.bel).co)
                  | (go_at_call 14; refine (of_any wA w.heap.size bw ba len c0 nx W0 A L C zs (HE7.out.bel hspA.bel).hB (HE7.out.bel hspA.bel).web (HE7.out.bel hspA.bel).cw (HE7.out.bel hspA.bel).ca (HE7.out.bel hspA.bel).lw (HE7.out.bel hspA.bel).la).mono ?_; rintro e wB ⟨AB, cB, rfl, hoB, hbB⟩; have hspB := hspA.belx hbB; have dB := (HE7.out.bel hspB.bel).co)
                  | (rw [if_pos (by rfl)]; refine wp_push (w0 := w7) (v := .slice AA nf cA) (n := nf) (x := zf) (v' := .slice none 0 0) (n' := 0) (x' := []) (.tmp 88) (.tmp 91) rfl rfl hspB (by omega) wB.heap.size AB cB rfl (news := (ofL len zs nx).map Int.ofNat) (Reads.of_own hoB) (by have := hofl.out; omega) ?_; intro AC cC wC hspC; have dC := (HE7.out.bel hspC.bel).co)
                  | (go_at_call 16; refine (rising_any wC AC (nf + (ofL len zs nx).length) cC (zf ++ (ofL len zs nx).map Int.ofNat) (by simp; exact hzl.out) (Reads.of_own hspC.o1) (by have := hofl.out; omega)).mono ?_; rintro e wD ⟨AD, cD, zD, rfl, hoD, hzD, hlD, hbD⟩; have hspD := hspC.belx hbD; have dD := (HE7.out.bel hspD.bel).co))
                rename_i hHeld
                clear hHeld
                have Hsp9 := Lib.hid (Hsp7.out.renew hspD.bel hoD hspC.bel.size)
                have Hfd9 := Lib.hid (hfd.out.step hfr.out.inv.nz hzD)
                have Hn9 := Lib.hid (show zD.length ≤ 41 by rw [Hfd9.out.len hfr2.out.inv.nd]; exact (rounds_len hfr2.out HS41.out).1)
                have Hd9 := Lib.hid (show nd + 1 ≤ 41 by have := (rounds_len hfr2.out HS41.out).2.1; rw [← hdl.out]; simpa using this)
                clear hspA hspB hspC hspD hoB hbB hoD hzD hlD hbD dA dB dC dD hspE hRz hco hofl
                generalize zD.length = n9' at Hsp9 Hn9 ⊢
                go_wp2_with fail
                refine ⟨⟨AD, n9', cD, A7, nd + 1, c7, zD, d ++ [nx], entL out' (ofL len zs nx), by go_num, by go_num, rfl, Hn9.out, Hd9.out, Lib.hid (by simpa using Hsp9.out), Hfd9, hfr2⟩, ?_⟩
                show 42 - (nd + 1) < 42 - nd
                omega
    case rest =>
      clear Hsp0 Hfr0 Hz5 Ho5 Hb5 hl5' Hn5
      obtain ⟨Af, nf, cf, Ad, nd, cd, wn, zf, d, out', rfl, rfl, rfl, hnf, hnd, hsp, hfd, hend2⟩ := hcut
      obtain ⟨e1, e2, e3⟩ := Hend.out.uniq hend2.out
      subst e1
      subst e2
      subst e3
      have HFw := Lib.hid (HF4.out.below hsp.out.bel)
      have kk := (HFw.out.cell.cell 0).trans (show _ = some (Value.slice A9 n9 c9) from rfl)
      have hnn : (wn != wn) = false := by simp
      have hdn : d.length = nd := by have := hsp.out.o1.1; simpa [Zs] using this
      have hn9 : d.length = n9 := ints_len HFw.out.row
      have hs1 := Lib.hid (same_self wc A9 Ad n9 c9 nd cd (d.map Int.ofNat) (by simp; exact hn9) (by simp; exact hdn) (by rw [← ints_zs]; exact Reads.of_own HFw.out.row) (Reads.of_own hsp.out.o1) (by omega))
      clear hdn hn9
      have Hbw := Lib.hid ((hbel2.out.trans (Hbc.out.mono hbel2.out.size)).trans (hsp.out.bel.mono (Nat.le_trans hbel2.out.size Hbc.out.size)))
      by_cases h0 : wn = 0
      · have hb0 : (wn != 0) = false := by simp [h0]
        have hgot := hfd.out.of_perm (He0.out h0).1 (He0.out h0).2 (by rcases hend2.out with ⟨h, _⟩ | ⟨h, _⟩ | ⟨_, _, _, h, _⟩ <;> exact h.inv.nd)
        have hzl : zf.length = nf := by have := hsp.out.o2.1; simpa [Zs] using this
        have hlk : zf.length = k := by rw [← hgot]; simp; exact Hlk.out
        have hr4 := Hr4.out
        rw [hgot] at hr4
        have hs2 := Lib.hid (fun q => same_self (wc.drewN q) AR Af k k nf cf zf hlk hzl ((hr4.bel hsp.out.bel).drewN q) ((Reads.of_own hsp.out.o2).drewN q) (by omega))
        clear h0 hgot hzl hlk hr4
        go_wp2_with (first
          | (go_at_call 12; (fail_if_success (have := q1)); refine hs1.out.mono ?_; rintro e w6 ⟨rfl, q1, rfl⟩)
          | (go_at_call 12; refine (hs2.out _).mono ?_; rintro e w7 ⟨rfl, q2, rfl⟩)
          | (go_at_call 9; refine (awake_any _).mono ?_; rintro e w8 ⟨rfl, hb8⟩; have Hb8 := Lib.hid ((below_drewN Hbw.out (q1 + q2)).trans (hb8.mono Hbw.out.size)); clear hb8)
          | fail)
        go_ret
        exact ⟨by simp, Hb8.out⟩
      · have hb0 : (wn != 0) = true := by simp [h0]
        have hl0 := He5.out h0
        have hk0 : k = 0 := by rw [← Hlk.out, hl0]; rfl
        subst hk0
        clear h0 hl0
        go_wp2_with (first
          | (go_at_call 12; refine hs1.out.mono ?_; rintro e w6 ⟨rfl, q1, rfl⟩)
          | (go_at_call 9; refine (awake_any _).mono ?_; rintro e w8 ⟨rfl, hb8⟩; have Hb8 := Lib.hid ((below_drewN Hbw.out q1).trans (hb8.mono Hbw.out.size)); clear hb8)
          | fail)
        go_ret
        exact ⟨by simp, Hb8.out⟩
end Go.Proofs.Ytogdmmjonojdfaa
