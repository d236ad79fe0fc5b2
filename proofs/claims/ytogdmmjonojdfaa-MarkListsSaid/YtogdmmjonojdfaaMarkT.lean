/- mark: MarkFrom's closures. -/
import Derived.Test.YtogdmmjonojdfaaMarkS
namespace Go.Proofs.Ytogdmmjonojdfaa
open Go.RowKit
set_option linter.unusedVariables false
def atN (n : Int) : Nat := (bits .and .i64 n 65535).toNat % 41
theorem atN_lt (n : Int) : atN n < 41 := Nat.mod_lt _ (by decide)
theorem at_any (n : Int) (w : World) : Calls Try.prog 13 #[.int .i64 n] w (fun e w' => e = .returned (.int .i64 (atN n : Int)) ∧ w' = w) := by
  obtain ⟨N, hN, hm⟩ := mask n 65535 (by omega)
  have hm' : bits .and .i64 n 65535 = (N : Int) := hm
  have ha : atN n = N % 41 := by unfold atN; rw [hm']; simp
  have e1 : (N : Int).tmod 41 = ((N % 41 : Nat) : Int) := by rw [Int.tmod_eq_emod_of_nonneg (by omega)]; omega
  have hb : N % 41 < 41 := Nat.mod_lt _ (by decide)
  rw [ha]
  generalize N % 41 = m at e1 hb ⊢
  have hw := wrap_small (z := (m : Int)) (by omega) (by omega)
  clear hm ha
  go_enter Try.func13, Try.ntmps13
  go_wp2_with fail
  go_ret
  exact ⟨by simp, rfl⟩
/-- The web that came in. -/
structure Web (w : World) (B : Nat) (W0 : Option Addr) (len : Nat) (A : Nat → Option Addr) (L C : Nat → Nat) (zs : Nat → List Int) : Prop where
  out : Reads w B 1 W0 len ((List.range len).map fun r => Value.slice (A r) (L r) (C r))
  row : ∀ r, r < len → Reads w B 1 (A r) (L r) (Zs (zs r)) ∧ (zs r).length = L r ∧ L r ≤ 9223372036854775807
theorem Web.below {w w' : World} {B len : Nat} {W0 : Option Addr} {A : Nat → Option Addr} {L C : Nat → Nat} {zs : Nat → List Int} (h : Web w B W0 len A L C zs) (hb : Below B w w') : Web w' B W0 len A L C zs :=
  ⟨h.out.below hb, fun r hr => ⟨(h.row r hr).1.below hb, (h.row r hr).2⟩⟩
def ofL (len : Nat) (zs : Nat → List Int) (n : Nat) : List Nat := if n < len then ((zs n).take 10).map atN else []
theorem ofL_len (len : Nat) (zs : Nat → List Int) (n : Nat) : (ofL len zs n).length ≤ 10 := by
  unfold ofL
  split
  · simp; omega
  · simp
theorem ofL_lt (len : Nat) (zs : Nat → List Int) (n : Nat) : ∀ y ∈ ofL len zs n, y < 41 := by
  intro y hy
  unfold ofL at hy
  split at hy
  · obtain ⟨z, _, rfl⟩ := List.mem_map.1 hy
    exact atN_lt z
  · cases hy
set_option maxHeartbeats 8000000 in
theorem of_any (w : World) (B bw ba len c0 n : Nat) (W0 : Option Addr) (A : Nat → Option Addr) (L C : Nat → Nat) (zs : Nat → List Int) (hB : B ≤ w.heap.size) (hweb : Web w B W0 len A L C zs)
    (hcw : w.cell? ⟨bw, 0, none⟩ = some (.slice W0 len c0)) (hca : w.cell? ⟨ba, 0, none⟩ = some (.func (.func 13) #[] #[])) (hlw : bw < w.heap.size) (hla : ba < w.heap.size) :
    Calls Try.prog 14 #[.int .i64 (n : Int), .pointer (some ⟨bw, 0, none⟩), .pointer (some ⟨ba, 0, none⟩)] w (fun e w' => ∃ (A1 : Option Addr) (c1 : Nat), e = .returned (.slice A1 (ofL len zs n).length c1) ∧ w'.ownsRow w.heap.size 3 1 (.slice A1 (ofL len zs n).length c1) (ofL len zs n).length (Zs ((ofL len zs n).map Int.ofNat)) ∧ Below w.heap.size w w') := by
  have Hweb := Lib.hid hweb
  have Hcw := Lib.hid hcw
  have Hca := Lib.hid hca
  clear hweb
  rcases Nat.lt_or_ge n len with hlt | hge
  · have Hof := Lib.hid (show ofL len zs n = ((zs n).take 10).map atN by unfold ofL; rw [if_pos hlt])
    obtain ⟨ad, u, hA1, hadb, hu, hcl⟩ := Hweb.out.out.at_ hlt
    subst hA1
    obtain rfl : u = .slice (A n) (L n) (C n) := by simpa [hlt] using hu.symm
    obtain ⟨hrow, hzl, hLb⟩ := Hweb.out.row n hlt
    generalize A n = A2 at hcl hrow
    generalize L n = L2 at hcl hrow hzl hLb
    generalize C n = C2 at hcl
    generalize zs n = z2 at hrow hzl Hof
    have Hrow := Lib.hid hrow
    have Hzl := Lib.hid hzl
    have Hcl := Lib.hid hcl
    clear hu hrow hzl
    go_enter Try.func14, Try.ntmps14
    go_wp2_with fail
    go_loopw [5, 6] (fun v5 v6 wr => ∃ (A1 : Option Addr) (n1 c1 i : Nat), v5 = .slice A1 n1 c1 ∧ v6 = .int .i64 (i : Int) ∧ i ≤ L2 ∧ i ≤ 10 ∧ n1 ≤ 10 ∧ Hid (n1 = i) ∧ Hid (Sp w wr (.slice A1 n1 c1) n1 (((z2.take i).map atN).map Int.ofNat) (.slice none 0 0) 0 []))
      (fun _ v6 _ => 10 - (intOf v6).toNat)
    case atStart => exact ⟨none, 0, 0, 0, rfl, rfl, Nat.zero_le _, by omega, by omega, Lib.hid rfl, Lib.hid ⟨⟨by simp [Zs], .inl ⟨rfl, rfl⟩⟩, ⟨by simp [Zs], .inl ⟨rfl, rfl⟩⟩, (fun b e => by cases e), Below.refl _ _⟩⟩
    case round =>
      obtain ⟨A1, n1, c1, i, rfl, rfl, hiL, hi10, hn10, hni, hsp⟩ := hrel
      have k1 : wr.cell? ⟨bw, 0, none⟩ = some (.slice (some ad) len c0) := (hsp.out.bel.cell (p := (⟨bw, 0, none⟩ : Addr)) hlw).trans Hcw.out
      have k2 : wr.cell? ⟨ba, 0, none⟩ = some (.func (.func 13) #[] #[]) := (hsp.out.bel.cell (p := (⟨ba, 0, none⟩ : Addr)) hla).trans Hca.out
      have k3 : wr.cell? (ad.add n) = some (.slice A2 L2 C2) := (hsp.out.bel.cell (by rw [block_of_add]; omega)).trans Hcl.out
      rcases Nat.lt_or_ge i L2 with hl1 | hg1
      · rcases Nat.lt_or_ge i 10 with hl2 | hg2
        · have hlx : i < z2.length := by rw [Hzl.out]; exact hl1
          obtain ⟨ad2, u, hA2, hadb2, hu, hcl2⟩ := Hrow.out.at_ hl1
          subst hA2
          rw [Zs_get _ _ hlx, Option.some.injEq] at hu
          subst hu
          have htk := Lib.hid (List.take_succ_eq_append_getElem hlx)
          have k4 : wr.cell? (ad2.add i) = some (.int .i64 z2[i]) := (hsp.out.bel.cell (by rw [block_of_add]; omega)).trans hcl2
          have hc2 := hcl2
          generalize z2[i] = z at k4 htk hc2
          have Hc2 := Lib.hid hc2
          clear hc2
          have hwi := wrap_small (z := (i : Int) + 1) (by omega) (by omega)
          clear hcl2 hlx
          go_upto_region 6 with fail
          go_region_held3 (fun w' => w'.cell? ⟨ba, 0, none⟩ = some (.func (.func 13) #[] #[]) ∧ w'.cell? ⟨bw, 0, none⟩ = some (.slice (some ad) len c0) ∧ w'.cell? (ad.add n) = some (.slice (some ad2) L2 C2) ∧ w'.cell? (ad2.add i) = some (.int .i64 z)) (first | assumption | exact ⟨by assumption, by assumption, by assumption, by assumption⟩ | (simp [*, World.cell?_alloc_some]; done)) (first
            | (go_at_call 13; refine (at_any _ _).mono ?_; rintro e w6 ⟨rfl, rfl⟩)
            | (rw [if_pos (by rfl)]; refine wp_push (w0 := w) (v := .slice A1 n1 c1) (n := n1) (x := ((z2.take i).map atN).map Int.ofNat) (v' := .slice none 0 0) (n' := 0) (x' := []) (.tmp 28) (.tmp 38) rfl rfl ((hsp.out.alloc _).drew) (by omega) (wr.heap.size + 1) (some ⟨wr.heap.size, 0, none⟩) 1 rfl (news := [(atN z : Int)]) ((one_reads wr (atN z : Int) 3 rfl).drew) (by omega) ?_; intro A6 c6 w6 hsp6; have d1 : w6.cell? ⟨bw, 0, none⟩ = some (.slice (some ad) len c0) := (hsp6.bel.cell (p := (⟨bw, 0, none⟩ : Addr)) hlw).trans Hcw.out; have d2 : w6.cell? ⟨ba, 0, none⟩ = some (.func (.func 13) #[] #[]) := (hsp6.bel.cell (p := (⟨ba, 0, none⟩ : Addr)) hla).trans Hca.out; have d3 : w6.cell? (ad.add n) = some (.slice (some ad2) L2 C2) := (hsp6.bel.cell (by rw [block_of_add]; omega)).trans Hcl.out; have d4 : w6.cell? (ad2.add i) = some (.int .i64 z) := (hsp6.bel.cell (by rw [block_of_add]; omega)).trans Hc2.out))
          rename_i hHeld
          clear hHeld
          have Hsp6 := Lib.hid hsp6
          clear hsp6
          go_wp2_with fail
          refine ⟨⟨A6, n1 + 1, c6, i + 1, by go_num, by go_num, by omega, by omega, by have := hni.out; omega, Lib.hid (by have := hni.out; omega), Lib.hid (by rw [htk.out]; simpa using Hsp6.out)⟩, ?_⟩
          show 10 - ((i : Int) + 1).toNat < 10 - ((i : Int)).toNat
          omega
        · have e : (z2.take i).map atN = ofL len zs n := by rw [Hof.out, show i = 10 by omega]
          have hsp2 := hsp.out
          rw [e] at hsp2
          have Hsp2 := Lib.hid hsp2
          clear hsp hsp2 e
          go_wp2_with fail
          go_ret
          have h1 := Hsp2.out.o1.1
          have hl : (ofL len zs n).length = n1 := by simpa [Zs] using h1
          rw [hl]
          exact ⟨A1, c1, by simp, Hsp2.out.o1, Hsp2.out.bel⟩
      · have e : (z2.take i).map atN = ofL len zs n := by rw [Hof.out, List.take_of_length_le (show z2.length ≤ i by rw [Hzl.out]; omega), List.take_of_length_le (show z2.length ≤ 10 by rw [Hzl.out]; omega)]
        have hsp2 := hsp.out
        rw [e] at hsp2
        have Hsp2 := Lib.hid hsp2
        clear hsp hsp2 e
        go_wp2_with fail
        go_ret
        have h1 := Hsp2.out.o1.1
        have hl : (ofL len zs n).length = n1 := by simpa [Zs] using h1
        rw [hl]
        exact ⟨A1, c1, by simp, Hsp2.out.o1, Hsp2.out.bel⟩
  · have hof : ofL len zs n = [] := by unfold ofL; rw [if_neg (by omega)]
    rw [hof]
    go_enter Try.func14, Try.ntmps14
    go_wp2_with fail
    go_ret
    exact ⟨none, 0, by simp, ⟨by simp [Zs], .inl ⟨rfl, rfl⟩⟩, Below.refl _ _⟩
end Go.Proofs.Ytogdmmjonojdfaa
