/- The walks of Feed and of bytes.TrimSuffix. -/
import Derived.Test.YtmpiacoddifjiaaFrameB
namespace Go.Proofs.Ytmpiacoddifjiaa
open Go.RowKit
set_option linter.unusedVariables false

def FdPost (B G : Nat) (l : List Nat) (s : Nat) (b : Bool) (w : World) (e : Ending) (w' : World) : Prop :=
  e = .returned (.tuple #[]) ∧ Frm w' B G (stl l s b) (stn l s b) (stb l b) ∧ Below B w w'
theorem feed_fin {B G : Nat} {l m : List Nat} {s : Nat} {b : Bool} {w w1 : World} {A A1 : Option Addr} {n c n1 c1 : Nat} (hB : B ≤ w.heap.size) (hBG : B ≤ G)
    (hblk : Blk w G 46 #[.slice A n c, .int .i64 (s : Int), .bool b]) (hown : w.ownsRow B 5 1 (.slice A n c) n (Ints .u8 l))
    (hown1 : w1.ownsRow B 5 1 (.slice A1 n1 c1) n1 (Ints .u8 m)) (hg : w.grownBy w1 (Value.slice A n c).ownBlock) :
    w1.cell? ⟨G, 0, none⟩ = some (.slice A n c) ∧ w1.frozen? ⟨G, 0, none⟩ = false ∧ (Frm (w1.setCell ⟨G, 0, none⟩ (.slice A1 n1 c1)) B G m s b ∧ Below B w (w1.setCell ⟨G, 0, none⟩ (.slice A1 n1 c1))) := by
  have hne := own_blk_ne hown hblk (by decide)
  have hb1 := hblk.grown hg (fun e => hne e.symm)
  have hbel : Below B w w1 := (Below.refl B w).grown hg hB (fun q hq => (hown.lt q hq).1)
  refine ⟨by rw [hb1.cell]; rfl, hb1.frozen 0, ⟨hBG, A1, n1, c1, ?_, ?_, ?_⟩, hbel.setCell hBG _⟩
  · have := hown1.1
    rw [Ints_length] at this
    omega
  · exact hb1.set_ 0 (.slice A1 n1 c1)
  · exact own_far hown1 hb1 (by decide) _ _
theorem Ints_app {w : World} {B : Nat} {e : TypeId} {v : Value} {n : Nat} {k : IntKind} {l m : List Nat} (h : w.ownsRow B e 1 v n (Ints k l ++ Ints k m)) : w.ownsRow B e 1 v n (Ints k (l ++ m)) := by
  have e1 : Ints k l ++ Ints k m = Ints k (l ++ m) := by simp [Ints]
  rw [← e1]; exact h
theorem getD_append_lt {l m : List Nat} (hl : ∀ i, l.getD i 0 < 256) (hm : ∀ i, m.getD i 0 < 256) : ∀ i, (l ++ m).getD i 0 < 256 := by
  intro i
  rcases Nat.lt_or_ge i l.length with h | h
  · have := hl i
    simp only [List.getD] at *
    rw [List.getElem?_append_left h]
    exact this
  · have := hm (i - l.length)
    simp only [List.getD] at *
    rw [List.getElem?_append_right h]
    exact this
set_option maxRecDepth 100000 in
set_option maxHeartbeats 2000000 in
theorem feed_any (B G : Nat) (l m : List Nat) (s : Nat) (b : Bool) (S : Option Addr) (k sc : Nat) (w : World) (hb : ∀ i, l.getD i 0 < 256) (hbm : ∀ i, m.getD i 0 < 256) (hl : l.length + k ≤ 10000000) (hs : s ≤ 9223372036854775807) (hB : B ≤ w.heap.size)
    (hf : Frm w B G l s b) (hr : Reads w w.heap.size 1 S k (Ints .u8 m)) :
    Calls Try.prog 11 #[.pointer (some ⟨G, 0, none⟩), .slice S k sc] w (FdPost B G (l ++ m) s b w) := by
  obtain ⟨i0, hi, hz0, hz1, hz2⟩ := info_parts info5
  have hmk : m.length = k := by have := hr.1; rw [Ints_length] at this; omega
  obtain ⟨hBG, A, n, c, hn, hblk, hown⟩ := hf
  subst hn
  have h0 := hblk.cell 0
  simp only [List.getElem?_toArray, List.getElem?_cons_zero] at h0
  have Hblk := Lib.hid hblk
  clear hblk
  go_enter Try.func11, Try.ntmps11
  go_wp2_with (at_builtin; refine wpList_append_any _ rfl (.tmp 8) (.tmp 9) 26 rfl B 5 i0 (.int .u8 0) 1 1 Try.underlying26 hi hz0 hz1 hz2 rfl (by decide) _ l.length (Ints .u8 l) rfl hown w.heap.size S k sc (Ints .u8 m) rfl hr (Ints_one _ _) (by unfold maxLen; omega) (by omega) hB ?_; intro v' w1 hown1 hgrow1 hat; obtain ⟨A1, c1, rfl⟩ := own_shape hown1; obtain ⟨g1, g2, fin⟩ := feed_fin hB hBG Hblk.out hown (Ints_app hown1) hgrow1; have Hfin := Lib.hid fin; clear hown1 hgrow1 hat fin)
  have hl2 : (l ++ m).length ≤ 10000000 := by rw [List.length_append]; omega
  generalize hW : w1.setCell ⟨G, 0, none⟩ (.slice A1 (l.length + k) c1) = w2 at *
  clear hW g1 g2
  have hsz := Hfin.out.2.size
  refine (settle_any B G (l ++ m) s b w2 (getD_append_lt hb hbm) hl2 hs (by omega) Hfin.out.1).mono ?_
  rintro e w3 ⟨rfl, hf3, hb3⟩
  have Hf3 := Lib.hid hf3
  have Hb3 := Lib.hid (Hfin.out.2.trans hb3)
  clear hf3 hb3
  go_wp2_with fail
  go_end0
  exact ⟨rfl, Hf3.out, Hb3.out⟩

set_option maxRecDepth 100000 in
set_option maxHeartbeats 1000000 in
theorem equal_any (A S : Option Addr) (n c m d : Nat) (l r : List Nat) (w : World) (hb : ∀ i, l.getD i 0 < 256) (hbr : ∀ i, r.getD i 0 < 256) (ha : Reads w w.heap.size 1 A n (Ints .u8 l)) (hs : Reads w w.heap.size 1 S m (Ints .u8 r)) :
    Calls Try.prog 25 #[.slice A n c, .slice S m d] w fun e w' => e = .returned (.bool ((strB l).toList == (strB r).toList)) ∧ w = w' := by
  have c1 := conv_reads (P := Try.prog) 26 5 9 Try.underlying26 Try.underlying5 Try.underlying9 l c ha hb
  have c2 := conv_reads (P := Try.prog) 26 5 9 Try.underlying26 Try.underlying5 Try.underlying9 r d hs hbr
  clear ha hs
  go_enter Try.func25, Try.ntmps25
  go_wp2_with fail
  go_ret
  exact ⟨rfl, rfl⟩
theorem one_lt {x : Nat} (hx : x < 256) : ∀ i, [x].getD i 0 < 256 := by
  intro i
  match i with
  | 0 => exact hx
  | i + 1 => simp
theorem one_eq (x : Nat) (hx : x < 256) : ((strB [x]).toList == (strB [13]).toList) = (x == 13) := by
  rw [Lib.toList_data, Lib.toList_data]
  simp only [strB, List.map_cons, List.map_nil]
  by_cases h : x = 13
  · subst h; simp
  · have h1 : (x == 13) = false := by rw [beq_eq_false_iff_ne]; exact h
    rw [h1, beq_eq_false_iff_ne]
    intro e
    have e2 : UInt8.ofNat x = UInt8.ofNat 13 := by injection e
    have := congrArg UInt8.toNat e2
    rw [UInt8.toNat_ofNat', UInt8.toNat_ofNat'] at this
    omega
def has13 (l : List Nat) : Bool := l.getLast? == some 13
def trim (l : List Nat) : List Nat := if has13 l then l.dropLast else l
set_option maxRecDepth 100000 in
set_option maxHeartbeats 1000000 in
theorem suffix_any (A S : Option Addr) (n c d : Nat) (l : List Nat) (w : World) (hl : l.length = n) (hn : n ≤ 10000000) (hcap : n ≤ c) (hcm : c ≤ maxLen) (hb : ∀ i, l.getD i 0 < 256) (ha : Reads w w.heap.size 1 A n (Ints .u8 l)) (hs : Reads w w.heap.size 1 S 1 (Ints .u8 [13])) :
    Calls Try.prog 23 #[.slice A n c, .slice S 1 d] w fun e w' => e = .returned (.bool (has13 l)) ∧ w = w' := by
  unfold maxLen at hcm
  by_cases h0 : n = 0
  · subst h0
    have hl0 := List.eq_nil_of_length_eq_zero hl
    subst hl0
    clear ha hs
    go_enter Try.func23, Try.ntmps23
    go_wp2_with fail
    go_ret
    exact ⟨rfl, rfl⟩
  · obtain ⟨ad, rfl, _, _⟩ := ha.2 (by omega)
    have hcut := ha.cut (show n - 1 ≤ n by omega) hcap
    rw [if_neg (by omega), Option.map_some, Nat.mul_one] at hcut
    have e1 : (Ints .u8 l).drop (n - 1) = Ints .u8 [l.getD (n - 1) 0] := by
      have : l.drop (n - 1) = [l.getD (n - 1) 0] := by
        rw [List.drop_eq_getElem_cons (by omega), List.drop_of_length_le (by omega)]
        simp [List.getD, show n - 1 < l.length by omega]
      simp only [Ints, ← List.map_drop, this]
    rw [e1] at hcut
    have Hcut := Lib.hid hcut
    have Hs := Lib.hid hs
    have hx := hb (n - 1)
    have hlast : l.getLast? = some (l.getD (n - 1) 0) := by
      rw [List.getLast?_eq_getElem?, hl]
      simp [List.getD, show n - 1 < l.length by omega]
    have n1 : (1 : Int) ≤ (n : Int) := by omega
    clear hcut e1 hs ha
    go_enter Try.func23, Try.ntmps23
    go_wp2_with fail
    refine (equal_any _ S (n - (n - 1)) _ 1 d [l.getD (n - 1) 0] [13] w (one_lt hx) (one_lt (by decide)) Hcut.out Hs.out).mono ?_
    rw [one_eq _ hx]
    rintro e w1 ⟨rfl, rfl⟩
    go_wp2_with fail
    go_ret
    exact ⟨congrArg (fun b => Ending.returned (.bool b)) (by unfold has13; rw [hlast]; simp), rfl⟩
theorem has13_pos {l : List Nat} (h : has13 l = true) : 1 ≤ l.length := by
  rcases l with _ | ⟨x, l⟩
  · cases h
  · simp
theorem trim_len (l : List Nat) : (trim l).length = if has13 l then l.length - 1 else l.length := by
  unfold trim; split <;> simp
set_option maxRecDepth 100000 in
set_option maxHeartbeats 1000000 in
theorem trim_any (A S : Option Addr) (n c d : Nat) (l : List Nat) (w : World) (hl : l.length = n) (hn : n ≤ 10000000) (hcap : n ≤ c) (hcm : c ≤ maxLen) (hb : ∀ i, l.getD i 0 < 256) (ha : Reads w w.heap.size 1 A n (Ints .u8 l)) (hs : Reads w w.heap.size 1 S 1 (Ints .u8 [13])) :
    Calls Try.prog 18 #[.slice A n c, .slice S 1 d] w fun e w' => e = .returned (.slice A (trim l).length c) ∧ w = w' := by
  have Ha := Lib.hid ha
  have Hs := Lib.hid hs
  have hcm2 := hcm
  unfold maxLen at hcm2
  clear ha hs
  cases h13 : has13 l
  · have ht : (trim l).length = n := by rw [trim_len, h13]; exact hl
    have Ht := Lib.hid ht
    clear ht
    go_enter Try.func18, Try.ntmps18
    go_wp2_with fail
    refine (suffix_any A S n c d l w hl hn hcap hcm hb Ha.out Hs.out).mono ?_
    rw [h13]
    rintro e w1 ⟨rfl, rfl⟩
    go_wp2_with fail
    go_ret
    exact ⟨by rw [Ht.out]; rfl, rfl⟩
  · have hp := has13_pos h13
    have ht : (trim l).length = n - 1 := by rw [trim_len, h13, ← hl]; rfl
    have Ht := Lib.hid ht
    have n1 : (1 : Int) ≤ (n : Int) := by omega
    clear ht
    go_enter Try.func18, Try.ntmps18
    go_wp2_with fail
    refine (suffix_any A S n c d l w hl hn hcap hcm hb Ha.out Hs.out).mono ?_
    rw [h13]
    rintro e w1 ⟨rfl, rfl⟩
    go_wp2_with fail
    go_ret
    exact ⟨by rw [Ht.out]; rfl, rfl⟩
end Go.Proofs.Ytmpiacoddifjiaa
