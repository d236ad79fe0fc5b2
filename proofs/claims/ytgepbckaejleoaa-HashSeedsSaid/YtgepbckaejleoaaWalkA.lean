/- The walks of hash.Mix, hash.Of, hash.Prefix, of the document's Mix and Of, and of awake: each returns what the plain functions say. -/
import Derived.Test.YtgepbckaejleoaaRows
import Derived.Test.YtgepbckaejleoaaPlain
import Derived.WalkKit
import Derived.WalkLawsBesides
import Derived.Lib.Hide
namespace Go.Proofs.Ytgepbckaejleoaa
open Go.RowKit
set_option linter.unusedVariables false

theorem ret_u64 {a b : Int} (h : a = b) : Ending.returned (.int .u64 a) = .returned (.int .u64 b) := by rw [h]
theorem val_u64 {a b : Int} (h : a = b) : (Value.int .u64 a) = (.int .u64 b) := by rw [h]
theorem ms_word (x : Nat) (h : x < two64) : IntKind.u64.wrap (bits .xor .u64 (x : Int) ((x : Int) / 4294967296) * 15485907386658061715) = ((ms x : Nat) : Int) := by
  have := mixStep_u64 x 4294967296 oddN h
  exact this
theorem xs_word (x : Nat) (h : x < two64) : bits .xor .u64 (x : Int) ((x : Int) / 4294967296) = ((xs x : Nat) : Int) := xorShift_u64 x 4294967296 h

theorem fnv_word (h b : Nat) (hh : h < two64) (hb : b < two64) : IntKind.u64.wrap (bits .xor .u64 (h : Int) (b : Int) * 1099511628211) = ((fnv h b : Nat) : Int) := by
  rw [bits_xor_u64_nat h b hh hb, IntKind.wrap_u64]
  unfold fnv primeN two64
  omega
theorem seed_word (s k : Nat) (hs : s < two64) : bits .and .u64 ((s : Int) / 2 ^ (8 * k)) 255 = ((seedByte s k : Nat) : Int) := by
  have e : ((s : Int) / 2 ^ (8 * k)) = ((s / 2 ^ (8 * k) : Nat) : Int) := by
    rw [Int.natCast_ediv, Int.natCast_pow]; rfl
  rw [e]
  have := bits_and_u64_nat (s / 2 ^ (8 * k)) 255 (Nat.lt_of_le_of_lt (Nat.div_le_self _ _) hs) (by decide)
  rw [nat_mask8] at this
  exact this
theorem seedByte_lt (s k : Nat) : seedByte s k < two64 := Nat.lt_of_lt_of_le (Nat.mod_lt _ (by decide)) (by decide)
theorem byte_lt (c : UInt8) : c.toNat < two64 := Nat.lt_of_lt_of_le c.toNat_lt (by decide)
theorem byte_word (c : UInt8) : IntKind.u64.wrap (c.toNat : Int) = (c.toNat : Int) := IntWalk.u64_in _ (by have := c.toNat_lt; omega)
theorem take_snoc (s : ByteArray) (k : Nat) (h : k < s.size) : s.data.toList.take (k + 1) = s.data.toList.take k ++ [s[k]] := by
  rw [List.take_succ_eq_append_getElem (by simpa using h)]; rfl

set_option maxHeartbeats 400000 in
theorem mix_any (x : Nat) (h : x < two64) (w : World) :
    Calls Try.prog 11 #[.int .u64 (x : Int)] w fun e w' => e = .returned (.int .u64 (mix x : Nat)) ∧ w = w' := by
  have H := Lib.hid h
  clear h
  go_enter Try.func11, Try.ntmps11
  go_wp2
  go_loop [0, 3] (fun v i => ∃ k : Nat, k ≤ 2 ∧ i = .int .i64 k ∧ v = .int .u64 (msN k x : Nat)) (fun _ i => 2 - (intOf i).toNat)
  case atStart => exact ⟨0, by omega, rfl, rfl⟩
  case round =>
    obtain ⟨k, hk, rfl, rfl⟩ := hrel
    by_cases hlt : k < 2
    · go_wp2
      go_round
      case rel => exact ⟨k + 1, by omega, by go_num, val_u64 (ms_word _ (msN_lt k x H.out))⟩
      case measure => simp [intOf]; omega
    · go_wp2
      go_ret
      obtain rfl : k = 2 := by omega
      exact ⟨ret_u64 (xs_word _ (msN_lt 2 x H.out)), rfl⟩

set_option maxHeartbeats 400000 in
theorem rmix_any (x : Nat) (h : x < two64) (w : World) :
    Calls Try.prog 12 #[.int .u64 (x : Int)] w fun e w' => e = .returned (.int .u64 (mix x : Nat)) ∧ w = w' := by
  have H := Lib.hid h
  clear h
  go_enter Try.func12, Try.ntmps12
  go_wp2
  go_ret
  refine ⟨ret_u64 ?_, rfl⟩
  rw [ms_word _ H.out, ms_word _ (ms_lt _), xs_word _ (ms_lt _)]
  rfl

set_option maxHeartbeats 400000 in
theorem of_any (s : Nat) (key : ByteArray) (hs : s < two64) (hk : key.size ≤ maxLen) (w : World) :
    Calls Try.prog 8 #[.int .u64 (s : Int), .string key] w fun e w' => e = .returned (.int .u64 (ofN s key.data.toList : Nat)) ∧ w = w' := by
  unfold maxLen at hk
  have H := Lib.hid hs
  clear hs
  go_enter Try.func8, Try.ntmps8
  go_wp2
  go_loop [5, 8] (fun v i => ∃ k : Nat, k ≤ 8 ∧ i = .int .i64 k ∧ v = .int .u64 (seedH s k : Nat)) (fun _ i => 8 - (intOf i).toNat)
  case atStart => exact ⟨0, by omega, rfl, rfl⟩
  case round =>
    obtain ⟨k, hk8, rfl, rfl⟩ := hrel
    by_cases hlt : k < 8
    · go_wp2
      go_round
      case rel => exact ⟨k + 1, by omega, by go_num, val_u64 (by rw [seed_word s k H.out, fnv_word _ _ (seedH_lt s k) (seedByte_lt s k)]; rfl)⟩
      case measure => simp [intOf]; omega
    · go_wp2
      obtain rfl : k = 8 := by omega
      go_loop [5, 22] (fun v i => ∃ k : Nat, k ≤ key.size ∧ i = .int .i64 k ∧ v = .int .u64 (keyH (seedH s 8) (key.data.toList.take k) : Nat)) (fun _ i => key.size - (intOf i).toNat)
      case atStart => exact ⟨0, by omega, rfl, val_u64 (by rw [List.take_zero, keyH_nil])⟩
      case round =>
        obtain ⟨k, hkk, rfl, rfl⟩ := hrel
        by_cases hlt : k < key.size
        · have hts := Lib.hid (take_snoc key k hlt)
          go_wp2
          go_round
          case rel => exact ⟨k + 1, by omega, by go_num, val_u64 (by rw [hts.out, keyH_snoc, byte_word, ← fnv_word _ _ (keyH_lt _ _ (seedH_lt _ _)) (byte_lt _)])⟩
          case measure => simp [intOf]; omega
        · go_wp2_with (go_at_call 11; refine (mix_any _ (keyH_lt _ _ (seedH_lt s 8)) _).mono ?_; rintro e w' ⟨rfl, rfl⟩)
          go_ret
          exact ⟨ret_u64 (by rw [List.take_of_length_le (by simp; omega)]; unfold ofN; rfl), rfl⟩

set_option maxHeartbeats 400000 in
theorem rof_any (s : Nat) (key : ByteArray) (hs : s < two64) (hk : key.size ≤ maxLen) (w : World) :
    Calls Try.prog 9 #[.int .u64 (s : Int), .string key] w fun e w' => e = .returned (.int .u64 (ofN s key.data.toList : Nat)) ∧ w = w' := by
  unfold maxLen at hk
  have H := Lib.hid hs
  clear hs
  go_enter Try.func9, Try.ntmps9
  go_wp2
  go_loop [5, 6] (fun v i => ∃ k : Nat, k ≤ 8 ∧ i = .int .i64 k ∧ v = .int .u64 (seedH s k : Nat)) (fun _ i => 8 - (intOf i).toNat)
  case atStart => exact ⟨0, by omega, rfl, rfl⟩
  case round =>
    obtain ⟨k, hk8, rfl, rfl⟩ := hrel
    by_cases hlt : k < 8
    · go_wp2
      go_round
      case rel => exact ⟨k + 1, by omega, by go_num, val_u64 (by rw [seed_word s k H.out, fnv_word _ _ (seedH_lt s k) (seedByte_lt s k)]; rfl)⟩
      case measure => simp [intOf]; omega
    · go_wp2
      obtain rfl : k = 8 := by omega
      go_loop [5, 7] (fun v i => ∃ k : Nat, k ≤ key.size ∧ i = .int .i64 k ∧ v = .int .u64 (keyH (seedH s 8) (key.data.toList.take k) : Nat)) (fun _ i => key.size - (intOf i).toNat)
      case atStart => exact ⟨0, by omega, rfl, val_u64 (by rw [List.take_zero, keyH_nil])⟩
      case round =>
        obtain ⟨k, hkk, rfl, rfl⟩ := hrel
        by_cases hlt : k < key.size
        · have hts := Lib.hid (take_snoc key k hlt)
          go_wp2
          go_round
          case rel => exact ⟨k + 1, by omega, by go_num, val_u64 (by rw [hts.out, keyH_snoc, byte_word, ← fnv_word _ _ (keyH_lt _ _ (seedH_lt _ _)) (byte_lt _)])⟩
          case measure => simp [intOf]; omega
        · go_wp2_with (go_at_call 12; refine (rmix_any _ (keyH_lt _ _ (seedH_lt s 8)) _).mono ?_; rintro e w' ⟨rfl, rfl⟩)
          go_ret
          exact ⟨ret_u64 (by rw [List.take_of_length_le (by simp; omega)]; unfold ofN; rfl), rfl⟩


def pre (h d : Nat) : Nat := h / 2 ^ (64 - d)
theorem pre_lt (h d : Nat) (hh : h < two64) (hd : d ≤ 16) : pre h d < 2 ^ d := by
  unfold pre
  rw [Nat.div_lt_iff_lt_mul (Nat.two_pow_pos _), ← Nat.pow_add]
  have : d + (64 - d) = 64 := by omega
  rw [this]
  exact hh
theorem pre_small (h d : Nat) (hh : h < two64) (hd : d ≤ 16) : pre h d < 65536 :=
  Nat.lt_of_lt_of_le (pre_lt h d hh hd) (Nat.pow_le_pow_right (n := 2) (j := 16) (by decide) hd)
theorem ret_i64 {a b : Int} (h : a = b) : Ending.returned (.int .i64 a) = .returned (.int .i64 b) := by rw [h]
theorem pre_word (h d : Nat) (hh : h < two64) (hd : d ≤ 16) : wrap64 ((h : Int) / 2 ^ (64 - d)) = ((pre h d : Nat) : Int) := by
  have e : ((h : Int) / 2 ^ (64 - d)) = ((pre h d : Nat) : Int) := by
    unfold pre
    rw [Int.natCast_ediv, Int.natCast_pow]; rfl
  have := pre_small h d hh hd
  rw [e, IntWalk.wrap64_in _ (by omega)]
set_option maxHeartbeats 400000 in
theorem prefix_none (h : Nat) (d : Int) (hd : d < 1) (w : World) :
    Calls Try.prog 13 #[.int .u64 (h : Int), .int .i64 d] w fun e w' => e = .returned (.int .i64 0) ∧ w = w' := by
  go_enter Try.func13, Try.ntmps13
  go_wp2
  go_ret
  exact ⟨rfl, rfl⟩
set_option maxHeartbeats 400000 in
theorem prefix_some (h : Nat) (d : Int) (hh : h < two64) (hd : 1 ≤ d) (w : World) :
    Calls Try.prog 13 #[.int .u64 (h : Int), .int .i64 d] w fun e w' => e = .returned (.int .i64 (pre h (min d 16).toNat : Nat)) ∧ w = w' := by
  have H := Lib.hid hh
  clear hh
  by_cases h16 : d ≤ 16
  · go_enter Try.func13, Try.ntmps13
    go_wp2
    go_ret
    refine ⟨ret_i64 ?_, rfl⟩
    have e1 : (64 - d).toNat = 64 - (min d 16).toNat := by omega
    rw [e1]
    exact pre_word _ _ H.out (by omega)
  · go_enter Try.func13, Try.ntmps13
    go_wp2
    go_ret
    refine ⟨ret_i64 ?_, rfl⟩
    have e1 : (min d 16).toNat = 16 := by omega
    rw [e1]
    exact pre_word h 16 H.out (by omega)
theorem mix0 (w : World) : Calls Try.prog 11 #[.int .u64 0] w fun e w' => e = .returned (.int .u64 0) ∧ w = w' :=
  (mix_any 0 (by decide) w).mono fun e w' ⟨he, hw⟩ => ⟨he.trans (ret_u64 (by decide +kernel)), hw⟩
theorem prefix1 (w : World) : Calls Try.prog 13 #[.int .u64 9223372036854775808, .int .i64 1] w fun e w' => e = .returned (.int .i64 1) ∧ w = w' :=
  (prefix_some 9223372036854775808 1 (by decide) (by decide) w).mono fun e w' ⟨he, hw⟩ => ⟨he.trans (ret_i64 (by decide +kernel)), hw⟩
def of0 : Nat := ofN 0 []
theorem of0_ne : (((of0 : Nat) : Int) != 0) = true := by decide +kernel
theorem ofEmpty (w : World) : Calls Try.prog 8 #[.int .u64 0, .string ⟨#[]⟩] w fun e w' => e = .returned (.int .u64 (of0 : Nat)) ∧ w = w' :=
  of_any 0 ⟨#[]⟩ (by decide) (by decide) w
set_option maxRecDepth 100000 in
theorem awake_any (w : World) : Calls Try.prog 10 #[] w fun e w' => e = .returned (.bool true) ∧ w = w' := by
  have h0 := of0_ne
  go_enter Try.func10, Try.ntmps10
  go_wp2_with fail
  refine (mix0 _).mono ?_
  rintro e w' ⟨rfl, rfl⟩
  go_wp2_with fail
  refine (prefix1 _).mono ?_
  rintro e w' ⟨rfl, rfl⟩
  go_wp2_with fail
  refine (ofEmpty _).mono ?_
  rintro e w' ⟨rfl, rfl⟩
  go_wp2_with fail
  go_ret
  exact ⟨rfl, rfl⟩
end Go.Proofs.Ytgepbckaejleoaa
