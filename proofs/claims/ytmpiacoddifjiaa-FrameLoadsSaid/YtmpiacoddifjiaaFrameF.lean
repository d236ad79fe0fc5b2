/- Texts as lists of bytes; masks; strings put together and made into bytes. -/
import Derived.Test.YtmpiacoddifjiaaFrameE
namespace Go.Proofs.Ytmpiacoddifjiaa
open Go.RowKit
set_option linter.unusedVariables false
def nats (s : ByteArray) : List Nat := s.data.toList.map UInt8.toNat
theorem strB_nats (s : ByteArray) : strB (nats s) = s := by
  apply ByteArray.ext
  simp only [strB, nats, List.map_map]
  apply Array.ext'
  simp only []
  rw [List.map_congr_left (g := id) (fun x _ => by simp)]
  simp
theorem nats_lt (s : ByteArray) : ∀ i, (nats s).getD i 0 < 256 := by
  intro i
  rcases Nat.lt_or_ge i (nats s).length with h | h
  · have : (nats s)[i] ∈ nats s := List.getElem_mem h
    obtain ⟨b, _, hb⟩ := List.mem_map.1 this
    have := b.toNat_lt
    simp only [List.getD, List.getElem?_eq_getElem h, Option.getD_some, ← hb]
    omega
  · simp [List.getD, List.getElem?_eq_none h]
theorem nats_length (s : ByteArray) : (nats s).length = s.size := by
  show (s.data.toList.map UInt8.toNat).length = s.data.size
  rw [List.length_map, Array.length_toList]
theorem strB_dsize (l : List Nat) : (strB l).data.size = l.length := by simp [strB]
theorem strB_append (l m : List Nat) : strB l ++ strB m = strB (l ++ m) := by
  apply ByteArray.ext
  rw [ByteArray.data_append]
  unfold strB
  simp only [List.map_append]
  exact List.append_toArray _ _
theorem strB_byte (l : List Nat) (hb : ∀ i, l.getD i 0 < 256) (k : Nat) (h : k < (strB l).size) : ((strB l)[k]).toNat = l.getD k 0 := by
  have h' : k < l.length := by rw [strB_size] at h; exact h
  have e : (strB l)[k] = UInt8.ofNat (l.getD k 0) := by
    show (strB l).data[k] = _
    simp [strB, List.getD, h']
  rw [e]
  have := hb k
  rw [UInt8.toNat_ofNat']
  omega
theorem ofInt_i64 (a : Nat) (ha : a < 9223372036854775808) : (BitVec.ofInt 64 (a : Int)).toNat = a := by
  rw [BitVec.ofInt_natCast, BitVec.toNat_ofNat]; exact Nat.mod_eq_of_lt (by omega)
theorem mask (n : Int) (m : Nat) (hm : m < 9223372036854775808) : ∃ N : Nat, N ≤ m ∧ bits .and .i64 n (m : Int) = (N : Int) := by
  refine ⟨(BitVec.ofInt 64 n).toNat &&& m, Nat.and_le_right, ?_⟩
  have hx : (BitVec.ofInt 64 n).toNat &&& m ≤ m := Nat.and_le_right
  show IntKind.i64.wrap ((BitVec.ofInt 64 n &&& BitVec.ofInt 64 (m : Int)).toNat : Int) = _
  rw [BitVec.toNat_and, ofInt_i64 m hm, IntWalk.i64_in _ (by omega)]
/-- A text of bytes made into bytes: the new row reads as it. -/
theorem row_of_string (l : List Nat) (hb : ∀ i, l.getD i 0 < 256) (w : World) (e : TypeId) (cap : Nat) (fr : Nat × Nat) :
    Reads (w.alloc (.cells (bytesRow (strB l) cap) e fr)) (w.alloc (.cells (bytesRow (strB l) cap) e fr)).heap.size 1 (some ⟨w.heap.size, 0, none⟩) l.length (Ints .u8 l) := by
  refine ⟨by rw [Ints_length]; omega, fun _ => ⟨_, rfl, by simp, fun j u hu => ?_⟩⟩
  have hj : j < l.length := by have := (List.getElem?_eq_some_iff.1 hu).1; rwa [Ints_length] at this
  rw [addr_row, World.cell?_alloc_mark, bytesRow_at (strB l) _ j (by rw [strB_dsize]; exact hj)]
  have e1 := strB_byte l hb j (by rw [strB_size]; exact hj)
  have e2 : (strB l).data[j]'(by rw [strB_dsize]; exact hj) = (strB l)[j]'(by rw [strB_size]; exact hj) := rfl
  rw [e2, e1]
  rw [Ints_get _ _ _ hj] at hu
  exact hu
end Go.Proofs.Ytmpiacoddifjiaa
