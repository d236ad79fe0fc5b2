/- Plain facts for FrameLong: what is told of a text of one long line and a short one; rows of texts. -/
import Derived.Test.YtmpiacoddifjiaaFrameP
namespace Go.Proofs.Ytmpiacoddifjiaa
open Go.RowKit
set_option linter.unusedVariables false
def pa (k : Nat) : Nat := 97 + k % 26
theorem pa_lt (k : Nat) : pa k < 256 := by unfold pa; omega
def nx4 : List Nat := [110, 101, 120, 116]
def body (n : Nat) (cr : Bool) : List Nat := if cr then rowF pa n ++ [13] else rowF pa n
def txt (n : Nat) (cr : Bool) : List Nat := body n cr ++ 10 :: (nx4 ++ [10])
def evn (n : Nat) : Option (List Nat) := if 256 < n then none else some (rowF pa n)
theorem rowF_mem {f : Nat → Nat} {n x : Nat} (h : x ∈ rowF f n) : ∃ k, x = f k := by
  obtain ⟨k, _, rfl⟩ := List.mem_map.1 h
  exact ⟨k, rfl⟩
theorem body_no10 (n : Nat) (cr : Bool) : ∀ x ∈ body n cr, x ≠ 10 := by
  intro x hx
  unfold body at hx
  have key : ∀ x ∈ rowF pa n, x ≠ 10 := by
    intro x hx
    obtain ⟨k, rfl⟩ := rowF_mem hx
    unfold pa; omega
  split at hx
  · rcases List.mem_append.1 hx with h | h
    · exact key x h
    · rw [List.mem_singleton] at h; omega
  · exact key x hx
theorem has13_row (n : Nat) : has13 (rowF pa n) = false := by
  unfold has13 rowF
  cases n with
  | zero => rfl
  | succ k =>
    rw [List.range_succ, List.map_append]
    simp [pa]
    omega
theorem trim_body (n : Nat) (cr : Bool) : trim (body n cr) = rowF pa n := by
  unfold body trim
  cases cr
  · simp [has13_row]
  · have : has13 (rowF pa n ++ [13]) = true := by simp [has13]
    simp [this]
theorem ev_body (n : Nat) (cr : Bool) : ev (body n cr) = evn n := by
  unfold ev evn
  rw [trim_body, rowF_length]
theorem ev_nx : ev nx4 = some nx4 := by decide
theorem txt_run (n : Nat) (cr : Bool) : runE ([], false) (txt n cr) = [evn n, some nx4] ∧ runS ([], false) (txt n cr) = ([], false) := by
  unfold txt
  have h1 := run_line (m := body n cr) (r := nx4 ++ [10]) (body_no10 n cr)
  have h2 := run_line (m := nx4) (r := []) (by decide)
  rw [h1.1, h1.2, ev_body, h2.1, h2.2, ev_nx]
  exact ⟨rfl, rfl⟩
theorem txt_lt (n : Nat) (cr : Bool) : ∀ i, (txt n cr).getD i 0 < 256 := by
  have h1 : ∀ i, (body n cr).getD i 0 < 256 := by
    unfold body
    split
    · exact getD_append_lt (rowF_lt pa_lt n) (one_lt (by decide))
    · exact rowF_lt pa_lt n
  have h2 : ∀ i, (10 :: (nx4 ++ [10])).getD i 0 < 256 := by
    intro i
    match i with
    | 0 => decide
    | 1 => decide
    | 2 => decide
    | 3 => decide
    | 4 => decide
    | 5 => decide
    | i + 6 => simp [nx4]
  exact getD_append_lt h1 h2
theorem txt_len (n : Nat) (cr : Bool) : (txt n cr).length ≤ n + 7 := by
  unfold txt body
  split <;> simp [rowF_length, nx4]
theorem txt_str (n : Nat) (cr : Bool) : strB (txt n cr) = strB (body n cr) ++ ⟨#[10, 110, 101, 120, 116, 10]⟩ := by
  have e : (⟨#[10, 110, 101, 120, 116, 10]⟩ : ByteArray) = strB (10 :: (nx4 ++ [10])) := by decide
  rw [e, strB_append]; rfl
theorem body_str (n : Nat) : strB (body n true) = strB (rowF pa n) ++ ⟨#[13]⟩ := by
  have e : (⟨#[13]⟩ : ByteArray) = strB [13] := by decide
  rw [e, strB_append]; rfl
/-- How many too long lines are told, and the row of those that are not. -/
def cnt : List (Option (List Nat)) → Nat
  | [] => 0
  | none :: l => cnt l + 1
  | some _ :: l => cnt l
def lv : List (Option (List Nat)) → List Value
  | [] => []
  | none :: l => lv l
  | some m :: l => .string (strB m) :: lv l
theorem cnt_lv (E : List (Option (List Nat))) : cnt E + (lv E).length = E.length := by
  induction E with
  | nil => rfl
  | cons x E ih => cases x <;> simp [cnt, lv] <;> omega
theorem cnt_none (E : List (Option (List Nat))) : cnt (E ++ [none]) = cnt E + 1 := by
  induction E with
  | nil => rfl
  | cons x E ih => cases x <;> simp [cnt, ih]
theorem cnt_some (E : List (Option (List Nat))) (m : List Nat) : cnt (E ++ [some m]) = cnt E := by
  induction E with
  | nil => rfl
  | cons x E ih => cases x <;> simp [cnt, ih]
theorem lv_none (E : List (Option (List Nat))) : lv (E ++ [none]) = lv E := by
  induction E with
  | nil => rfl
  | cons x E ih => cases x <;> simp [lv, ih]
theorem lv_some (E : List (Option (List Nat))) (m : List Nat) : lv (E ++ [some m]) = lv E ++ [.string (strB m)] := by
  induction E with
  | nil => rfl
  | cons x E ih => cases x <;> simp [lv, ih]
theorem auE_len (st : List Nat × Bool) (c : Nat) : (auE st c).length ≤ 1 := by unfold auE; (repeat' split) <;> simp
theorem runE_len (l : List Nat) (st : List Nat × Bool) : (runE st l).length ≤ l.length := by
  induction l generalizing st with
  | nil => simp [runE]
  | cons c l ih =>
    have h1 := ih (auS st c)
    have h2 := auE_len st c
    show (auE st c ++ runE (auS st c) l).length ≤ _
    simp; omega
theorem info9 : (Try.prog.info? 9).map (fun i => (i.zero, i.size, i.bytes)) = some (some (.string ⟨#[]⟩), 1, 16) := by kernel_rfl
def lenOf : Value → Nat | .slice _ n _ => n | _ => 0
theorem slice_str (T : ByteArray) (a j : Nat) (W : World) (h1 : a + j ≤ T.size) : (Instr.slice 9 (.string T) (some (.int .i64 (a : Int))) (some (.int .i64 ((a : Int) + (j : Int)))) none).run Try.prog W = .ok (.string (T.extract a (a + j))) W := by
  have e := run_slice_string (P := Try.prog) W 9 T .i64 .i64 (a : Int) ((a : Int) + (j : Int)) Try.underlying9 (by omega) (by omega) (by omega)
  rw [e]
  have e2 : ((a : Int) + (j : Int)).toNat = a + j := by omega
  rw [e2]
  rfl
theorem strB_cut (l : List Nat) (a j : Nat) : (strB l).extract a (a + j) = strB ((l.drop a).take j) := by
  apply ByteArray.ext
  rw [ByteArray.data_extract]
  apply Array.ext'
  simp [strB, List.map_take, List.map_drop]
theorem conv_str (s : ByteArray) (W : World) : (convert 9 26 (.string s)).run Try.prog W = .ok (.slice (some ⟨W.heap.size, 0, none⟩) s.size (grownCap W s.size 0 5))
      (W.drew.alloc (.cells (bytesRow s (grownCap W s.size 0 5)) 5 ((bytesRow s (grownCap W s.size 0 5)).size, (bytesRow s (grownCap W s.size 0 5)).size + 1))) :=
  run_bytes_of_string W 9 26 5 s Try.underlying9 Try.underlying26 Try.underlying5
theorem fillA_cell (f : Nat → Nat) (n k i : Nat) (hi : i < n) : (fillA f n k)[i]? = some (.int .u8 ((if i < k then f i else 0 : Nat) : Int)) := by
  unfold fillA
  rw [List.getElem?_toArray, Ints_get _ _ _ (by simp [hi])]
  simp [List.getD, hi]
theorem one_reads (w : World) (e : TypeId) (v : Value) : Reads (w.alloc (.cells #[v] e)) (w.heap.size + 1) 1 (some ⟨w.heap.size, 0, none⟩) 1 [v] := by
  refine ⟨rfl, fun _ => ⟨_, rfl, by simp, fun j u hu => ?_⟩⟩
  have hj : j = 0 := by have := (List.getElem?_eq_some_iff.1 hu).1; simpa using this
  subst hj
  have h := (Blk.new w e #[v]).cell 0
  exact h.trans hu
theorem add_0 (ad : Addr) : ad.add 0 = ad := by cases ad with | mk b o s => cases s <;> rfl
theorem own_cells {w : World} {B e n c : Nat} {A : Option Addr} {xs : List Value} (h : w.ownsRow B e 1 (.slice A n c) n xs) (hn : 0 < n) : ∃ g, A = some ⟨g, 0, none⟩ ∧ ∀ j u, xs[j]? = some u → w.cell? ⟨g, j, none⟩ = some u := by
  have hc := fun g => World.ownsRow.cells h (g := g)
  rcases h.2 with ⟨_, h2⟩ | ⟨g, cap, cur, hv, _⟩
  · omega
  · injection hv with h1 h2 h3
    subst h1
    refine ⟨g, rfl, fun j u hu => ?_⟩
    have := hc g rfl j u hu
    rwa [addr_row] at this
theorem tmod600 (n : Int) : -600 < Int.tmod n 600 ∧ Int.tmod n 600 < 600 := by
  have h1 := Int.tmod_lt_of_pos n (show (0 : Int) < 600 by decide)
  have h2 := Int.lt_tmod_of_pos n (show (0 : Int) < 600 by decide)
  exact ⟨h2, h1⟩
end Go.Proofs.Ytmpiacoddifjiaa
