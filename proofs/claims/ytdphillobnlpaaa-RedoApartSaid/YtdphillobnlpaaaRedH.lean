/- The contract of Told. -/
import Derived.Test.YtdphillobnlpaaaRedG
import Derived.Defers
import Derived.Recover
namespace Go.Proofs.Ytdphillobnlpaaa
open Go.RowKit
set_option linter.unusedVariables false

theorem assert_lost (v : Value) (W : World) : (Instr.typeAssert (.iface 74 v) 20 74 true).run Try.prog W = .ok (.tuple #[v, .bool true]) W := by
  simp [Instr.typeAssert, run_underlying Try.underlying74]
theorem assert_wrong (v : Value) (W : World) : (Instr.typeAssert (.iface 76 v) 20 76 true).run Try.prog W = .ok (.tuple #[v, .bool true]) W := by
  simp [Instr.typeAssert, run_underlying Try.underlying76]
theorem zero_lost (W : World) : (zeroValue 74).run Try.prog W = .ok (.agg #[]) W := by rfl
theorem assert_other (v : Value) (W : World) : (Instr.typeAssert (.iface 76 v) 20 74 true).run Try.prog W = .ok (.tuple #[.agg #[], .bool false]) W := by
  simp [Instr.typeAssert, run_underlying Try.underlying74, Result.andThen]
set_option maxHeartbeats 1000000 in
theorem caught_idle (p q : Addr) (w : World) :
    CallsD Try.prog 47 #[.pointer (some p), .pointer (some q)] .returning w fun e u' w' => e = .returned (.tuple #[]) ∧ u' = .returning ∧ w = w' := by
  refine callsD_of_wpS Try.func47 rfl fun c₀ cs hu => ?_
  simp only [Try.ntmps47, List.size_toArray, List.length_cons, List.length_nil, Nat.reduceAdd, Nat.reduceSub, Array.replicate_succ,
     Array.replicate_zero, List.push_toArray, List.append_toArray, List.nil_append, List.cons_append]
  apply wpS_seq
  apply wpS_region
  simp [wpOpsS, go_sem, recoverD, hu, Exit.thenS]
  refine wpS_of_wp ?_
  go_wp2_with fail
  cases c₀
  simp_all [bodyPostS, results, Try.results47]
set_option maxHeartbeats 1000000 in
theorem caught_lost (p q : Nat) (x : Value) (older : List PanicEntry) (w : World) (hp : Blk w p 3 #[x]) :
    CallsD Try.prog 47 #[.pointer (some ⟨p, 0, none⟩), .pointer (some ⟨q, 0, none⟩)] (.panicking ({ v := lostV, recovered := false } :: older)) w fun e u' w' =>
      e = .returned (.tuple #[]) ∧ u' = .panicking ({ v := lostV, recovered := true } :: older) ∧ Blk w' p 3 #[.int .i64 1] ∧ Mv (fun b => b = p) w w' := by
  unfold lostV
  have ha := fun W => assert_lost (.agg #[]) W
  have b1 : Blk (w.alloc (.cells #[] 74)) p 3 #[x] := hp.alloc _
  have c1 : (w.alloc (.cells #[] 74)).cell? ⟨p, 0, none⟩ = some x := (b1.cell 0).trans rfl
  have f1 := b1.frozen 0
  have B7 := Lib.hid (b1.set_ 0 (.int .i64 1))
  have M7 := Lib.hid (((Mv.refl (fun b => b = p) w).alloc (.cells #[] 74)).setCell (p := ⟨p, 0, none⟩) (fun _ => rfl) (.int .i64 1))
  clear b1 hp
  refine callsD_of_wpS Try.func47 rfl fun c₀ cs hu => ?_
  simp only [Try.ntmps47, List.size_toArray, List.length_cons, List.length_nil, Nat.reduceAdd, Nat.reduceSub, Array.replicate_succ,
     Array.replicate_zero, List.push_toArray, List.append_toArray, List.nil_append, List.cons_append]
  apply wpS_seq
  apply wpS_region
  simp [wpOpsS, go_sem, recoverD, hu, Exit.thenS]
  refine wpS_of_wp ?_
  go_wp2_with fail
  have h1 := B7.out
  have h2 := M7.out
  generalize (w.alloc (.cells #[] 74)).setCell ⟨p, 0, none⟩ (.int .i64 1) = W3 at h1 h2 ⊢
  cases c₀
  simp_all [bodyPostS, results, Try.results47]
set_option maxHeartbeats 1000000 in
theorem caught_wrong (p q : Nat) (x : Value) (i : Int) (older : List PanicEntry) (w : World) (hp : Blk w p 3 #[x]) (hq : Blk w q 3 #[.int .i64 i]) (hpq : q ≠ p) :
    CallsD Try.prog 47 #[.pointer (some ⟨p, 0, none⟩), .pointer (some ⟨q, 0, none⟩)] (.panicking ({ v := wrongV i, recovered := false } :: older)) w fun e u' w' =>
      e = .returned (.tuple #[]) ∧ u' = .panicking ({ v := wrongV i, recovered := true } :: older) ∧ Blk w' p 3 #[.int .i64 2] ∧ Mv (fun b => b = p) w w' := by
  unfold wrongV
  have ha := fun W => assert_wrong (.agg #[.int .i64 i]) W
  have hb := fun W => assert_other (.agg #[.int .i64 i]) W
  obtain ⟨W1, hW1⟩ : ∃ W1, W1 = w.alloc (.cells #[.int .i64 i] 76) := ⟨_, rfl⟩
  obtain ⟨W2, hW2⟩ : ∃ W2, W2 = W1.setCell ⟨p, 0, none⟩ (.int .i64 3) := ⟨_, rfl⟩
  have b1 : Blk W1 p 3 #[x] := by rw [hW1]; exact hp.alloc _
  have b2 : Blk W1 q 3 #[.int .i64 i] := by rw [hW1]; exact hq.alloc _
  have b3 : Blk W1 w.heap.size 76 #[.int .i64 i] := by rw [hW1]; exact Blk.new w _ _
  have b4 : Blk W2 p 3 #[.int .i64 3] := by rw [hW2]; exact b1.set_ 0 _
  have b5 : Blk W2 q 3 #[.int .i64 i] := by rw [hW2]; exact b2.far (p := ⟨p, 0, none⟩) hpq _
  have b6 : Blk W2 w.heap.size 76 #[.int .i64 i] := by rw [hW2]; exact b3.far (p := ⟨p, 0, none⟩) (by have := hp.lt; show w.heap.size ≠ p; omega) _
  have b7 : Blk (W2.setCell ⟨p, 0, none⟩ (.int .i64 2)) p 3 #[.int .i64 2] := b4.set_ 0 _
  have m7 : Mv (fun b => b = p) w (W2.setCell ⟨p, 0, none⟩ (.int .i64 2)) := by
    rw [hW2, hW1]
    exact (((Mv.refl (fun b => b = p) w).alloc _).setCell (p := ⟨p, 0, none⟩) (fun _ => rfl) _).setCell (p := ⟨p, 0, none⟩) (fun _ => rfl) _
  have c1 : W1.cell? ⟨p, 0, none⟩ = some x := (b1.cell 0).trans rfl
  have f1 := b1.frozen 0
  have c4 : W2.cell? ⟨p, 0, none⟩ = some (.int .i64 3) := (b4.cell 0).trans rfl
  have f4 := b4.frozen 0
  have c5 : W2.cell? ⟨q, 0, none⟩ = some (.int .i64 i) := (b5.cell 0).trans rfl
  have c6 : W2.cell? ⟨w.heap.size, 0, none⟩ = some (.int .i64 i) := (b6.cell 0).trans rfl
  have t1 : (i == i) = true := beq_self_eq_true _
  have B7 := Lib.hid b7
  have M7 := Lib.hid m7
  clear b1 b2 b3 b4 b5 b6 b7 m7 hp hq
  subst hW2
  subst hW1
  refine callsD_of_wpS Try.func47 rfl fun c₀ cs hu => ?_
  simp only [Try.ntmps47, List.size_toArray, List.length_cons, List.length_nil, Nat.reduceAdd, Nat.reduceSub, Array.replicate_succ,
     Array.replicate_zero, List.push_toArray, List.append_toArray, List.nil_append, List.cons_append]
  apply wpS_seq
  apply wpS_region
  simp [wpOpsS, go_sem, recoverD, hu, Exit.thenS]
  refine wpS_of_wp ?_
  go_wp2_with fail
  have h1 := B7.out
  have h2 := M7.out
  generalize ((w.alloc (.cells #[.int .i64 i] 76)).setCell ⟨p, 0, none⟩ (.int .i64 3)).setCell ⟨p, 0, none⟩ (.int .i64 2) = W3 at h1 h2 ⊢
  cases c₀
  simp_all [bodyPostS, results, Try.results47]
set_option maxHeartbeats 1000000 in
theorem told_ret (word : Int) (F : FuncId) (cap : Array Value) (w : World) (Q : World → Prop) (hcf : ∀ W, (callFunc F (cap)).run Try.prog W = .ok (.enter F cap) W)
    (h : Calls Try.prog F cap ((w.alloc (.cells #[.int .i64 word] 3)).alloc (.cells #[.int .i64 0] 3)) fun e w' => e = .returned (.tuple #[]) ∧ Q w' ∧ Blk w' w.heap.size 3 #[.int .i64 word] ∧ Blk w' (w.heap.size + 1) 3 #[.int .i64 0]) :
    Calls Try.prog 24 #[.int .i64 word, .func (.func F) #[] cap] w fun e w' => e = .returned (.int .i64 0) ∧ ∃ w1, Q w1 ∧ Mv (fun b => b = w.heap.size + 1) w1 w' := by
  have hmf : ∀ (fn : Fn) (first cap : Array Value) (w : World), (Instr.makeFunc fn first cap).run Try.prog w = .ok (.func fn first cap) w := fun _ _ _ _ => rfl
  have H := Lib.hid h
  clear h
  go_enter_defers Try.func24, Try.ntmps24
  go_wp2_with fail
  refine H.out.mono ?_
  rintro e w1 ⟨rfl, hQ, hB0, hB1⟩
  have HQ := Lib.hid hQ
  have HB0 := Lib.hid hB0
  have HB1 := Lib.hid hB1
  have c1 : w1.cell? ⟨w.heap.size + 1, 0, none⟩ = some (.int .i64 0) := (hB1.cell 0).trans rfl
  have f1 := hB1.frozen 0
  have c0 : w1.cell? ⟨w.heap.size, 0, none⟩ = some (.int .i64 word) := (hB0.cell 0).trans rfl
  clear hQ hB0 hB1 H
  simp only
  go_wp2_with fail
  refine leaves_cons (f := 47) (args := #[.pointer (some ⟨w.heap.size + 1, 0, none⟩), .pointer (some ⟨w.heap.size, 0, none⟩)]) (by simp) (by simp [go_sem]) ?_
  refine (caught_idle ⟨w.heap.size + 1, 0, none⟩ ⟨w.heap.size, 0, none⟩ _).mono ?_
  rintro e u' w'' ⟨rfl, rfl, rfl⟩
  have hx : (w1.setCell ⟨w.heap.size + 1, 0, none⟩ (.int .i64 0)).cell? ⟨w.heap.size + 1, 0, none⟩ = some (.int .i64 0) := ((HB1.out.set_ 0 (.int .i64 0)).cell 0).trans rfl
  have hm : Mv (fun b => b = w.heap.size + 1) w1 (w1.setCell ⟨w.heap.size + 1, 0, none⟩ (.int .i64 0)) := (Mv.refl (fun b => b = w.heap.size + 1) w1).setCell (p := ⟨w.heap.size + 1, 0, none⟩) (fun _ => rfl) _
  generalize w1.setCell ⟨w.heap.size + 1, 0, none⟩ (.int .i64 0) = w2 at hx hm ⊢
  simp [Leaves, settle, results, Try.results24, go_sem, hx]
  exact ⟨w1, HQ.out, hm⟩
set_option maxHeartbeats 1000000 in
theorem told_lost (word : Int) (F : FuncId) (cap : Array Value) (w : World) (Q : World → Prop) (hcf : ∀ W, (callFunc F (cap)).run Try.prog W = .ok (.enter F cap) W)
    (h : Calls Try.prog F cap ((w.alloc (.cells #[.int .i64 word] 3)).alloc (.cells #[.int .i64 0] 3)) fun e w' => Panics lostV e ∧ Q w' ∧ Blk w' w.heap.size 3 #[.int .i64 word] ∧ Blk w' (w.heap.size + 1) 3 #[.int .i64 0]) :
    Calls Try.prog 24 #[.int .i64 word, .func (.func F) #[] cap] w fun e w' => e = .returned (.int .i64 1) ∧ ∃ w1, Q w1 ∧ Mv (fun b => b = w.heap.size + 1) w1 w' := by
  have hmf : ∀ (fn : Fn) (first cap : Array Value) (w : World), (Instr.makeFunc fn first cap).run Try.prog w = .ok (.func fn first cap) w := fun _ _ _ _ => rfl
  have H := Lib.hid h
  clear h
  go_enter_defers Try.func24, Try.ntmps24
  go_wp2_with fail
  refine H.out.mono ?_
  rintro e w1 ⟨rfl, hQ, hB0, hB1⟩
  have HQ := Lib.hid hQ
  have HB0 := Lib.hid hB0
  have HB1 := Lib.hid hB1
  have c1 : w1.cell? ⟨w.heap.size + 1, 0, none⟩ = some (.int .i64 0) := (hB1.cell 0).trans rfl
  have f1 := hB1.frozen 0
  have c0 : w1.cell? ⟨w.heap.size, 0, none⟩ = some (.int .i64 word) := (hB0.cell 0).trans rfl
  clear hQ hB0 hB1 H
  simp only
  go_wp2_with fail
  refine leaves_cons (f := 47) (args := #[.pointer (some ⟨w.heap.size + 1, 0, none⟩), .pointer (some ⟨w.heap.size, 0, none⟩)]) (by simp) (by simp [go_sem]) ?_
  refine (caught_lost (w.heap.size + 1) w.heap.size _ [] _ HB1.out).mono ?_
  rintro e u' w2 ⟨rfl, rfl, hb2, hm2⟩
  have hx : w2.cell? ⟨w.heap.size + 1, 0, none⟩ = some (.int .i64 1) := (hb2.cell 0).trans rfl
  simp [Leaves, settle, results, Try.results24, go_sem, hx]
  exact ⟨w1, HQ.out, hm2⟩
set_option maxHeartbeats 1000000 in
theorem told_wrong (word : Int) (F : FuncId) (cap : Array Value) (w : World) (Q : World → Prop) (hcf : ∀ W, (callFunc F (cap)).run Try.prog W = .ok (.enter F cap) W)
    (h : Calls Try.prog F cap ((w.alloc (.cells #[.int .i64 word] 3)).alloc (.cells #[.int .i64 0] 3)) fun e w' => Panics (wrongV word) e ∧ Q w' ∧ Blk w' w.heap.size 3 #[.int .i64 word] ∧ Blk w' (w.heap.size + 1) 3 #[.int .i64 0]) :
    Calls Try.prog 24 #[.int .i64 word, .func (.func F) #[] cap] w fun e w' => e = .returned (.int .i64 2) ∧ ∃ w1, Q w1 ∧ Mv (fun b => b = w.heap.size + 1) w1 w' := by
  have hmf : ∀ (fn : Fn) (first cap : Array Value) (w : World), (Instr.makeFunc fn first cap).run Try.prog w = .ok (.func fn first cap) w := fun _ _ _ _ => rfl
  have H := Lib.hid h
  clear h
  go_enter_defers Try.func24, Try.ntmps24
  go_wp2_with fail
  refine H.out.mono ?_
  rintro e w1 ⟨rfl, hQ, hB0, hB1⟩
  have HQ := Lib.hid hQ
  have HB0 := Lib.hid hB0
  have HB1 := Lib.hid hB1
  have c1 : w1.cell? ⟨w.heap.size + 1, 0, none⟩ = some (.int .i64 0) := (hB1.cell 0).trans rfl
  have f1 := hB1.frozen 0
  have c0 : w1.cell? ⟨w.heap.size, 0, none⟩ = some (.int .i64 word) := (hB0.cell 0).trans rfl
  clear hQ hB0 hB1 H
  simp only
  go_wp2_with fail
  refine leaves_cons (f := 47) (args := #[.pointer (some ⟨w.heap.size + 1, 0, none⟩), .pointer (some ⟨w.heap.size, 0, none⟩)]) (by simp) (by simp [go_sem]) ?_
  refine (caught_wrong (w.heap.size + 1) w.heap.size _ word [] _ HB1.out HB0.out (by omega)).mono ?_
  rintro e u' w2 ⟨rfl, rfl, hb2, hm2⟩
  have hx : w2.cell? ⟨w.heap.size + 1, 0, none⟩ = some (.int .i64 2) := (hb2.cell 0).trans rfl
  simp [Leaves, settle, results, Try.results24, go_sem, hx]
  exact ⟨w1, HQ.out, hm2⟩
set_option maxHeartbeats 1000000 in
theorem toldM_ret (word : Int) (F : FuncId) (a : Value) (w : World) (Q : World → Prop) (hcf : ∀ W, (callFunc F #[a]).run Try.prog W = .ok (.enter F #[a]) W)
    (h : Calls Try.prog F #[a] ((w.alloc (.cells #[.int .i64 word] 3)).alloc (.cells #[.int .i64 0] 3)) fun e w' => e = .returned (.tuple #[]) ∧ Q w' ∧ Blk w' w.heap.size 3 #[.int .i64 word] ∧ Blk w' (w.heap.size + 1) 3 #[.int .i64 0]) :
    Calls Try.prog 24 #[.int .i64 word, .func (.func F) #[a] #[]] w fun e w' => e = .returned (.int .i64 0) ∧ ∃ w1, Q w1 ∧ Mv (fun b => b = w.heap.size + 1) w1 w' := by
  have hmf : ∀ (fn : Fn) (first cap : Array Value) (w : World), (Instr.makeFunc fn first cap).run Try.prog w = .ok (.func fn first cap) w := fun _ _ _ _ => rfl
  have H := Lib.hid h
  clear h
  go_enter_defers Try.func24, Try.ntmps24
  go_wp2_with fail
  refine H.out.mono ?_
  rintro e w1 ⟨rfl, hQ, hB0, hB1⟩
  have HQ := Lib.hid hQ
  have HB0 := Lib.hid hB0
  have HB1 := Lib.hid hB1
  have c1 : w1.cell? ⟨w.heap.size + 1, 0, none⟩ = some (.int .i64 0) := (hB1.cell 0).trans rfl
  have f1 := hB1.frozen 0
  have c0 : w1.cell? ⟨w.heap.size, 0, none⟩ = some (.int .i64 word) := (hB0.cell 0).trans rfl
  clear hQ hB0 hB1 H
  simp only
  go_wp2_with fail
  refine leaves_cons (f := 47) (args := #[.pointer (some ⟨w.heap.size + 1, 0, none⟩), .pointer (some ⟨w.heap.size, 0, none⟩)]) (by simp) (by simp [go_sem]) ?_
  refine (caught_idle ⟨w.heap.size + 1, 0, none⟩ ⟨w.heap.size, 0, none⟩ _).mono ?_
  rintro e u' w'' ⟨rfl, rfl, rfl⟩
  have hx : (w1.setCell ⟨w.heap.size + 1, 0, none⟩ (.int .i64 0)).cell? ⟨w.heap.size + 1, 0, none⟩ = some (.int .i64 0) := ((HB1.out.set_ 0 (.int .i64 0)).cell 0).trans rfl
  have hm : Mv (fun b => b = w.heap.size + 1) w1 (w1.setCell ⟨w.heap.size + 1, 0, none⟩ (.int .i64 0)) := (Mv.refl (fun b => b = w.heap.size + 1) w1).setCell (p := ⟨w.heap.size + 1, 0, none⟩) (fun _ => rfl) _
  generalize w1.setCell ⟨w.heap.size + 1, 0, none⟩ (.int .i64 0) = w2 at hx hm ⊢
  simp [Leaves, settle, results, Try.results24, go_sem, hx]
  exact ⟨w1, HQ.out, hm⟩
set_option maxHeartbeats 1000000 in
theorem toldM_lost (word : Int) (F : FuncId) (a : Value) (w : World) (Q : World → Prop) (hcf : ∀ W, (callFunc F #[a]).run Try.prog W = .ok (.enter F #[a]) W)
    (h : Calls Try.prog F #[a] ((w.alloc (.cells #[.int .i64 word] 3)).alloc (.cells #[.int .i64 0] 3)) fun e w' => Panics lostV e ∧ Q w' ∧ Blk w' w.heap.size 3 #[.int .i64 word] ∧ Blk w' (w.heap.size + 1) 3 #[.int .i64 0]) :
    Calls Try.prog 24 #[.int .i64 word, .func (.func F) #[a] #[]] w fun e w' => e = .returned (.int .i64 1) ∧ ∃ w1, Q w1 ∧ Mv (fun b => b = w.heap.size + 1) w1 w' := by
  have hmf : ∀ (fn : Fn) (first cap : Array Value) (w : World), (Instr.makeFunc fn first cap).run Try.prog w = .ok (.func fn first cap) w := fun _ _ _ _ => rfl
  have H := Lib.hid h
  clear h
  go_enter_defers Try.func24, Try.ntmps24
  go_wp2_with fail
  refine H.out.mono ?_
  rintro e w1 ⟨rfl, hQ, hB0, hB1⟩
  have HQ := Lib.hid hQ
  have HB0 := Lib.hid hB0
  have HB1 := Lib.hid hB1
  have c1 : w1.cell? ⟨w.heap.size + 1, 0, none⟩ = some (.int .i64 0) := (hB1.cell 0).trans rfl
  have f1 := hB1.frozen 0
  have c0 : w1.cell? ⟨w.heap.size, 0, none⟩ = some (.int .i64 word) := (hB0.cell 0).trans rfl
  clear hQ hB0 hB1 H
  simp only
  go_wp2_with fail
  refine leaves_cons (f := 47) (args := #[.pointer (some ⟨w.heap.size + 1, 0, none⟩), .pointer (some ⟨w.heap.size, 0, none⟩)]) (by simp) (by simp [go_sem]) ?_
  refine (caught_lost (w.heap.size + 1) w.heap.size _ [] _ HB1.out).mono ?_
  rintro e u' w2 ⟨rfl, rfl, hb2, hm2⟩
  have hx : w2.cell? ⟨w.heap.size + 1, 0, none⟩ = some (.int .i64 1) := (hb2.cell 0).trans rfl
  simp [Leaves, settle, results, Try.results24, go_sem, hx]
  exact ⟨w1, HQ.out, hm2⟩
end Go.Proofs.Ytdphillobnlpaaa
