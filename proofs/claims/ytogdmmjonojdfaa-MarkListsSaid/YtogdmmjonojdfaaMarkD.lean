/- mark's queue: heap's up and Push. -/
import Derived.Test.YtogdmmjonojdfaaMarkB
import Derived.Test.YtogdmmjonojdfaaMarkC
namespace Go.Proofs.Ytogdmmjonojdfaa
open Go.RowKit
set_option linter.unusedVariables false
theorem rcv (w : World) (a : Addr) (s : String) : (receiverAt 43 (.val (.pointer (some a))) false (some s)).run Try.prog w = (loadVar 44 a).run Try.prog w := by kernel_rfl
theorem load_q (w : World) (a : Addr) (v : Value) (h : w.cell? a = some v) : (loadVar 44 a).run Try.prog w = .ok v w := by
  simp [loadVar, go_sem, h]
theorem inv_less0 (w : World) (a : Addr) : (Go.method 201 43 (.pointer (some a)) "Less").run Try.prog w = (receiverAt 43 (.val (.pointer (some a))) false (some "Less") >>= fun v => pure (72, v)).run Try.prog w := by kernel_rfl
theorem inv_less (w : World) (a : Addr) (v : Value) (h : w.cell? a = some v) : (Go.method 201 43 (.pointer (some a)) "Less").run Try.prog w = .ok (72, v) w := by
  rw [inv_less0, Sem.run_bind, rcv, load_q w a v h]
  rfl
theorem inv_swap0 (w : World) (a : Addr) : (Go.method 201 43 (.pointer (some a)) "Swap").run Try.prog w = (receiverAt 43 (.val (.pointer (some a))) false (some "Swap") >>= fun v => pure (75, v)).run Try.prog w := by kernel_rfl
theorem inv_swap (w : World) (a : Addr) (v : Value) (h : w.cell? a = some v) : (Go.method 201 43 (.pointer (some a)) "Swap").run Try.prog w = .ok (75, v) w := by
  rw [inv_swap0, Sem.run_bind, rcv, load_q w a v h]
  rfl
theorem inv_len0 (w : World) (a : Addr) : (Go.method 201 43 (.pointer (some a)) "Len").run Try.prog w = (receiverAt 43 (.val (.pointer (some a))) false (some "Len") >>= fun v => pure (22, v)).run Try.prog w := by kernel_rfl
theorem inv_len (w : World) (a : Addr) (v : Value) (h : w.cell? a = some v) : (Go.method 201 43 (.pointer (some a)) "Len").run Try.prog w = .ok (22, v) w := by
  rw [inv_len0, Sem.run_bind, rcv, load_q w a v h]
  rfl
theorem heap_up (w : World) (q g c n j : Nat) (f : Nat → Int) (h : Qs w q g c n f) (hn : n < 1000000) (hu : Up n f j) :
    Calls Try.prog 30 #[.iface 43 (.pointer (some ⟨q, 0, none⟩)), .int .i64 j] w (fun e w' => e = .returned (.tuple #[]) ∧ ∃ f', Qs w' q g c n f' ∧ Pm n f' f ∧ Hp n f' ∧ Mv (fun b => b = g) w w') := by
  have Hh := Lib.hid h
  have Hu := Lib.hid hu
  have hj := hu.lt
  clear h hu
  go_enter Try.func30, Try.ntmps30
  go_wp2_with fail
  go_loopw [1] (fun v wr => ∃ (i : Nat) (fr : Nat → Int), v = .int .i64 (i : Int) ∧ i < n ∧ Hid (Qs wr q g c n fr) ∧ Hid (Pm n fr f) ∧ Hid (Up n fr i) ∧ Hid (Mv (fun b => b = g) w wr))
    (fun v wr => (intOf v).toNat)
  case atStart => exact ⟨j, f, rfl, hj, Hh, Lib.hid (Pm.refl _ _), Hu, Lib.hid (Mv.refl _ w)⟩
  case round =>
    obtain ⟨i, fr, rfl, hi, hq, hp, hu, hm⟩ := hrel
    have hw := wrap_small (z := (i : Int) - 1) (by omega) (by omega)
    have hc := (hq.out.cell.cell 0).trans (show _ = some (Value.slice (some ⟨g, 0, none⟩) n c) from rfl)
    have hl := inv_less wr ⟨q, 0, none⟩ _ hc
    rcases Nat.eq_zero_or_pos i with e | e
    · subst e
      go_wp2_with fail
      go_end0
      exact ⟨rfl, fr, hq.out, hp.out, hu.out.stop (.inl rfl), hm.out⟩
    · obtain ⟨p, hpp⟩ : ∃ p, p = (i - 1) / 2 := ⟨_, rfl⟩
      have ei : ((i : Int) - 1) / 2 = (p : Int) := by omega
      have hpi : p < i := by omega
      have hpn : p < n := by omega
      have Hpp := Lib.hid hpp
      have hneb : ((p : Int) == (i : Int)) = false := by simp; omega
      have hne : ¬ p = i := by omega
      have hs : ∀ m, (Go.method 201 43 (.pointer (some ⟨q, 0, none⟩)) "Swap").run Try.prog (wr.drewN m) = .ok (75, .slice (some ⟨g, 0, none⟩) n c) (wr.drewN m) := fun m => inv_swap (wr.drewN m) ⟨q, 0, none⟩ _ hc
      clear hpp
      by_cases hlt : fr i < fr p
      · go_wp2_with (first
          | (go_at_call 72; refine (qless wr q g c n fr hq.out i p hi hpn).mono ?_; rintro e w1 ⟨rfl, m, rfl⟩; have hs1 := hs m; rw [decide_eq_true hlt])
          | (go_at_call 75; refine (qswap _ q g c n fr (hq.out.drewN m) p i hpn hi).mono ?_; rintro e w1 ⟨rfl, hq1, hm1⟩))
        have hpe := Hpp.out
        have hst := hu.out.step e (by rw [← hpe]; exact hlt)
        rw [← hpe] at hst
        refine ⟨⟨p, swp fr p i, rfl, hpn, Lib.hid hq1, Lib.hid ((swp_perm fr hpn hi).trans hp.out), Lib.hid hst, Lib.hid (hm.out.trans (((Mv.refl _ wr).drewN m).trans hm1))⟩, ?_⟩
        show ((p : Int)).toNat < ((i : Int)).toNat
        omega
      · go_wp2_with (first
          | (go_at_call 72; refine (qless wr q g c n fr hq.out i p hi hpn).mono ?_; rintro e w1 ⟨rfl, m, rfl⟩; rw [decide_eq_false hlt])
          | fail)
        go_end0
        exact ⟨rfl, fr, hq.out.drewN m, hp.out, hu.out.stop (.inr (by rw [← Hpp.out]; omega)), hm.out.drewN m⟩
theorem heap_push (w : World) (q g c n : Nat) (f : Nat → Int) (h : Qs w q g c n f) (hn : n < 100000) (hp : Hp n f) (x : Int) :
    Calls Try.prog 21 #[.iface 43 (.pointer (some ⟨q, 0, none⟩)), .iface 3 (.int .i64 x)] w (fun e w' => e = .returned (.tuple #[]) ∧ ∃ g' c' f', Qs w' q g' c' (n + 1) f' ∧ Pm (n + 1) f' (upd f n x) ∧ Hp (n + 1) f' ∧ (g' = g ∨ w.heap.size ≤ g') ∧ Mv (fun b => b = q ∨ b = g) w w') := by
  have Hh := Lib.hid h
  have hw := wrap_small (z := (n : Int) + 1 - 1) (by omega) (by omega)
  have hw2 : (n : Int) + 1 - 1 = n := by omega
  have hu := Up.start hp x
  clear h
  go_enter Try.func21, Try.ntmps21
  go_wp2_with (first
    | (go_at_call 74; refine (qpush w q g c n f Hh.out (by omega) x).mono ?_; rintro e w1 ⟨rfl, g1, c1, hq1, hg1, hm1⟩; have hc := (hq1.cell.cell 0).trans (show _ = some (Value.slice (some ⟨g1, 0, none⟩) (n + 1) c1) from rfl); have hl := inv_len w1 ⟨q, 0, none⟩ _ hc)
    | (go_at_call 22; refine (qlen _ _ _ _).mono ?_; rintro e w2 ⟨rfl, rfl⟩)
    | (go_at_call 30; refine (heap_up _ q g1 c1 (n + 1) n _ hq1 (by omega) hu).mono ?_; rintro e w2 ⟨rfl, f', hq2, hp2, hh2, hm2⟩))
  go_end0
  exact ⟨rfl, g1, c1, f', hq2, hp2, hh2, hg1, hm1.trans' hm2 (fun b hb e => by rcases hg1 with e1 | e1; exact .inr (e.trans e1); omega)⟩
end Go.Proofs.Ytogdmmjonojdfaa
