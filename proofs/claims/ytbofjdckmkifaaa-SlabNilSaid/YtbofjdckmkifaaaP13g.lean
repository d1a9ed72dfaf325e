/-
  The walk of the slab's Grow, where it does not grow. Conditions: the slab is one that may be.
-/
import Derived.Test.YtbofjdckmkifaaaP13f
namespace Go.Proofs.Ytbofjdckmkifaaa
open Go.RowKit Go.Shelf

set_option maxRecDepth 100000 in
set_option maxHeartbeats 1000000 in
theorem growP_bad (F : Nat → Prop) (w : World) (b : Nat) (sz cs : List Int) (at_ i : Int) (hwf : Wf sz cs) (h : Two 77 F w b sz cs) (hb : growBad sz at_ i = true) :
    Calls Try.prog 17 #[.pointer (some ⟨b, 0, none⟩), .int .i64 at_, .int .i64 i] w fun e w' => e = .returned (.int .i64 1) ∧ Nw w w' := by
  obtain ⟨vs, vc, ht, -⟩ := h
  obtain ⟨az, zc, rfl, hzc, hzm, hz, -⟩ := own_IR ht.2.1
  obtain ⟨bz, oz, rfl, hz'⟩ := IR_some hz (by have := hwf.lo; omega)
  have h6 := hwf.hi
  have p0 := ht.c0
  clear ht hz
  have HZ := Lib.hid hz'; clear hz'
  have p1 := nw_cell (nw_alloc w (.cells #[.int .i64 i] 3)) p0
  simp only [growBad, Bool.or_eq_true, decide_eq_true_eq] at hb
  by_cases q0 : at_ < 0
  · have q1 : decide (at_ < 0) = true := by simp; omega
    clear hb
    refine rf_calls 3 Try.func17 rfl ?_
    simp only [Try.ntmps17, List.size_toArray, List.length_cons, List.length_nil, Nat.reduceAdd, Nat.reduceSub, Array.replicate_succ, Array.replicate_zero, List.push_toArray, List.append_toArray, List.nil_append, List.cons_append]
    go_wp2
    go_quiet (fail)
    go_wp2
    exact rf_leave0 rfl (results_tmp rfl _ _ _) ⟨rfl, nw_trans (nw_alloc _ _) (nw_drewN _ _)⟩
  have q1 : decide (at_ < 0) = false := by simp; omega
  obtain ⟨a, rfl⟩ := Int.eq_ofNat_of_zero_le (show 0 ≤ at_ by omega)
  by_cases q2 : sz.length ≤ a
  · have q3 : decide ((a : Int) ≥ (sz.length : Int)) = true := by simp; omega
    have q3' : decide (sz.length ≤ a) = true := by simp; omega
    clear hb
    refine rf_calls 3 Try.func17 rfl ?_
    simp only [Try.ntmps17, List.size_toArray, List.length_cons, List.length_nil, Nat.reduceAdd, Nat.reduceSub, Array.replicate_succ, Array.replicate_zero, List.push_toArray, List.append_toArray, List.nil_append, List.cons_append]
    go_wp2
    go_quiet (fail)
    go_wp2
    exact rf_leave0 rfl (results_tmp rfl _ _ _) ⟨rfl, nw_trans (nw_alloc _ _) (nw_drewN _ _)⟩
  have q3 : decide ((a : Int) ≥ (sz.length : Int)) = false := by simp; omega
  have q3' : decide (sz.length ≤ a) = false := by simp; omega
  by_cases q4 : i < 0
  · have q5 : decide (i < 0) = true := by simp; omega
    clear hb
    refine rf_calls 3 Try.func17 rfl ?_
    simp only [Try.ntmps17, List.size_toArray, List.length_cons, List.length_nil, Nat.reduceAdd, Nat.reduceSub, Array.replicate_succ, Array.replicate_zero, List.push_toArray, List.append_toArray, List.nil_append, List.cons_append]
    go_wp2
    go_quiet (fail)
    go_wp2
    exact rf_leave0 rfl (results_tmp rfl _ _ _) ⟨rfl, nw_trans (nw_alloc _ _) (nw_drewN _ _)⟩
  have q5 : decide (i < 0) = false := by simp; omega
  have q6 : decide (i ≥ rd sz a) = true := by simp at hb ⊢; omega
  have g := HZ.out a (by omega)
  have g1 := nw_cell (nw_alloc w (.cells #[.int .i64 i] 3)) g
  clear hb
  refine rf_calls 3 Try.func17 rfl ?_
  simp only [Try.ntmps17, List.size_toArray, List.length_cons, List.length_nil, Nat.reduceAdd, Nat.reduceSub, Array.replicate_succ, Array.replicate_zero, List.push_toArray, List.append_toArray, List.nil_append, List.cons_append]
  go_wp2
  go_quiet (fail)
  go_wp2
  exact rf_leave0 rfl (results_tmp rfl _ _ _) ⟨rfl, nw_trans (nw_alloc _ _) (nw_drewN _ _)⟩

end Go.Proofs.Ytbofjdckmkifaaa
