/-
  The walk of the slab's Shrink, where it does not begin. Conditions: the slab is one that may be.
-/
import Derived.Test.YtbofjdckmkifaaaP13f
import Derived.Test.YtbofjdckmkifaaaRes
import Derived.Test.YtbofjdckmkifaaaN13
namespace Go.Proofs.Ytbofjdckmkifaaa
open Go.RowKit Go.Shelf

theorem box2_end (w : World) (o1 : Obj) (v0 : Value) (t : TypeId) (n : Nat) (v : Value) : Nw w ((((w.alloc o1).alloc (.cells #[v0] t)).drewN n).setCell ⟨w.heap.size + 1, 0, none⟩ v) ∧
    ((((w.alloc o1).alloc (.cells #[v0] t)).drewN n).setCell ⟨w.heap.size + 1, 0, none⟩ v).cell? ⟨w.heap.size + 1, 0, none⟩ = some v := by
  refine ⟨(Kp.setCell (((Kp.refl (fun _ => False) w).alloc o1).alloc _ |>.drewN n) (fun h => by simp at h; omega) v).nw, ?_⟩
  have h := blk_new (w.alloc o1) (.cells #[v0] t)
  rw [World.size_alloc] at h
  exact blk_cell (blk_set (w := ((w.alloc o1).alloc (.cells #[v0] t)).drewN n) h 0 v) 0
set_option maxRecDepth 100000 in
set_option maxHeartbeats 1000000 in
theorem shrinkP_bad (F : Nat → Prop) (w : World) (b : Nat) (sz cs : List Int) (at_ i : Int) (hwf : Wf sz cs) (h : Two 77 F w b sz cs) (hb : shrBad sz at_ i = true) :
    Calls Try.prog 19 #[.pointer (some ⟨b, 0, none⟩), .int .i64 at_, .int .i64 i] w fun e w' => e = .returned (.int .i64 1) ∧ Nw w w' := by
  obtain ⟨vs, vc, ht, -⟩ := h
  obtain ⟨az, zc, rfl, hzc, hzm, hz, -⟩ := own_IR ht.2.1
  obtain ⟨bz, oz, rfl, hz'⟩ := IR_some hz (by have := hwf.lo; omega)
  have h6 := hwf.hi
  have p0 := ht.c0
  clear ht hz
  have HZ := Lib.hid hz'; clear hz'
  have nb := nw_trans (nw_alloc w (.cells #[.int .i64 i] 3)) (nw_alloc _ (.cells #[.int .i64 0] 24))
  have p1 := nw_cell nb p0
  have NB := Lib.hid nb; clear nb
  simp only [shrBad, Bool.or_eq_true, decide_eq_true_eq] at hb
  by_cases q0 : at_ < 0
  · have q1 : decide (at_ < 0) = true := by simp; omega
    clear hb
    refine rf_calls 3 Try.func19 rfl ?_
    simp only [Try.ntmps19, List.size_toArray, List.length_cons, List.length_nil, Nat.reduceAdd, Nat.reduceSub, Array.replicate_succ, Array.replicate_zero, List.push_toArray, List.append_toArray, List.nil_append, List.cons_append]
    go_wp2
    go_quiet (fail)
    go_wp2
    have hend := box2_end w (.cells #[.int .i64 i] 3) (.int .i64 0) 24 nq (.int .i64 1)
    exact rf_leave0 rfl (results_cell1 rfl _ _ _ _ _ rfl rfl Try.underlying24 hend.2) ⟨rfl, hend.1⟩
  have q1 : decide (at_ < 0) = false := by simp; omega
  obtain ⟨a, rfl⟩ := Int.eq_ofNat_of_zero_le (show 0 ≤ at_ by omega)
  by_cases q2 : sz.length ≤ a
  · have q3 : decide ((a : Int) ≥ (sz.length : Int)) = true := by simp; omega
    have q3' : decide (sz.length ≤ a) = true := by simp; omega
    clear hb
    refine rf_calls 3 Try.func19 rfl ?_
    simp only [Try.ntmps19, List.size_toArray, List.length_cons, List.length_nil, Nat.reduceAdd, Nat.reduceSub, Array.replicate_succ, Array.replicate_zero, List.push_toArray, List.append_toArray, List.nil_append, List.cons_append]
    go_wp2
    go_quiet (fail)
    go_wp2
    have hend := box2_end w (.cells #[.int .i64 i] 3) (.int .i64 0) 24 nq (.int .i64 1)
    exact rf_leave0 rfl (results_cell1 rfl _ _ _ _ _ rfl rfl Try.underlying24 hend.2) ⟨rfl, hend.1⟩
  have q3 : decide ((a : Int) ≥ (sz.length : Int)) = false := by simp; omega
  have q3' : decide (sz.length ≤ a) = false := by simp; omega
  by_cases q4 : i < 0
  · have q5 : decide (i < 0) = true := by simp; omega
    clear hb
    refine rf_calls 3 Try.func19 rfl ?_
    simp only [Try.ntmps19, List.size_toArray, List.length_cons, List.length_nil, Nat.reduceAdd, Nat.reduceSub, Array.replicate_succ, Array.replicate_zero, List.push_toArray, List.append_toArray, List.nil_append, List.cons_append]
    go_wp2
    go_quiet (fail)
    go_wp2
    have hend := box2_end w (.cells #[.int .i64 i] 3) (.int .i64 0) 24 nq (.int .i64 1)
    exact rf_leave0 rfl (results_cell1 rfl _ _ _ _ _ rfl rfl Try.underlying24 hend.2) ⟨rfl, hend.1⟩
  have q5 : decide (i < 0) = false := by simp; omega
  have gs := hwf.size_le (k := a) (by omega)
  have q6 : decide (i ≥ rd sz a - 1) = true := by simp at hb ⊢; omega
  have g := HZ.out a (by omega)
  have g1 := nw_cell NB.out g
  clear hb
  refine rf_calls 3 Try.func19 rfl ?_
  simp only [Try.ntmps19, List.size_toArray, List.length_cons, List.length_nil, Nat.reduceAdd, Nat.reduceSub, Array.replicate_succ, Array.replicate_zero, List.push_toArray, List.append_toArray, List.nil_append, List.cons_append]
  go_wp2
  go_quiet (fail)
  go_wp2
  have hend := box2_end w (.cells #[.int .i64 i] 3) (.int .i64 0) 24 nq (.int .i64 1)
  exact rf_leave0 rfl (results_cell1 rfl _ _ _ _ _ rfl rfl Try.underlying24 hend.2) ⟨rfl, hend.1⟩

end Go.Proofs.Ytbofjdckmkifaaa
