/-
  The walks of the slab's Grow and Shrink on a slab that is none. No condition.
-/
import Derived.Test.YtbofjdckmkifaaaP13j
namespace Go.Proofs.Ytbofjdckmkifaaa
open Go.RowKit Go.Shelf

set_option maxRecDepth 100000 in
set_option maxHeartbeats 1000000 in
theorem growP_nil (w : World) (at_ i : Int) :
    Calls Try.prog 17 #[.pointer none, .int .i64 at_, .int .i64 i] w fun e w' => e = .returned (.int .i64 1) ∧ Nw w w' := by
  refine rf_calls 3 Try.func17 rfl ?_
  simp only [Try.ntmps17, List.size_toArray, List.length_cons, List.length_nil, Nat.reduceAdd, Nat.reduceSub, Array.replicate_succ, Array.replicate_zero, List.push_toArray, List.append_toArray, List.nil_append, List.cons_append]
  go_wp2
  go_quiet (fail)
  go_wp2
  exact rf_leave0 rfl (results_tmp rfl _ _ _) ⟨rfl, nw_trans (nw_alloc _ _) (nw_drewN _ _)⟩

set_option maxRecDepth 100000 in
set_option maxHeartbeats 1000000 in
theorem shrinkP_nil (w : World) (at_ i : Int) :
    Calls Try.prog 19 #[.pointer none, .int .i64 at_, .int .i64 i] w fun e w' => e = .returned (.int .i64 1) ∧ Nw w w' := by
  refine rf_calls 3 Try.func19 rfl ?_
  simp only [Try.ntmps19, List.size_toArray, List.length_cons, List.length_nil, Nat.reduceAdd, Nat.reduceSub, Array.replicate_succ, Array.replicate_zero, List.push_toArray, List.append_toArray, List.nil_append, List.cons_append]
  go_wp2
  go_quiet (fail)
  go_wp2
  have hend := box2_end w (.cells #[.int .i64 i] 3) (.int .i64 0) 24 nq (.int .i64 1)
  exact rf_leave0 rfl (results_cell1 rfl _ _ _ _ _ rfl rfl Try.underlying24 hend.2) ⟨rfl, hend.1⟩
end Go.Proofs.Ytbofjdckmkifaaa
