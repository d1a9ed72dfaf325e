/-
  The walk of the slab's Grow. Conditions: the slab is one that may be.
-/
import Derived.Test.YtbofjdckmkifaaaP13g
import Derived.Test.YtbofjdckmkifaaaP13b
import Derived.Test.YtbofjdckmkifaaaChk
import Derived.Test.YtbofjdckmkifaaaCat2
import Derived.Test.YtbofjdckmkifaaaRF2
namespace Go.Proofs.Ytbofjdckmkifaaa
open Go.RowKit Go.Shelf

set_option maxRecDepth 100000 in
set_option maxHeartbeats 1000000 in
theorem growP_lim (F : Nat → Prop) (w : World) (b : Nat) (sz cs : List Int) (a : Nat) (i : Int) (hwf : Wf sz cs) (h : Two 77 F w b sz cs) (hb : growBad sz a i = false) (hN : 4096 < (growN sz cs a : Int)) :
    Calls Try.prog 17 #[.pointer (some ⟨b, 0, none⟩), .int .i64 (a : Int), .int .i64 i] w fun e w' => e = .returned (.int .i64 4) ∧ Nw w w' := by
  obtain ⟨vs, vc, ht, -⟩ := h
  obtain ⟨az, zc, rfl, hzc, hzm, hz, -⟩ := own_IR ht.2.1
  obtain ⟨bz, oz, rfl, hz'⟩ := IR_some hz (by have := hwf.lo; omega)
  obtain ⟨ac, cc, rfl, hcc, hcm, -, -⟩ := own_IR ht.2.2.1
  have h6 := hwf.hi; have hmost := hwf.most
  have p0 := nw_cell (nw_alloc w (.cells #[.int .i64 i] 3)) ht.c0
  have p1 := nw_cell (nw_alloc w (.cells #[.int .i64 i] 3)) ht.c1
  clear ht hz
  simp only [growBad, Bool.or_eq_false_iff, decide_eq_false_iff_not, Int.toNat_natCast] at hb
  have ha : a < sz.length := by omega
  have g := nw_cell (nw_alloc w (.cells #[.int .i64 i] 3)) (hz' a ha)
  have gs := hwf.size_le ha
  have gN := grow_sum hwf ha
  have gq := (grow_pr hwf ha).2
  have gq1 : (cs.length : Int) / rd sz a ≤ cs.length := Int.ediv_le_self _ (by omega)
  have q1 : decide ((a : Int) < 0) = false := by simp
  have q3 : decide ((a : Int) ≥ (sz.length : Int)) = false := by simp; omega
  have q3' : decide (sz.length ≤ a) = false := by simp; omega
  have q5 : decide (i < 0) = false := by simp; omega
  have q6 : decide (i ≥ rd sz a) = false := by simp; omega
  rw [gN] at hN
  have q7 : decide ((cs.length : Int) + (cs.length : Int) / rd sz a > 4096) = true := by simp; omega
  have hwr : IntKind.i64.wrap ((cs.length : Int) + (cs.length : Int) / rd sz a) = (cs.length : Int) + (cs.length : Int) / rd sz a := IntWalk.i64_in _ (by omega)
  clear hz' hb gN hwf
  refine rf_calls 3 Try.func17 rfl ?_
  simp only [Try.ntmps17, List.size_toArray, List.length_cons, List.length_nil, Nat.reduceAdd, Nat.reduceSub, Array.replicate_succ, Array.replicate_zero, List.push_toArray, List.append_toArray, List.nil_append, List.cons_append]
  go_wp2
  go_quiet (fail)
  go_wp2
  go_quiet (fail)
  go_wp2
  exact rf_leave0 rfl (results_tmp rfl _ _ _) ⟨rfl, nw_trans (nw_alloc _ _) (by first | exact nw_drewN _ _ | (rw [World.drewN_drewN]; exact nw_drewN _ _) | exact nw_trans (nw_drewN _ _) (nw_drewN _ _))⟩
end Go.Proofs.Ytbofjdckmkifaaa
