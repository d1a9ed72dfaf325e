/-
  The walks of the slab's reference: Grow. Conditions: the slab is one that may be.
-/
import Derived.Test.YtbofjdckmkifaaaR13e
import Derived.Test.YtbofjdckmkifaaaR13f
namespace Go.Proofs.Ytbofjdckmkifaaa
open Go.RowKit

set_option maxHeartbeats 1000000 in
theorem grow13_bad (F : Nat → Prop) (w : World) (b : Nat) (sz cs : List Int) (at_ i : Int) (hwf : Wf sz cs) (h : Two 32 F w b sz cs) (hb : growBad sz at_ i = true) :
    Calls Try.prog 18 #[.pointer (some ⟨b, 0, none⟩), .int .i64 at_, .int .i64 i] w fun e w' => e = .returned (.int .i64 1) ∧ w = w' := by
  obtain ⟨vs, vc, ht, -⟩ := h
  obtain ⟨az, zc, rfl, hzc, hzm, hz, -⟩ := own_IR ht.2.1
  obtain ⟨bz, oz, rfl, hz'⟩ := IR_some hz (by have := hwf.lo; omega)
  have h6 := hwf.hi
  have p0 := ht.c0
  clear ht hz
  have HZ := Lib.hid hz'; clear hz'
  simp only [growBad, Bool.or_eq_true, decide_eq_true_eq] at hb
  by_cases q0 : at_ < 0
  · have q1 : decide (at_ < 0) = true := by simp; omega
    clear hb
    go_enter Try.func18, Try.ntmps18
    go_wp2
    go_ret
    exact ⟨rfl, rfl⟩
  have q1 : decide (at_ < 0) = false := by simp; omega
  obtain ⟨a, rfl⟩ := Int.eq_ofNat_of_zero_le (show 0 ≤ at_ by omega)
  by_cases q2 : sz.length ≤ a
  · have q3 : decide ((a : Int) ≥ (sz.length : Int)) = true := by simp; omega
    clear hb
    go_enter Try.func18, Try.ntmps18
    go_wp2
    go_ret
    exact ⟨rfl, rfl⟩
  have q3 : decide ((a : Int) ≥ (sz.length : Int)) = false := by simp; omega
  by_cases q4 : i < 0
  · have q5 : decide (i < 0) = true := by simp; omega
    clear hb
    go_enter Try.func18, Try.ntmps18
    go_wp2
    go_ret
    exact ⟨rfl, rfl⟩
  have q5 : decide (i < 0) = false := by simp; omega
  have q6 : decide (i ≥ rd sz a) = true := by simp at hb ⊢; omega
  have g := HZ.out a (by omega)
  clear hb
  go_enter Try.func18, Try.ntmps18
  go_wp2
  go_ret
  exact ⟨rfl, rfl⟩

set_option maxHeartbeats 1000000 in
theorem grow13_lim (F : Nat → Prop) (w : World) (b : Nat) (sz cs : List Int) (a : Nat) (i : Int) (hwf : Wf sz cs) (h : Two 32 F w b sz cs) (hb : growBad sz a i = false) (hN : 4096 < (growN sz cs a : Int)) :
    Calls Try.prog 18 #[.pointer (some ⟨b, 0, none⟩), .int .i64 (a : Int), .int .i64 i] w fun e w' => e = .returned (.int .i64 4) ∧ ∃ n, w' = w.drewN n := by
  obtain ⟨vs, vc, ht, -⟩ := h
  obtain ⟨az, zc, rfl, hzc, hzm, hz, -⟩ := own_IR ht.2.1
  obtain ⟨bz, oz, rfl, hz'⟩ := IR_some hz (by have := hwf.lo; omega)
  obtain ⟨ac, cc, rfl, hcc, hcm, -, -⟩ := own_IR ht.2.2.1
  have h6 := hwf.hi; have hmost := hwf.most
  have p0 := ht.c0; have p1 := ht.c1
  clear ht hz
  simp only [growBad, Bool.or_eq_false_iff, decide_eq_false_iff_not, Int.toNat_natCast] at hb
  have ha : a < sz.length := by omega
  have g := hz' a ha
  have gs := hwf.size_le ha
  have gN := growN_eq hwf ha
  have gq := (grow_pr hwf ha).2
  have gq1 : (cs.length : Int) / rd sz a ≤ cs.length := Int.ediv_le_self _ (by omega)
  have q1 : decide ((a : Int) < 0) = false := by simp
  have q3 : decide ((a : Int) ≥ (sz.length : Int)) = false := by simp; omega
  have q5 : decide (i < 0) = false := by simp; omega
  have q6 : decide (i ≥ rd sz a) = false := by simp; omega
  rw [gN] at hN
  have m1 : (cs.length : Int) / rd sz a * (rd sz a + 1) ≤ 4096 * 4097 := Int.mul_le_mul (by omega) (by omega) (by omega) (by omega)
  have q7 : decide ((cs.length : Int) / rd sz a * (rd sz a + 1) > 4096) = true := by simp; omega
  clear hz' hb gN hwf
  go_enter Try.func18, Try.ntmps18
  go_wp2
  go_quiet (fail)
  go_wp2
  go_ret
  exact ⟨rfl, by first | exact ⟨_, rfl⟩ | exact ⟨_, World.drewN_drewN _ _ _⟩⟩

end Go.Proofs.Ytbofjdckmkifaaa
