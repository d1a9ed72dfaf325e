/-
  The walks of the slab: rows, Of. Conditions: the slab is one that may be; the lists are not too long.
-/
import Derived.Test.YtbofjdckmkifaaaP13a
import Derived.Test.YtbofjdckmkifaaaApp
namespace Go.Proofs.Ytbofjdckmkifaaa
open Go.RowKit

set_option maxHeartbeats 1000000 in
theorem rowsP (F : Nat → Prop) (w : World) (b : Nat) (sz cs : List Int) (a : Nat) (hwf : Wf sz cs) (h : Two 77 F w b sz cs) (ha : a < sz.length) :
    Calls Try.prog 46 #[.pointer (some ⟨b, 0, none⟩), .int .i64 (a : Int)] w fun e w' => e = .returned (.tuple #[.int .i64 (suf sz (a + 1)), .int .i64 (suf sz (a + 1) * rd sz a)]) ∧ ∃ n, w' = w.drewN n := by
  obtain ⟨vs, vc, ht, -⟩ := h
  obtain ⟨az, zc, rfl, hzc, hzm, hz, -⟩ := own_IR ht.2.1
  obtain ⟨bz, oz, rfl, hz'⟩ := IR_some hz (by omega)
  have p0 := ht.c0
  have hhi := hwf.hi
  clear ht
  have hpd : ∀ (A : Option Addr) (c : Nat), IR .i64 w A (sz.drop (a + 1)) → Calls Try.prog 55 #[.slice A (sz.length - (a + 1)) c] w fun e w' => e = .returned (.int .i64 (suf sz (a + 1))) ∧ w = w' := by
    intro A c hA
    have := productP w (sz.drop (a + 1)) A c (by simp; omega) hA
    rw [prod_drop hwf _ (by omega)] at this
    simpa using this
  have HPD := Lib.hid hpd; clear hpd
  have g := hz' a ha
  have HZ := Lib.hid hz
  have s1 := suf_pos hwf.pos (a + 1)
  have s2 := suf_le hwf (a + 1) (by omega)
  have s3 := hwf.size_le ha
  have s4 := suf_le hwf a (by omega)
  rw [suf_step sz ha, Int.mul_comm] at s4
  have s5 := Int.mul_nonneg (show 0 ≤ suf sz (a+1) by omega) (show 0 ≤ rd sz a by omega)
  clear hz' hz hwf
  go_enter Try.func46, Try.ntmps46
  go_wp2_with fail
  · refine (HPD.out _ _ (by rw [List.drop_eq_nil_of_le (by omega)]; exact IR_nil _ _ _)).mono ?_; rintro e w' ⟨rfl, rfl⟩
    clear HPD HZ
    go_wp2
    go_quiet (fail)
    go_wp2
    go_ret2
    exact ⟨rfl, by first | exact ⟨_, rfl⟩ | exact ⟨_, World.drewN_drewN _ _ _⟩⟩
  · refine (HPD.out _ _ (HZ.out.drop (a + 1))).mono ?_; rintro e w' ⟨rfl, rfl⟩
    clear HPD HZ
    go_wp2
    go_quiet (fail)
    go_wp2
    go_ret2
    exact ⟨rfl, by first | exact ⟨_, rfl⟩ | exact ⟨_, World.drewN_drewN _ _ _⟩⟩
set_option maxHeartbeats 1000000 in
theorem ofP_no (w : World) (sz cs : List Int) (a1 a2 : Option Addr) (c1 c2 : Nat) (hl : sz.length ≤ 1000000) (hl2 : cs.length ≤ 1000000) (r1 : IR .i64 w a1 sz) (hno : ofB sz cs = false) :
    Calls Try.prog 32 #[.slice a1 sz.length c1, .slice a2 cs.length c2] w fun e w' => e = .returned (.tuple #[.pointer none, .int .i64 1]) ∧ w' = w := by
  have hp := Lib.hid (productP w sz a1 c1 hl r1)
  by_cases q0 : sz.length < 1
  · have q1 : decide ((sz.length : Int) < 1) = true := by simp; omega
    clear hno hl r1 hp
    go_enter Try.func32, Try.ntmps32
    go_wp2
    go_ret2
    exact ⟨rfl, rfl⟩
  have q1 : decide ((sz.length : Int) < 1) = false := by simp; omega
  by_cases q2 : 6 < sz.length
  · have q3 : decide ((sz.length : Int) > 6) = true := by simp; omega
    clear hno r1 hp
    go_enter Try.func32, Try.ntmps32
    go_wp2
    go_ret2
    exact ⟨rfl, rfl⟩
  have q3 : decide ((sz.length : Int) > 6) = false := by simp; omega
  by_cases q4 : cs.length = 0
  · have q5 : ((cs.length : Int) == 0) = true := by simp [List.eq_nil_of_length_eq_zero q4]
    have q5' : (cs.length == 0) = true := by simp [List.eq_nil_of_length_eq_zero q4]
    clear hno r1 hp q4
    go_enter Try.func32, Try.ntmps32
    go_wp2
    go_ret2
    exact ⟨rfl, rfl⟩
  have q5 : ((cs.length : Int) == 0) = false := by simp; intro h; subst h; simp at q4
  have hne : prodV sz ≠ (cs.length : Int) := by
    unfold prodV
    split
    · rename_i hk
      simp only [ofB, hk, Bool.true_and, Bool.and_eq_false_iff, decide_eq_false_iff_not] at hno
      omega
    · omega
  obtain ⟨p, hpe⟩ : ∃ p, p = prodV sz := ⟨_, rfl⟩
  have hbd : 0 ≤ p ∧ p ≤ 4096 := by
    rw [hpe]; unfold prodV
    split
    · rename_i hk; have := okp_bd hk; omega
    · omega
  rw [← hpe] at hp hne
  have b1 := hbd.1; have b2 := hbd.2
  have q6 : (p != (cs.length : Int)) = true := by simp; omega
  clear hno r1 hbd hpe hne
  go_enter Try.func32, Try.ntmps32
  go_wp2_with (go_at_call 55; refine hp.out.mono ?_; rintro e w' ⟨rfl, rfl⟩)
  go_wp2
  go_ret2
  exact ⟨rfl, rfl⟩

set_option maxHeartbeats 1000000 in
theorem ofP_yes (w : World) (sz cs : List Int) (a1 a2 : Option Addr) (c1 c2 : Nat) (r1 : IR .i64 w a1 sz) (r2 : IR .i64 w a2 cs) (hyes : ofB sz cs = true) :
    Calls Try.prog 32 #[.slice a1 sz.length c1, .slice a2 cs.length c2] w fun e w' => ∃ g, e = .returned (.tuple #[.pointer (some ⟨g, 0, none⟩), .int .i64 0]) ∧
      Two 77 (fun k => w.heap.size ≤ k) w' g sz cs ∧ Nw w w' := by
  have hwf := ofB_wf hyes
  have hlo := hwf.lo; have hhi := hwf.hi; have hmost := hwf.most; have hpos := hwf.pos'; have hlen := hwf.len
  have hp := Lib.hid (productP w sz a1 c1 (by omega) r1)
  have e0 : prodV sz = cs.length := by rw [prodV, if_pos (wf_okp hwf _ (Nat.le_refl _)), hlen]
  rw [e0] at hp
  have q1 : decide ((sz.length : Int) < 1) = false := by simp; omega
  have q3 : decide ((sz.length : Int) > 6) = false := by simp; omega
  have q4 : ((cs.length : Int) == 0) = false := by simp; intro h; subst h; simp at hpos
  have q5 : ((cs.length : Int) != (cs.length : Int)) = false := by simp
  obtain ⟨b1, o1, rfl, -⟩ := IR_some r1 (by omega)
  obtain ⟨b2, o2, rfl, -⟩ := IR_some r2 (by omega)
  have R1 := Lib.hid r1; have R2 := Lib.hid r2
  clear hyes hwf hlen e0 r1 r2
  go_enter Try.func32, Try.ntmps32
  go_wp2_with (go_at_call 55; refine hp.out.mono ?_; rintro e w' ⟨rfl, rfl⟩)
  refine (clone_own w _ c1 sz (by omega) (by omega) R1.out).mono ?_; rintro e w1 ⟨g1, k1, rfl, ho1, hc1, n1⟩
  have g1n : w.heap.size ≤ g1 := own_ge ho1 (b := g1) rfl
  have ho1 := own_base ho1 0 (fun _ _ => Nat.zero_le _)
  have R2' := Lib.hid (R2.out.nw n1)
  have HO1 := Lib.hid ho1; have N1 := Lib.hid n1
  clear ho1 n1 R2
  go_wp2_with fail
  refine (clone_own w1 _ c2 cs (by omega) (by omega) R2'.out).mono ?_; rintro e w2 ⟨g2, k2, rfl, ho2, hc2, n2⟩
  have g2n : w1.heap.size ≤ g2 := own_ge ho2 (b := g2) rfl
  have ho2 := own_base ho2 0 (fun _ _ => Nat.zero_le _)
  have HO2 := Lib.hid ho2; have N2 := Lib.hid n2; have G2 := Lib.hid g2n
  clear ho2 n2 R2' g2n
  go_wp2
  go_ret2
  have n12 := nw_trans N1.out N2.out
  have l1 := own_lt HO1.out (b := g1) rfl
  refine ⟨_, rfl, ⟨_, _, ⟨blk_new _ _, nw_own (nw_alloc _ _) (nw_own N2.out HO1.out), nw_own (nw_alloc _ _) HO2.out, fun k h1 h2 => ?_⟩, n12.size, ?_, ?_⟩, nw_trans n12 (nw_alloc _ _)⟩
  · have e1 : g1 = k := by injection h1
    have e2 : g2 = k := by injection h2
    have := G2.out; omega
  · intro k h1; have e1 : g1 = k := by injection h1
    omega
  · intro k h1; have e1 : g2 = k := by injection h1
    have := G2.out; have := N1.out.size; omega
end Go.Proofs.Ytbofjdckmkifaaa
