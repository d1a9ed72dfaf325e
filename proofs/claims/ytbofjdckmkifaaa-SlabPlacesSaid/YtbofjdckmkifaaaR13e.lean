/-
  The walks of the slab's reference: product, Of, New. Conditions: the lists are not too long.
-/
import Derived.Test.YtbofjdckmkifaaaR13b
import Derived.Test.YtbofjdckmkifaaaApp
namespace Go.Proofs.Ytbofjdckmkifaaa
open Go.RowKit

set_option maxHeartbeats 1000000 in
theorem product13 (w : World) (sz : List Int) (a : Option Addr) (c : Nat) (hl : sz.length ≤ 1000000) (r : IR .i64 w a sz) :
    Calls Try.prog 49 #[.slice a sz.length c] w fun e w' => e = .returned (.int .i64 (prodV sz)) ∧ w = w' := by
  by_cases h0 : sz.length = 0
  · have : sz = [] := List.eq_nil_of_length_eq_zero h0
    subst this
    simp only [List.length_nil]
    go_enter Try.func49, Try.ntmps49
    go_wp2
    go_loop [3, 4] (fun n i => n = .int .i64 1 ∧ i = .int .i64 0) (fun _ _ => 0)
    case atStart => exact ⟨rfl, rfl⟩
    case round =>
      obtain ⟨rfl, rfl⟩ := hrel
      go_wp2
      go_ret
      exact ⟨rfl, rfl⟩
  obtain ⟨b, o, rfl, r'⟩ := IR_some r (by omega)
  clear r
  obtain ⟨l, hl'⟩ : ∃ l, l = sz.length := ⟨_, rfl⟩
  rw [← hl'] at h0 hl r' ⊢
  have R := Lib.hid r'; have HL := Lib.hid hl'; clear r' hl' h0
  go_enter Try.func49, Try.ntmps49
  go_wp2
  go_loop [3, 4] (fun n i => ∃ k : Nat, k ≤ l ∧ i = .int .i64 k ∧ n = .int .i64 (pr sz k) ∧ okp sz k = true) (fun _ i => l - (intOf i).toNat)
  case atStart => exact ⟨0, Nat.zero_le _, rfl, rfl, rfl⟩
  case round =>
    obtain ⟨k, hk, rfl, rfl, hok⟩ := hrel
    have hb := okp_bd hok
    have hb1 := hb.1; have hb2 := hb.2.1
    have HO := Lib.hid hok; clear hok hb
    by_cases hlt : k < l
    · have g1 := R.out k hlt
      have hbad : ∀ h : okp sz (k + 1) = false, prodV sz = 0 := fun h => by
        have := okp_mono (show k + 1 ≤ l by omega) h
        rw [HL.out] at this
        simp [prodV, this]
      have HB := Lib.hid hbad; clear hbad
      by_cases q0 : rd sz k < 1
      · have q1 : decide (rd sz k < 1) = true := by simp; omega
        go_wp2
        go_ret
        rw [HB.out (by simp [okp]; intro _; omega)]
        exact ⟨rfl, rfl⟩
      · have q1 : decide (rd sz k < 1) = false := by simp; omega
        by_cases q2 : 4096 < rd sz k
        · have q3 : decide (rd sz k > 4096) = true := by simp; omega
          go_wp2
          go_ret
          rw [HB.out (by simp [okp]; intro _ _; omega)]
          exact ⟨rfl, rfl⟩
        · have q3 : decide (rd sz k > 4096) = false := by simp; omega
          have m0 : 0 ≤ pr sz k * rd sz k := Int.mul_nonneg (by omega) (by omega)
          have m1 : pr sz k * rd sz k ≤ 4096 * 4096 := Int.mul_le_mul hb2 (by omega) (by omega) (by omega)
          by_cases q4 : 4096 < pr sz k * rd sz k
          · have q5 : decide (pr sz k * rd sz k > 4096) = true := by simp; omega
            go_wp2
            go_ret
            rw [HB.out (by simp [okp]; intro _ _ _; omega)]
            exact ⟨rfl, rfl⟩
          · have q5 : decide (pr sz k * rd sz k > 4096) = false := by simp; omega
            have hok1 : okp sz (k + 1) = true := by simp [okp, HO.out]; omega
            have HO1 := Lib.hid hok1; clear hok1
            go_wp2
            go_round
            case rel => exact ⟨k + 1, by omega, by go_num, rfl, HO1.out⟩
            case measure => simp [intOf]; try omega
    · obtain rfl : k = l := by omega
      go_wp2
      go_ret
      have h := HO.out
      rw [HL.out] at h
      have e : prodV sz = pr sz k := by rw [prodV, if_pos h, ← HL.out]
      rw [e]
      exact ⟨rfl, rfl⟩

theorem lenNe {a b : Nat} (h : a ≠ b) : ((a : Int) != (b : Int)) = true := by simp; omega

set_option maxHeartbeats 1000000 in
theorem of13_no (w : World) (sz cs : List Int) (a1 a2 : Option Addr) (c1 c2 : Nat) (hl : sz.length ≤ 1000000) (hl2 : cs.length ≤ 1000000) (r1 : IR .i64 w a1 sz) (hno : ofB sz cs = false) :
    Calls Try.prog 33 #[.slice a1 sz.length c1, .slice a2 cs.length c2] w fun e w' => e = .returned (.tuple #[.pointer none, .int .i64 1]) ∧ w' = w := by
  have hp := Lib.hid (product13 w sz a1 c1 hl r1)
  by_cases q0 : sz.length < 1
  · have q1 : decide ((sz.length : Int) < 1) = true := by simp; omega
    clear hno hl r1 hp
    go_enter Try.func33, Try.ntmps33
    go_wp2
    go_ret2
    exact ⟨rfl, rfl⟩
  have q1 : decide ((sz.length : Int) < 1) = false := by simp; omega
  by_cases q2 : 6 < sz.length
  · have q3 : decide ((sz.length : Int) > 6) = true := by simp; omega
    clear hno r1 hp
    go_enter Try.func33, Try.ntmps33
    go_wp2
    go_ret2
    exact ⟨rfl, rfl⟩
  have q3 : decide ((sz.length : Int) > 6) = false := by simp; omega
  cases hk : okp sz sz.length with
  | false =>
    have e0 : prodV sz = 0 := by simp [prodV, hk]
    rw [e0] at hp
    clear hno r1 e0 hk
    go_enter Try.func33, Try.ntmps33
    go_wp2_with (go_at_call 49; refine hp.out.mono ?_; rintro e w' ⟨rfl, rfl⟩)
    go_wp2
    go_ret2
    exact ⟨rfl, rfl⟩
  | true =>
    have e0 : prodV sz = pr sz sz.length := by simp [prodV, hk]
    rw [e0] at hp
    have hbd := okp_bd hk
    have hne : pr sz sz.length ≠ (cs.length : Int) := by
      simp only [ofB, hk, Bool.true_and, Bool.and_eq_false_iff, decide_eq_false_iff_not] at hno
      omega
    obtain ⟨p, hpe⟩ : ∃ p, p = pr sz sz.length := ⟨_, rfl⟩
    rw [← hpe] at hp hbd hne
    have b1 := hbd.1; have b2 := hbd.2.1
    have q4 : (p == 0) = false := by simp; omega
    have q5 : (p != (cs.length : Int)) = true := by simp; omega
    clear hno r1 e0 hk hbd hpe hne
    go_enter Try.func33, Try.ntmps33
    go_wp2_with (go_at_call 49; refine hp.out.mono ?_; rintro e w' ⟨rfl, rfl⟩)
    go_wp2
    go_ret2
    exact ⟨rfl, rfl⟩

set_option maxHeartbeats 1000000 in
theorem of13_yes (w : World) (sz cs : List Int) (a1 a2 : Option Addr) (c1 c2 : Nat) (r1 : IR .i64 w a1 sz) (r2 : IR .i64 w a2 cs) (hyes : ofB sz cs = true) :
    Calls Try.prog 33 #[.slice a1 sz.length c1, .slice a2 cs.length c2] w fun e w' => ∃ g, e = .returned (.tuple #[.pointer (some ⟨g, 0, none⟩), .int .i64 0]) ∧
      Two 32 (fun k => w.heap.size ≤ k) w' g sz cs ∧ Nw w w' := by
  have hwf := ofB_wf hyes
  have hlo := hwf.lo; have hhi := hwf.hi; have hmost := hwf.most; have hpos := hwf.pos'; have hlen := hwf.len
  have hp := Lib.hid (product13 w sz a1 c1 (by omega) r1)
  have e0 : prodV sz = cs.length := by rw [prodV, if_pos (wf_okp hwf _ (Nat.le_refl _)), hlen]
  rw [e0] at hp
  have q1 : decide ((sz.length : Int) < 1) = false := by simp; omega
  have q3 : decide ((sz.length : Int) > 6) = false := by simp; omega
  have q4 : ((cs.length : Int) == 0) = false := by simp; intro h; subst h; simp at hpos
  have q5 : ((cs.length : Int) != (cs.length : Int)) = false := by simp
  obtain ⟨b1, o1, rfl, -⟩ := IR_some r1 (by omega)
  obtain ⟨b2, o2, rfl, -⟩ := IR_some r2 (by omega)
  have R1 := Lib.hid r1; have R2 := Lib.hid r2
  clear hyes hwf hlen e0 r1 r2
  go_enter Try.func33, Try.ntmps33
  go_wp2_with (first | (go_at_call 49; refine hp.out.mono ?_; rintro e w' ⟨rfl, rfl⟩) | (at_builtin; refine appI rfl (.const (.slice none 0 0)) (.tmp 26) 30 3 .i64 8 rfl Try.underlying30 infoI (by omega) _ _ [] sz b1 o1 c1 rfl rfl R1.out (World.ownsRow_nil _ _ _ _) (by simp; omega) (by simp; omega) ?_))
  intro g1 k1 w1 ho1 hc1 hk1 hat1
  have n1 : Nw w w1 := (hk1.mono (T := fun _ => False) (fun b hb _ => by cases hb)).nw
  have g1n : w.heap.size ≤ g1 := by rcases hat1 with h | h; cases h; exact h
  have R2' := Lib.hid (R2.out.nw n1)
  have HO1 := Lib.hid ho1; have N1 := Lib.hid n1
  clear ho1 hk1 hat1 n1 R2
  go_wp2_with (at_builtin; refine appI rfl (.const (.slice none 0 0)) (.tmp 28) 30 3 .i64 8 rfl Try.underlying30 infoI (by omega) _ _ [] cs b2 o2 c2 rfl rfl R2'.out (World.ownsRow_nil _ _ _ _) (by simp; omega) (by simp; omega) ?_)
  intro g2 k2 w2 ho2 hc2 hk2 hat2
  have n2 : Nw w1 w2 := (hk2.mono (T := fun _ => False) (fun b hb _ => by cases hb)).nw
  have g2n : w1.heap.size ≤ g2 := by rcases hat2 with h | h; cases h; exact h
  have HO2 := Lib.hid ho2; have N2 := Lib.hid n2; have G2 := Lib.hid g2n
  clear ho2 hk2 hat2 n2 R2' g2n
  go_wp2
  go_ret2
  have n12 := nw_trans N1.out N2.out
  have l1 := own_lt HO1.out (b := g1) rfl
  refine ⟨_, rfl, ⟨_, _, ⟨blk_new _ _, nw_own (nw_alloc _ _) (nw_own N2.out HO1.out), nw_own (nw_alloc _ _) HO2.out, fun k h1 h2 => ?_⟩, n12.size, ?_, ?_⟩, nw_trans n12 (nw_alloc _ _)⟩
  · have e1 : g1 = k := by injection h1
    have e2 : g2 = k := by injection h2
    have := G2.out; omega
  · intro k h1; have e1 : g1 = k := by injection h1
    omega
  · intro k h1; have e1 : g2 = k := by injection h1
    have := G2.out; have := N1.out.size; omega
end Go.Proofs.Ytbofjdckmkifaaa
