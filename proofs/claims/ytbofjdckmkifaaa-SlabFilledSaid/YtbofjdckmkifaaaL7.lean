/-
  The walk of the law SlabFilled. Conditions: its arguments read as such.
-/
import Derived.Test.YtbofjdckmkifaaaLG
import Derived.Test.YtbofjdckmkifaaaPlain13
import Derived.Test.YtbofjdckmkifaaaReadOp
namespace Go.Proofs.Ytbofjdckmkifaaa
open Go.RowKit

set_option maxRecDepth 100000 in
set_option maxHeartbeats 4000000 in
theorem filled_none (w : World) (d : Int) (a : Option Addr) (len cap : Nat) (x : OpV) (hd : d < 1 ∨ 6 < d) (hs : Script w a len) (hlen : len ≤ 9223372036854775807) :
    Calls Try.prog 7 #[.int .i64 d, .slice a len cap, opVal x] w fun e w' => e = .returned (.bool true) ∧ Nw w w' := by
  obtain ⟨k, at_, i, n, low, high, al, cl, ah, ch⟩ := x
  have H1 := Lib.hid (fun W (hn : Nw w W) => grown_none W d a len cap hd (hs.nw hn) hlen)
  clear hs hlen hd
  unfold opVal
  go_enter Try.func7, Try.ntmps7
  go_wp2_with fail
  refine (H1.out _ (nw_alloc _ _)).mono ?_; rintro e w1 ⟨rfl, hn⟩
  have HN1 := Lib.hid (nw_trans (nw_alloc _ _) hn)
  clear hn H1
  have HL := Lib.hid (live_true w1)
  go_wp2_with fail
  refine HL.out.mono ?_; rintro e w2 ⟨rfl, hn⟩
  have HN2 := Lib.hid (nw_trans HN1.out hn); clear hn
  go_wp2
  go_ret
  exact ⟨rfl, HN2.out⟩

set_option maxRecDepth 100000 in
set_option maxHeartbeats 8000000 in
theorem filled_go (w : World) (d : Nat) (a : Option Addr) (len cap : Nat) (k at_ i n : Int) (low high : List Int) (al ah : Option Addr) (cl ch : Nat) (h1 : 1 ≤ d) (h6 : d ≤ 6) (hs : Script w a len) (hlen : len ≤ 9223372036854775807)
    (rl : IR .i64 w al low) (rh : IR .i64 w ah high) (hn_ : (Lit.int .i64 n).wf = true) (l1 : low.length ≤ 9223372036854775807) (l2 : high.length ≤ 9223372036854775807) :
    Calls Try.prog 7 #[.int .i64 (d : Int), .slice a len cap, .agg #[.int .i64 k, .int .i64 at_, .int .i64 i, .int .i64 n, .slice al low.length cl, .slice ah high.length ch]] w fun e w' => e = .returned (.bool true) ∧ Nw w w' := by
  have H1 := Lib.hid (fun W (hn : Nw w W) => grown_go W d a len cap h1 h6 (hs.nw hn) hlen)
  have RL := Lib.hid rl; have RH := Lib.hid rh; have HNW := Lib.hid hn_
  clear hs hlen rl rh hn_
  go_enter Try.func7, Try.ntmps7
  go_upto_region 1 with fail
  generalize hW : w.alloc (.cells #[.int .i64 k, .int .i64 at_, .int .i64 i, .int .i64 n, .slice al low.length cl, .slice ah high.length ch] 34) = W1
  have hb : W1.heap[w.heap.size]? = some (.cells #[.int .i64 k, .int .i64 at_, .int .i64 i, .int .i64 n, .slice al low.length cl, .slice ah high.length ch] 34 (0, 0)) := by rw [← hW]; exact blk_new _ _
  have HN := Lib.hid (show Nw w W1 from hW ▸ nw_alloc _ _)
  have hg0 : w.heap.size < W1.heap.size := blk_lt hb
  obtain ⟨g0, hg⟩ : ∃ g, g = w.heap.size := ⟨_, rfl⟩
  rw [← hg] at hb hg0 ⊢
  have HB := Lib.hid hb
  have HG := Lib.hid (Nat.le_of_eq hg)
  clear hW hb hg
  have hg := HG.out
  go_wp2_with fail
  refine (H1.out W1 HN.out).mono ?_; rintro e w1 ⟨g, rfl, hS⟩
  obtain ⟨sz, cs, F, hwf, hv, ht, hF, hn0, hl⟩ := hS
  have HF := Lib.hid (fun k hk => (hF k hk).2)
  have NG : Hid (¬ F g0) := Lib.hid (fun h => by have := (hF _ h).1; omega)
  have X1 : Hid ((0 < low.length → ∀ d, al = some d → ¬ F d.block) ∧ (0 < high.length → ∀ d, ah = some d → ¬ F d.block)) := Lib.hid
    ⟨fun h d hd hf => by have := RL.out.lt h hd; have := (hF _ hf).1; have := HN.out.size; omega, fun h d hd hf => by have := RH.out.lt h hd; have := (hF _ hf).1; have := HN.out.size; omega⟩
  have HFN : Hid (∀ k, F k → w.heap.size ≤ k) := Lib.hid (fun k hk => by have := (hF k hk).1; have := HN.out.size; omega)
  have e3 : w1.cell? ⟨g0, 3, none⟩ = some (.int .i64 n) := nw_cell hn0 (blk_cell HB.out 3)
  have e4 : w1.cell? ⟨g0, 4, none⟩ = some (.slice al low.length cl) := nw_cell hn0 (blk_cell HB.out 4)
  have e5 : w1.cell? ⟨g0, 5, none⟩ = some (.slice ah high.length ch) := nw_cell hn0 (blk_cell HB.out 5)
  have HN1 := Lib.hid (nw_trans HN.out hn0)
  have HT := Lib.hid ht; have HWF := Lib.hid hwf; have HV := Lib.hid hv
  have m1 := hwf.hi; have m2 := hwf.most; have m3 := hwf.pos'
  clear H1 HN HB hwf hv ht hn0 hF hl hg hg0 HG h1 h6
  by_cases hbig : 20 < low.length ∨ 20 < high.length
  · have HL := Lib.hid (live_true w1)
    rcases (show 20 < low.length ∨ (low.length ≤ 20 ∧ 20 < high.length) by omega) with b1 | ⟨b1, b2⟩
    all_goals
      clear hbig
      go_wp2_with fail
      refine HL.out.mono ?_; rintro e w3 ⟨rfl, hn⟩
      have HN2 := Lib.hid (nw_trans HN1.out hn); clear hn
      go_wp2
      go_ret
      exact ⟨rfl, HN2.out⟩
  · have b1 : low.length ≤ 20 := by omega
    have b2 : high.length ≤ 20 := by omega
    clear hbig l1 l2
    have H2 := Lib.hid (cellsP F w1 g sz cs HWF.out HT.out)
    go_wp2_with fail
    refine H2.out.mono ?_; rintro e w2 ⟨gb, cb, rfl, ho, -, hn⟩
    have hgb := own_ge ho (b := gb) rfl
    have HGB : Hid (¬ F gb) := Lib.hid (fun h => by have := HF.out gb h; omega)
    have hgb2 : gb < w2.heap.size := own_lt ho (b := gb) rfl
    have f3 := nw_cell hn e3; have f4 := nw_cell hn e4; have f5 := nw_cell hn e5
    have HT2 := Lib.hid (HT.out.nw hn); have HN2 := Lib.hid (nw_trans HN1.out hn)
    have IC := Lib.hid (own_rd ho)
    clear ho hn H2 HT HN1 e3 e4 e5 hgb
    have H3 := Lib.hid (fillP (cl := cl) (ch := ch) HWF.out HT2.out (RL.out.nw HN2.out) (RH.out.nw HN2.out) X1.out.1 X1.out.2 n)
    go_wp2_with fail
    refine H3.out.mono ?_; rintro e w3 hturn
    obtain ⟨rfl, ht, hk⟩ : e = .returned (.int .i64 (fillE sz low high)) ∧ Two 77 (fun k => F k ∨ w2.heap.size ≤ k) w3 g (fill2 sz cs low high n).1 (fill2 sz cs low high n).2 ∧ Kp F w2 w3 := hturn
    have e3 := hk.cell (a := ⟨g0, 3, none⟩) f3 NG.out; have e4 := hk.cell (a := ⟨g0, 4, none⟩) f4 NG.out; have e5 := hk.cell (a := ⟨g0, 5, none⟩) f5 NG.out
    have RL3 := Lib.hid ((RL.out.nw HN2.out).kp0 hk X1.out.1); have RH3 := Lib.hid ((RH.out.nw HN2.out).kp0 hk X1.out.2)
    have IC3 := Lib.hid (IC.out.kp hk (fun d hd => by cases hd; exact HGB.out))
    have HN3 := Lib.hid (kp_nw HN2.out hk HFN.out)
    have hwf' := fill2_wf (low := low) (high := high) HWF.out n
    have hv' := fill2_vok (sz := sz) (low := low) (high := high) HV.out HNW.out
    clear hk H3 HT2 HN2 IC f3 f4 f5 RL RH X1
    cases hm : mayB sz low high with
    | false =>
      simp only [fill2, fillE, hm] at ht hwf' hv' ⊢
      simp only [Bool.false_eq_true, if_false] at ht hwf' hv' ⊢
      have hs1 : fillE sz low high = 1 := by simp [fillE, hm]
      have hs2 : seenL sz cs low high = [] := by simp [seenL, hm]
      have H4 := Lib.hid (seenX (cl := cl) (ch := ch) HWF.out HV.out ht RL3.out RH3.out hs2 hs1)
      have HT3 := Lib.hid ht
      clear ht hwf' hv' hs1 hs2 hm
      go_wp2_with fail
      refine H4.out.mono ?_; rintro e w4 ⟨av, c4, rfl, -, -, hn⟩
      have H5 := Lib.hid (cellsP _ w4 g sz cs HWF.out (HT3.out.nw hn))
      have IC4 := Lib.hid (IC3.out.nw hn); have HN4 := Lib.hid (nw_trans HN3.out hn)
      clear hn H4 HT3 IC3 HN3 e3 e4 e5 RL3 RH3
      go_wp2_with fail
      refine H5.out.mono ?_; rintro e w5 ⟨gf, cf, rfl, ho, -, hn⟩
      have H11 := Lib.hid (intsE w5 _ (some ⟨gb, 0, none⟩) cf cb cs (by omega) (own_rd ho) (IC4.out.nw hn))
      have HN5 := Lib.hid (nw_trans HN4.out hn)
      clear H5 ho hn IC4 HN4
      go_wp2_with fail
      refine H11.out.mono ?_; rintro e w6 ⟨rfl, m2, hw⟩
      have HN6 := Lib.hid (nw_trans HN5.out (show Nw w5 w6 by rw [hw]; exact nw_drewN _ _))
      have HL := Lib.hid (live_true w6)
      clear H11 hw HN5
      go_wp2_with fail
      refine HL.out.mono ?_; rintro e w7 ⟨rfl, hn⟩
      have HN7 := Lib.hid (nw_trans HN6.out hn); clear hn
      go_wp2
      go_ret
      exact ⟨rfl, HN7.out⟩
    | true =>
      simp only [fill2, fillE, hm, if_true] at ht hwf' hv' ⊢
      have hs1 : fillE sz low high = 0 := by simp [fillE, hm]
      have hlf : (fillL sz cs low high n).length = cs.length := by simp [fillL]
      obtain ⟨y1, y2, y3, y4⟩ := filled_get HWF.out hm n
      have H4 := Lib.hid (seenX (cl := cl) (ch := ch) hwf' hv' ht RL3.out RH3.out (filled_seen HWF.out hm n) hs1)
      have HT3 := Lib.hid ht; have HM := Lib.hid hm; have HWF' := Lib.hid hwf'
      have Y := Lib.hid (And.intro y1 (And.intro y2 (And.intro y3 y4)))
      obtain ⟨cs', hcs⟩ : ∃ cs', cs' = fillL sz cs low high n := ⟨_, rfl⟩
      have HCS := Lib.hid hcs; have HLF := Lib.hid (hcs ▸ hlf)
      rw [← hcs] at HT3 HWF' Y
      clear ht hwf' hv' hs1 hm hlf y1 y2 y3 y4 hcs
      go_wp2_with fail
      refine H4.out.mono ?_; rintro e w4 ⟨av, c4, rfl, hir, -, hn⟩
      have f3 := nw_cell hn e3; have f4 := nw_cell hn e4; have f5 := nw_cell hn e5
      have RL4 := Lib.hid (RL3.out.nw hn); have RH4 := Lib.hid (RH3.out.nw hn)
      have IC4 := Lib.hid (IC3.out.nw hn); have HN4 := Lib.hid (nw_trans HN3.out hn); have HT4 := Lib.hid (HT3.out.nw hn)
      have HIR := Lib.hid hir
      have H5 := getP _ w4 g sz cs' low al cl HWF'.out HT4.out RL4.out
      have H6 := getP _ w4 g sz cs' high ah ch HWF'.out HT4.out RH4.out
      rw [Y.out.1, Y.out.2.2.1] at H5
      rw [Y.out.2.1, Y.out.2.2.2] at H6
      have H5 := Lib.hid H5; have H6 := Lib.hid H6
      clear hir hn H4 HT3 IC3 HN3 e3 e4 e5 RL3 RH3 Y
      go_wp2_with fail
      refine H5.out.mono ?_; rintro e w' ⟨rfl, rfl⟩
      go_wp2_with fail
      refine H6.out.mono ?_; rintro e w' ⟨rfl, rfl⟩
      have H7 := intsE (w4.alloc (.cells (iv .i64 [n]).toArray 3)) av (some ⟨w4.heap.size, 0, none⟩) c4 1 [n] (by simp) (HIR.out.nw (nw_alloc _ _)) (ir_lit w4 _ _)
      have H7 := Lib.hid H7
      clear H5 H6 HIR
      go_wp2_with fail
      refine H7.out.mono ?_; rintro e w5 ⟨rfl, m5, hw⟩
      have hn : Nw w4 w5 := by rw [hw]; exact nw_trans (nw_alloc _ _) (nw_drewN _ _)
      have e3 := nw_cell hn f3; have e4 := nw_cell hn f4; have e5 := nw_cell hn f5
      have RL5 := Lib.hid (RL4.out.nw hn); have RH5 := Lib.hid (RH4.out.nw hn)
      have IC5 := Lib.hid (IC4.out.nw hn); have HN5 := Lib.hid (nw_trans HN4.out hn)
      have H8 := Lib.hid (cellsP _ w5 g sz cs' HWF'.out (HT4.out.nw hn))
      clear H7 hw hn f3 f4 f5 RL4 RH4 IC4 HN4 HT4
      go_wp2_with fail
      refine H8.out.mono ?_; rintro e w6 ⟨gn, cn, rfl, ho, -, hn⟩
      have f3 := nw_cell hn e3; have f4 := nw_cell hn e4; have f5 := nw_cell hn e5
      have RL6 := Lib.hid (RL5.out.nw hn); have RH6 := Lib.hid (RH5.out.nw hn)
      have IC6 := Lib.hid (IC5.out.nw hn); have HN6 := Lib.hid (nw_trans HN5.out hn)
      have IN6 := Lib.hid (own_rd ho)
      clear H8 ho hn e3 e4 e5 RL5 RH5 IC5 HN5
      rw [HLF.out]
      go_wp2
      go_loopw [18, 19] (fun c i wr => ∃ k : Nat, k ≤ low.length ∧ i = .int .i64 (k : Int) ∧ c = .int .i64 (vol low high k) ∧ Hid (Nw w6 wr)) (fun _ i _ => low.length - (intOf i).toNat)
      case atStart => exact ⟨0, Nat.zero_le _, rfl, rfl, Below.refl _ _⟩
      case round =>
        obtain ⟨k, hk, rfl, rfl, HR⟩ := hrel
        have e3 := nw_cell HR.out f3; have e4 := nw_cell HR.out f4; have e5 := nw_cell HR.out f5
        clear f3 f4 f5
        by_cases hlt : k < low.length
        · obtain ⟨q1, q2, q3, q4, q5⟩ := may_facts HM.out
          obtain ⟨bl, ol, rfl, cl'⟩ := (RL6.out.nw HR.out) k hlt
          obtain ⟨bh, oh, rfl, ch'⟩ := (RH6.out.nw HR.out) k (by omega)
          have z1 := okc_at q3 (show k < sz.length by omega)
          have z2 := okc_at q4 (show k < sz.length by omega)
          have z3 := q5 k (by omega)
          have z4 := HWF.out.size_le (show k < sz.length by omega)
          have z5 := vol_bd HWF.out HM.out (k + 1) (by omega)
          have z6 := HWF.out.pr_le (show k + 1 ≤ sz.length by omega)
          have hw1 : IntKind.i64.wrap (rd high k - rd low k) = rd high k - rd low k := IntWalk.i64_in _ (by omega)
          have hw2 : IntKind.i64.wrap (rd high k - rd low k + 1) = rd high k - rd low k + 1 := IntWalk.i64_in _ (by omega)
          have hw3 : IntKind.i64.wrap (vol low high k * (rd high k - rd low k + 1)) = vol low high (k + 1) := by
            show IntKind.i64.wrap (vol low high (k + 1)) = _
            exact IntWalk.i64_in _ (by omega)
          have hi1 : k < high.length := by omega
          clear q1 q2 q3 q4 q5 z1 z2 z3 z4 z5 z6
          go_wp2
          go_quiet (fail)
          go_wp2
          go_roundw
          case rel => exact ⟨k + 1, by omega, by go_num, rfl, nw_trans HR.out (by first | exact nw_drewN _ _ | exact nw_trans (nw_drewN _ _) (nw_drewN _ _))⟩
          case measure => simp [intOf]; try omega
        · obtain rfl : k = low.length := by omega
          have q1 := (may_facts HM.out).1
          have z5 := vol_bd HWF.out HM.out low.length (by omega)
          have z6 := HWF.out.pr_le (show low.length ≤ sz.length by omega)
          have z7 := vol_eqN HWF.out HM.out n
          rw [← HCS.out, ← q1] at z7
          have v1 := z5.1
          have v2 : vol low high low.length ≤ 4096 := by omega
          have HN7 := Lib.hid (nw_trans HN6.out HR.out); have IC7 := Lib.hid (IC6.out.nw HR.out); have IN7 := Lib.hid (IN6.out.nw HR.out)
          obtain ⟨wo, rfl⟩ : ∃ wo : World, wo = wr := ⟨_, rfl⟩
          have HZ7 := Lib.hid z7
          obtain ⟨V, hV⟩ : ∃ V, V = vol low high low.length := ⟨_, rfl⟩
          rw [← hV] at HZ7 v1 v2 ⊢
          clear q1 z5 z6 z7 HR HN6 IC6 IN6 RL6 RH6 hV
          go_wp2
          go_loopw [18, 20] (fun c i wr => ∃ k : Nat, k ≤ cs.length ∧ i = .int .i64 (k : Int) ∧ c = .int .i64 (V - (eqN cs' n k : Nat)) ∧ Hid (Nw wo wr)) (fun _ i _ => cs.length - (intOf i).toNat)
          case atStart => exact ⟨0, Nat.zero_le _, rfl, by simp [eqN, cnt], Below.refl _ _⟩
          case round =>
            obtain ⟨k, hk, rfl, rfl, HR⟩ := hrel
            have f3 := nw_cell HR.out e3
            clear e3 e4 e5
            by_cases hlt : k < cs.length
            · obtain ⟨b7, o7, e0, c7⟩ := (IN7.out.nw HR.out) k (by rw [HLF.out]; exact hlt)
              cases e0
              obtain ⟨b8, o8, e0, c8⟩ := (IC7.out.nw HR.out) k hlt
              cases e0
              rw [Nat.zero_add] at c7 c8
              have z1 := eqN_le cs' n k
              have z2 := eqN_step cs' n k
              have hrd : rd cs' k = if hitB sz low high k = true then n else rd cs k := by rw [HCS.out]; exact rd_fillL n hlt
              by_cases hq : rd cs' k = n
              · rw [hq] at c7
                have HE : Hid (eqN cs' n (k + 1) = eqN cs' n k + 1) := Lib.hid (by rw [z2, if_pos hq])
                have hw1 : IntKind.i64.wrap (V - (eqN cs' n k : Nat) - 1) = V - (eqN cs' n k : Nat) - 1 := IntWalk.i64_in _ (by omega)
                clear z2 hrd hq
                go_wp2
                go_quiet (fail)
                go_wp2
                go_quiet (fail)
                go_wp2
                go_roundw
                case rel => exact ⟨k + 1, by omega, by go_num, by rw [HE.out]; congr 1; omega, nw_trans HR.out (by first | exact nw_drewN _ _ | exact nw_trans (nw_drewN _ _) (nw_drewN _ _))⟩
                case measure => simp [intOf]; try omega
              · have hr2 : rd cs' k = rd cs k := by
                  rw [hrd]; split
                  · rename_i hh; rw [if_pos hh] at hrd; exact absurd hrd hq
                  · rfl
                rw [hr2] at c7 hq
                have HE : Hid (eqN cs' n (k + 1) = eqN cs' n k) := Lib.hid (by rw [z2, if_neg (by rw [hr2]; exact hq)]; rfl)
                have hq1 : (rd cs k == n) = false := by simp [hq]
                have hq2 : (rd cs k != n) = true := by simp [hq]
                clear z2 hrd hr2 hq
                go_wp2
                go_quiet (fail)
                go_wp2
                go_quiet (fail)
                go_wp2
                go_roundw
                case rel => exact ⟨k + 1, by omega, by go_num, by rw [HE.out], nw_trans HR.out (by first | exact nw_drewN _ _ | exact nw_trans (nw_drewN _ _) (nw_drewN _ _))⟩
                case measure => simp [intOf]; try omega
            · obtain rfl : k = cs.length := by omega
              have HN8 := Lib.hid (nw_trans HN7.out HR.out)
              have HL := Lib.hid (live_true wr)
              have hq : decide (V - (eqN cs' n cs.length : Nat) ≤ 0) = true := by have := HZ7.out; simp; omega
              clear HR HN7 IC7 IN7
              go_wp2_with fail
              refine HL.out.mono ?_; rintro e w9 ⟨rfl, hn⟩
              have HN9 := Lib.hid (nw_trans HN8.out hn); clear hn
              go_wp2
              go_ret
              exact ⟨rfl, HN9.out⟩
theorem slabFilled_all (w : World) (d : Int) (_hd : (Lit.int .i64 d).wf = true) (a : Option Addr) (len cap : Nat) (hlen : len ≤ 9223372036854775807) (hs : Script w a len) (x : OpV) (o : OpIs w x) :
    Calls Try.prog 7 #[.int .i64 d, .slice a len cap, opVal x] w fun e w' => e = .returned (.bool true) ∧ Nw w w' := by
  by_cases hd : d < 1 ∨ 6 < d
  · exact filled_none w d a len cap x hd hs hlen
  · obtain ⟨d', rfl⟩ := Int.eq_ofNat_of_zero_le (show 0 ≤ d by omega)
    obtain ⟨k, at_, i, n, low, high, al, cl, ah, ch⟩ := x
    exact filled_go w d' a len cap k at_ i n low high al ah cl ch (by omega) (by omega) hs hlen o.rl o.rh o.n_ o.l1 o.l2
end Go.Proofs.Ytbofjdckmkifaaa
