/-
  The walk of the law SlabBack. Condition: its argument reads as one.
-/
import Derived.Test.YtbofjdckmkifaaaLG
import Derived.Test.YtbofjdckmkifaaaBack
namespace Go.Proofs.Ytbofjdckmkifaaa
open Go.RowKit

theorem turned_one {T : TypeId} {F : Nat → Prop} {w w' : World} {b : Nat} {code : Int} {p : List Int × List Int} {e : Ending} (h : Turned T F w b code p e w') : e = .returned (.int .i64 code) ∧ Two T (fun k => F k ∨ w.heap.size ≤ k) w' b p.1 p.2 ∧ Kp F w w' := h

set_option maxRecDepth 100000 in
set_option maxHeartbeats 8000000 in
theorem back_go (w : World) (d : Nat) (a : Option Addr) (len cap : Nat) (x i : Int) (h1 : 1 ≤ d) (h6 : d ≤ 6) (hs : Script w a len) (hlen : len ≤ 9223372036854775807) :
    Calls Try.prog 6 #[.agg #[.int .i64 (d : Int), .slice a len cap, .int .i64 x, .int .i64 i]] w fun e w' => e = .returned (.bool true) ∧ Nw w w' := by
  have H1 := Lib.hid (fun W (hn : Nw w W) => grown_go W d a len cap h1 h6 (hs.nw hn) hlen)
  clear hs hlen
  go_enter Try.func6, Try.ntmps6
  go_wp2
  generalize hW : w.alloc (.cells #[.int .i64 (d : Int), .slice a len cap, .int .i64 x, .int .i64 i] 49) = W1
  have hb : W1.heap[w.heap.size]? = some (.cells #[.int .i64 (d : Int), .slice a len cap, .int .i64 x, .int .i64 i] 49 (0, 0)) := by rw [← hW]; exact blk_new _ _
  have HN := Lib.hid (show Nw w W1 from hW ▸ nw_alloc _ _)
  generalize hg : w.heap.size = g at hb ⊢
  have HB := Lib.hid hb
  clear hW hg hb
  have e0 : W1.cell? ⟨g, 0, none⟩ = some (.int .i64 (d : Int)) := blk_cell HB.out 0
  have e1 : W1.cell? ⟨g, 1, none⟩ = some (.slice a len cap) := blk_cell HB.out 1
  have e2 : W1.cell? ⟨g, 2, none⟩ = some (.int .i64 x) := blk_cell HB.out 2
  have e3 : W1.cell? ⟨g, 3, none⟩ = some (.int .i64 i) := blk_cell HB.out 3
  go_quiet (fail)
  clear e0 e1 e2 e3 HB
  go_wp2_with fail
  refine (H1.out _ (nw_trans HN.out (nw_drewN _ _))).mono ?_; rintro e w1 ⟨g, rfl, hS⟩
  obtain ⟨sz, cs, F, hwf, hv, ht, hF, hn0, hl⟩ := hS
  have HF := Lib.hid hF
  have HFN : Hid (∀ k, F k → w.heap.size ≤ k) := Lib.hid (fun k hk => by have := (hF k hk).1; have := HN.out.size; simp at *; omega)
  have HT := Lib.hid ht; have HN1 := Lib.hid (nw_trans (nw_trans HN.out (nw_drewN _ _)) hn0); have HWF := Lib.hid hwf; have HV := Lib.hid hv
  have hm1 := hwf.hi; have hm2 := hwf.most; have hm3 := hwf.pos'
  have H2 := Lib.hid (sizesP F w1 g sz cs hwf ht)
  clear ht hn0 hwf hv hF H1 HN hl
  go_wp2_with fail
  refine H2.out.mono ?_; rintro e w2 ⟨ga, ca, rfl, ho, -, hn⟩
  have hga := own_ge ho (b := ga) rfl
  have HGA : Hid (¬ F ga) := Lib.hid (fun h => by have := (HF.out ga h).2; omega)
  have HT2 := Lib.hid (HT.out.nw hn); have HN2 := Lib.hid (nw_trans HN1.out hn)
  have IS := Lib.hid (own_rd ho)
  have H3 := Lib.hid (cellsP F w2 g sz cs HWF.out HT2.out)
  clear ho H2 HT HN1
  have hz12 := hn.size
  clear hn
  go_wp2_with fail
  refine H3.out.mono ?_; rintro e w3 ⟨gb, cb, rfl, ho, -, hn⟩
  have hgb := own_ge ho (b := gb) rfl
  have HGB : Hid (¬ F gb) := Lib.hid (fun h => by have := (HF.out gb h).2; omega)
  have hgb2 : gb < w3.heap.size := own_lt ho (b := gb) rfl
  have hga2 : ga < w3.heap.size := by
    obtain ⟨b, o, e0, hc⟩ := IS.out 0 (by have := HWF.out.lo; omega)
    cases e0
    have := World.block_lt_of_cell? _ _ hc; have := hn.size; simp at *; omega
  have HT3 := Lib.hid (HT2.out.nw hn); have HN3 := Lib.hid (nw_trans HN2.out hn)
  have IS3 := Lib.hid (IS.out.nw hn)
  have IC3 := Lib.hid (own_rd ho)
  have HF3 : Hid (∀ k, F k → k < w3.heap.size) := Lib.hid (fun k hk => by have := (HF.out k hk).2; have := hn.size; omega)
  clear ho hn H3 HT2 HN2 IS HF
  have HN3s := Lib.hid HN3.out.size
  have H4 := Lib.hid (growP HWF.out HT3.out x i)
  go_wp2_with fail
  refine H4.out.mono ?_; rintro e w4 hturn
  obtain ⟨rfl, ht, hk⟩ := turned_one hturn
  have HK := Lib.hid hk
  have HN4 := Lib.hid (kp_nw HN3.out hk HFN.out)
  have IS4 := Lib.hid (IS3.out.kp hk (fun d hd => by cases hd; exact HGA.out))
  have IC4 := Lib.hid (IC3.out.kp hk (fun d hd => by cases hd; exact HGB.out))
  have HT4 := Lib.hid ht
  clear hturn ht hk H4 HT3 HN3 IS3 IC3 HK
  by_cases hE : growE sz cs x i = 0
  · obtain ⟨hx0, hxl, hg2, hg3, hg4, hg5, hg6⟩ := back_law HWF.out hE
    obtain ⟨k, rfl⟩ := Int.eq_ofNat_of_zero_le hx0
    simp only [Int.toNat_natCast] at hg2 hg3 hg4 hg5 hg6
    have hkl : k < sz.length := by omega
    have hwf' := grow2_wf HWF.out (k : Int) i
    have hv' := grow2_vok (sz := sz) HV.out (k : Int) i
    rw [hg2] at HT4 hwf' hv'
    rw [hE]
    have hl := growS_length sz k
    generalize growS sz k = sz' at HT4 hwf' hv' hg3 hg5 hg6 hl
    generalize growC sz cs k i = cs' at HT4 hwf' hv' hg4 hg5 hg6
    dsimp only at HT4 hwf' hv'
    have HWF' := Lib.hid hwf'
    have hm4 := hwf'.most
    have hsb := HWF.out.size_le hkl
    have H5 := sizesP _ w4 g sz' cs' hwf' HT4.out
    rw [hl] at H5
    have H5 := Lib.hid H5
    generalize hs : rd sz k = s at hg3 hg4 hsb
    have HS := Lib.hid hs; have H3' := Lib.hid hg3; have HLL := Lib.hid hl
    have hb1 : (cs'.length : Int) * s ≤ 4096 * 4096 := Int.mul_le_mul (by omega) hsb.2 (by omega) (by omega)
    have hb0 : 0 ≤ (cs'.length : Int) * s := Int.mul_nonneg (by omega) (by omega)
    have HW1 : IntKind.i64.wrap ((cs'.length : Int) * s) = (cs'.length : Int) * s := IntWalk.i64_in _ (by omega)
    have HW2 : IntKind.i64.wrap ((cs.length : Int) * (s + 1)) = (cs'.length : Int) * s := by rw [← hg4]; exact HW1
    have hw3 : IntKind.i64.wrap (s + 1) = s + 1 := IntWalk.i64_in _ (by omega)
    have HG5 := Lib.hid hg5; have HG6 := Lib.hid hg6
    have hq1 : decide ((k : Int) < 0) = false := by simp
    have hq2 : decide (sz.length ≤ k) = false := by simp; omega
    clear hg2 hg4 hg5 hg6 hv' hwf' hE hx0 hxl hb0 hb1 hs hg3 hl
    go_wp2_with fail
    refine H5.out.mono ?_; rintro e w5 ⟨gc, cc, rfl, ho, -, hn⟩
    have IS5 := Lib.hid (IS4.out.nw hn); have IC5 := Lib.hid (IC4.out.nw hn)
    have HT5 := Lib.hid (HT4.out.nw hn); have HN5 := Lib.hid (nw_trans HN4.out hn)
    have hgc := own_rd ho
    obtain ⟨b1, o1, e1, c1⟩ := hgc k (by rw [HLL.out]; exact hkl)
    obtain ⟨b2, o2, e2, c2⟩ := IS5.out k hkl
    cases e1; cases e2
    rw [Nat.zero_add] at c1 c2
    rw [H3'.out] at c1; rw [HS.out] at c2
    have hgcw : gc < w5.heap.size := World.block_lt_of_cell? _ _ c1
    clear H5 ho hn hgc HT4 IS4 IC4 HN4 HS H3'
    go_upto_region 10 with fail
    go_cut [96] (fun s96 wx => s96 = .bool false ∧ Hid (Nw w5 wx))
    case first =>
      have H6 := Lib.hid (fun W (hn : Nw w5 W) => cellsP _ W g sz' cs' HWF'.out (HT5.out.nw hn))
      go_region_held3 (fun w' => w'.cell? ⟨gc, k, none⟩ = some (.int .i64 (s + 1)) ∧ w'.cell? ⟨ga, k, none⟩ = some (.int .i64 s))
        (first | exact ⟨f1, f2⟩ | go_keep)
        (first
          | (go_at_call 31; refine (H6.out w5.drew ⟨rfl, rfl, rfl, Nat.le_refl _, fun _ _ => rfl⟩).mono ?_; rintro e wa ⟨gd, cd, rfl, -, -, hn⟩; have f1 := nw_cell hn c1; have f2 := nw_cell hn c2; have HNa : Hid (Nw w5 wa) := Lib.hid (nw_trans (⟨rfl, rfl, rfl, Nat.le_refl _, fun _ _ => rfl⟩ : Nw w5 w5.drew) hn); clear hn))
      go_wp2
      go_meet
      exact ⟨rfl, HNa⟩
    case rest =>
      obtain ⟨rfl, hcut⟩ := hcut
      have HN6 := Lib.hid (nw_trans HN5.out hcut)
      have HT6 := Lib.hid (HT5.out.nw hcut)
      have IS6 := Lib.hid (IS5.out.nw hcut)
      have IC6 := Lib.hid (IC5.out.nw hcut)
      have H7 := shrinkP HWF'.out HT6.out (k : Int) i
      rw [HG5.out, HG6.out] at H7
      have H7 := Lib.hid H7
      clear hcut HN5 HT5 IS5 IC5 c1 c2 HW1 HW2 hw3
      go_wp2_with fail
      refine H7.out.mono ?_; rintro e w7 hturn
      obtain ⟨rfl, ht, hk⟩ := turned_one hturn
      dsimp only at ht
      have hz3 : ∀ k, (F k ∨ w3.heap.size ≤ k) → w.heap.size ≤ k := fun k hk => by
        rcases hk with hk | hk
        · exact HFN.out k hk
        · have := HN3s.out; omega
      have HN7 := Lib.hid (kp_nw HN6.out hk hz3)
      have IS7 := Lib.hid (IS6.out.kp hk (fun d hd h => by cases hd; rcases h with h | h; exact HGA.out h; exact absurd h (by simp; omega)))
      have IC7 := Lib.hid (IC6.out.kp hk (fun d hd h => by cases hd; rcases h with h | h; exact HGB.out h; exact absurd h (by simp; omega)))
      have H8 := Lib.hid (sizesP _ w7 g sz cs HWF.out ht)
      have HT7 := Lib.hid ht
      clear hturn ht hk hz3 H7 HN6 HT6 IS6 IC6
      go_wp2_with fail
      refine H8.out.mono ?_; rintro e w8 ⟨ge, ce, rfl, ho, -, hn⟩
      have H9 := Lib.hid (intsE w8 _ (some ⟨ga, 0, none⟩) ce ca sz (by omega) (own_rd ho) (IS7.out.nw hn))
      have IC8 := Lib.hid (IC7.out.nw hn)
      have HT8 := Lib.hid (HT7.out.nw hn); have HN8 := Lib.hid (nw_trans HN7.out hn)
      clear H8 ho hn IS7 IC7 HT7 HN7
      go_wp2_with fail
      refine H9.out.mono ?_; rintro e w9 ⟨rfl, m, hw⟩
      have hn : Nw w8 w9 := by rw [hw]; exact nw_drewN _ _
      have H10 := Lib.hid (cellsP _ w9 g sz cs HWF.out (HT8.out.nw hn))
      have IC9 := Lib.hid (IC8.out.nw hn); have HN9 := Lib.hid (nw_trans HN8.out hn)
      clear H9 hw hn IC8 HT8 HN8
      go_wp2_with fail
      refine H10.out.mono ?_; rintro e w10 ⟨gf, cf, rfl, ho, -, hn⟩
      have H11 := Lib.hid (intsE w10 _ (some ⟨gb, 0, none⟩) cf cb cs (by omega) (own_rd ho) (IC9.out.nw hn))
      have HN10 := Lib.hid (nw_trans HN9.out hn)
      clear H10 ho hn IC9 HN9
      go_wp2_with fail
      refine H11.out.mono ?_; rintro e w11 ⟨rfl, m2, hw⟩
      have HN11 := Lib.hid (nw_trans HN10.out (show Nw w10 w11 by rw [hw]; exact nw_drewN _ _))
      have HL := Lib.hid (live_true w11)
      clear H11 hw HN10
      go_wp2_with fail
      refine HL.out.mono ?_; rintro e w12 ⟨rfl, hn⟩
      have HN12 := Lib.hid (nw_trans HN11.out hn); clear hn
      go_wp2
      go_ret
      exact ⟨rfl, HN12.out⟩
  · have hg2 : grow2 sz cs x i = (sz, cs) := by rw [grow2, if_neg hE]
    rw [hg2] at HT4
    generalize growE sz cs x i = E at hE ⊢
    have q1 : (E != 0) = true := by simp [hE]
    have q2 : (E == 0) = false := by simp [hE]
    have H5 := Lib.hid (cellsP _ w4 g sz cs HWF.out HT4.out)
    clear hg2 hE
    go_wp2_with fail
    refine H5.out.mono ?_; rintro e w5 ⟨gc, cc, rfl, ho, -, hn⟩
    have H6 := Lib.hid (intsE w5 _ (some ⟨gb, 0, none⟩) cc cb cs (by omega) (own_rd ho) (IC4.out.nw hn))
    have HN5 := Lib.hid (nw_trans HN4.out hn)
    clear H5 ho hn
    go_wp2_with fail
    refine H6.out.mono ?_; rintro e w6 ⟨rfl, m, hw⟩
    have HN6 := Lib.hid (nw_trans HN5.out (show Nw w5 w6 by rw [hw]; exact nw_drewN _ _))
    have HL := Lib.hid (live_true w6)
    clear H6 hw HN5
    go_wp2_with fail
    refine HL.out.mono ?_; rintro e w9 ⟨rfl, hn⟩
    have HN9 := Lib.hid (nw_trans HN6.out hn); clear hn
    go_wp2
    go_ret
    exact ⟨rfl, HN9.out⟩
set_option maxRecDepth 100000 in
set_option maxHeartbeats 4000000 in
theorem back_none (w : World) (d : Int) (a : Option Addr) (len cap : Nat) (x i : Int) (hd : d < 1 ∨ 6 < d) (hs : Script w a len) (hlen : len ≤ 9223372036854775807) :
    Calls Try.prog 6 #[.agg #[.int .i64 d, .slice a len cap, .int .i64 x, .int .i64 i]] w fun e w' => e = .returned (.bool true) ∧ Nw w w' := by
  have H1 := Lib.hid (fun W (hn : Nw w W) => grown_none W d a len cap hd (hs.nw hn) hlen)
  clear hs hlen
  rcases (show d < 1 ∨ (¬ d < 1 ∧ 6 < d) by omega) with hd1 | ⟨hd1, hd2⟩
  all_goals
    clear hd
    go_enter Try.func6, Try.ntmps6
    go_wp2
    generalize hW : w.alloc (.cells #[.int .i64 d, .slice a len cap, .int .i64 x, .int .i64 i] 49) = W1
    have hb : W1.heap[w.heap.size]? = some (.cells #[.int .i64 d, .slice a len cap, .int .i64 x, .int .i64 i] 49 (0, 0)) := by rw [← hW]; exact blk_new _ _
    have HN := Lib.hid (show Nw w W1 from hW ▸ nw_alloc _ _)
    generalize hg : w.heap.size = g at hb ⊢
    have HB := Lib.hid hb
    clear hW hg hb
    have e0 : W1.cell? ⟨g, 0, none⟩ = some (.int .i64 d) := blk_cell HB.out 0
    have e1 : W1.cell? ⟨g, 1, none⟩ = some (.slice a len cap) := blk_cell HB.out 1
    have e2 : W1.cell? ⟨g, 2, none⟩ = some (.int .i64 x) := blk_cell HB.out 2
    have e3 : W1.cell? ⟨g, 3, none⟩ = some (.int .i64 i) := blk_cell HB.out 3
    go_quiet (fail)
    clear e0 e1 e2 e3 HB
    go_wp2_with fail
    refine (H1.out _ (nw_trans HN.out (nw_drewN _ _))).mono ?_; rintro e w1 ⟨rfl, hn⟩
    have HN1 := Lib.hid (nw_trans (nw_trans HN.out (nw_drewN _ _)) hn)
    clear hn H1 HN
    have HL := Lib.hid (live_true w1)
    go_wp2_with fail
    refine HL.out.mono ?_; rintro e w2 ⟨rfl, hn⟩
    have HN2 := Lib.hid (nw_trans HN1.out hn); clear hn
    go_wp2
    go_ret
    exact ⟨rfl, HN2.out⟩
end Go.Proofs.Ytbofjdckmkifaaa
