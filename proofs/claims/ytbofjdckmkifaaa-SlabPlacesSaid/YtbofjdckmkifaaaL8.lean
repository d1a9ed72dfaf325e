/-
  The walk of the law SlabPlaces. Condition: its script reads as one.
-/
import Derived.Test.YtbofjdckmkifaaaLG
namespace Go.Proofs.Ytbofjdckmkifaaa
open Go.RowKit

theorem cell_is {sz cs : List Int} (hwf : Wf sz cs) {q : Nat} (hq : q < cs.length) : isCell sz (cellL sz (q : Int)) = true := by
  simp only [isCell, cellL_length, decide_true, Bool.true_and]
  exact okc_of fun k hk => cellL_bd hwf.pos _ hk
theorem place_cell {sz cs : List Int} (hwf : Wf sz cs) {q : Nat} (hq : q < cs.length) : placeV sz (cellL sz (q : Int)) = q ∧ placeE sz (cellL sz (q : Int)) = 0 ∧ getV sz cs (cellL sz (q : Int)) = rd cs q := by
  have h := cell_is hwf hq
  have e := plc_of hwf hq
  refine ⟨by rw [placeV, if_pos h, cellL_length, e], by rw [placeE, if_pos h], by rw [getV, if_pos h, cellL_length, e]; rfl⟩

set_option maxRecDepth 100000 in
set_option maxHeartbeats 4000000 in
theorem places_none (w : World) (d : Int) (a : Option Addr) (len cap : Nat) (hd : d < 1 ∨ 6 < d) (hs : Script w a len) (hlen : len ≤ 9223372036854775807) :
    Calls Try.prog 8 #[.int .i64 d, .slice a len cap] w fun e w' => e = .returned (.bool true) ∧ Nw w w' := by
  have H1 := Lib.hid (grown_none w d a len cap hd hs hlen)
  clear hs hlen
  rcases hd with hd | hd
  · go_enter Try.func8, Try.ntmps8
    go_wp2_with fail
    refine H1.out.mono ?_; rintro e w1 ⟨rfl, hn⟩
    have HN := Lib.hid hn; clear hn H1
    have HL := Lib.hid (live_true w1)
    go_wp2_with fail
    refine HL.out.mono ?_; rintro e w2 ⟨rfl, hn⟩
    have HN2 := Lib.hid (nw_trans HN.out hn); clear hn
    go_wp2
    go_ret
    exact ⟨rfl, HN2.out⟩
  · have hd1 : ¬ d < 1 := by omega
    go_enter Try.func8, Try.ntmps8
    go_wp2_with fail
    refine H1.out.mono ?_; rintro e w1 ⟨rfl, hn⟩
    have HN := Lib.hid hn; clear hn H1
    have HL := Lib.hid (live_true w1)
    go_wp2_with fail
    refine HL.out.mono ?_; rintro e w2 ⟨rfl, hn⟩
    have HN2 := Lib.hid (nw_trans HN.out hn); clear hn
    go_wp2
    go_ret
    exact ⟨rfl, HN2.out⟩

set_option maxRecDepth 100000 in
set_option maxHeartbeats 4000000 in
theorem places_go (w : World) (d : Nat) (a : Option Addr) (len cap : Nat) (h1 : 1 ≤ d) (h6 : d ≤ 6) (hs : Script w a len) (hlen : len ≤ 9223372036854775807) :
    Calls Try.prog 8 #[.int .i64 (d : Int), .slice a len cap] w fun e w' => e = .returned (.bool true) ∧ Nw w w' := by
  have H1 := Lib.hid (grown_go w d a len cap h1 h6 hs hlen)
  clear hs hlen
  go_enter Try.func8, Try.ntmps8
  go_wp2_with fail
  refine H1.out.mono ?_; rintro e w1 ⟨g, rfl, hS⟩
  obtain ⟨sz, cs, F, hwf, hv, ht, -, hn0, hl⟩ := hS
  subst hl
  have HT := Lib.hid ht; have HN := Lib.hid hn0; have HWF := Lib.hid hwf
  have hm1 := hwf.hi; have hm2 := hwf.most; have hm3 := hwf.pos'
  have H2 := Lib.hid (sizesP F w1 g sz cs hwf ht)
  clear ht hn0 hwf hv H1
  go_wp2_with fail
  refine H2.out.mono ?_; rintro e w2 ⟨ga, ca, rfl, ho, -, hn⟩
  have HT2 := Lib.hid (HT.out.nw hn); have HN2 := Lib.hid (nw_trans HN.out hn)
  have IS := Lib.hid (own_rd ho)
  have H3 := Lib.hid (cellsP F w2 g sz cs HWF.out HT2.out)
  clear ho hn H2 HT HN
  go_wp2_with fail
  refine H3.out.mono ?_; rintro e w3 ⟨gb, cb, rfl, ho, -, hn⟩
  have HT3 := Lib.hid (HT2.out.nw hn); have HN3 := Lib.hid (nw_trans HN2.out hn)
  have IS3 := Lib.hid (IS.out.nw hn)
  have IC := Lib.hid (own_rd ho)
  clear ho hn H3 HT2 HN2 IS
  go_wp2
  go_loopw [8] (fun i wr => ∃ k : Nat, k ≤ sz.length ∧ i = .int .i64 (k : Int) ∧ Hid (Nw w3 wr)) (fun i _ => sz.length - (intOf i).toNat)
  case atStart => exact ⟨0, Nat.zero_le _, rfl, Below.refl _ _⟩
  case round =>
    obtain ⟨k, hk, rfl, HR⟩ := hrel
    by_cases hlt : k < sz.length
    · obtain ⟨b, o, e0, hc⟩ := (IS3.out.nw HR.out) k hlt
      cases e0
      rw [Nat.zero_add] at hc
      have hp := (HWF.out.size_le hlt)
      obtain ⟨hp1, hp2⟩ := hp
      have q : decide (rd sz k < 1) = false := by simp; omega
      go_wp2
      go_roundw
      case rel => exact ⟨k + 1, by omega, by go_num, HR⟩
      case measure => simp [intOf]; try omega
    · obtain rfl : k = sz.length := by omega
      have HN4 := Lib.hid (nw_trans HN3.out HR.out)
      have HT4 := Lib.hid (HT3.out.nw HR.out)
      have IS4 := Lib.hid (IS3.out.nw HR.out)
      have IC4 := Lib.hid (IC.out.nw HR.out)
      clear HN3 HT3 IS3 IC HR
      obtain ⟨wo, rfl⟩ : ∃ wo : World, wo = wr := ⟨_, rfl⟩
      go_wp2
      go_loopw [9] (fun i wr => ∃ k : Nat, k ≤ cs.length ∧ i = .int .i64 (k : Int) ∧ Hid (Nw wo wr)) (fun i _ => cs.length - (intOf i).toNat)
      case atStart => exact ⟨0, Nat.zero_le _, rfl, Below.refl _ _⟩
      case round =>
        obtain ⟨k, hk, rfl, HR⟩ := hrel
        by_cases hlt : k < cs.length
        · obtain ⟨b, o, e0, hc⟩ := (IC4.out.nw HR.out) k hlt
          cases e0
          rw [Nat.zero_add] at hc
          have HC := Lib.hid hc
          have H4 := Lib.hid (cell13 wr sz (some ⟨ga, 0, none⟩) ca k (by omega) (by omega) h1 h6 (fun k hk => HWF.out.size_le hk) (IS4.out.nw HR.out))
          clear hc
          go_wp2_with fail
          refine H4.out.mono ?_; rintro e wx ⟨gx, rfl, -, hb, hn⟩
          have hpc := place_cell HWF.out hlt
          have H5 := Lib.hid (placeP F wx g sz cs (cellL sz (k : Int)) (some ⟨gx, 0, none⟩) sz.length HWF.out (HT4.out.nw (nw_trans HR.out hn)) (IR_of_blk hb))
          have H6 := Lib.hid (getP F wx g sz cs (cellL sz (k : Int)) (some ⟨gx, 0, none⟩) sz.length HWF.out (HT4.out.nw (nw_trans HR.out hn)) (IR_of_blk hb))
          rw [cellL_length, hpc.1, hpc.2.1] at H5
          rw [cellL_length, hpc.2.1, hpc.2.2] at H6
          have hc := nw_cell hn HC.out
          have HR2 := Lib.hid (nw_trans HR.out hn)
          clear hn hb H4 hpc HR HC
          go_wp2_with fail
          refine H5.out.mono ?_; rintro e w' ⟨rfl, rfl⟩
          go_wp2_with fail
          refine H6.out.mono ?_; rintro e w' ⟨rfl, rfl⟩
          clear H5 H6
          go_wp2
          go_roundw
          case rel => exact ⟨k + 1, by omega, by go_num, HR2⟩
          case measure => simp [intOf]; try omega
        · obtain rfl : k = cs.length := by omega
          have H7 := Lib.hid (ofP_yes wr sz cs (some ⟨ga, 0, none⟩) (some ⟨gb, 0, none⟩) ca cb (IS4.out.nw HR.out) (IC4.out.nw HR.out) (wf_ofB HWF.out))
          have IC5 := Lib.hid (IC4.out.nw HR.out)
          have HN5 := Lib.hid (nw_trans HN4.out HR.out)
          clear HR HN4 HT4 IS4 IC4
          go_wp2_with fail
          refine H7.out.mono ?_; rintro e wy ⟨gy, rfl, ty, hn⟩
          have H8 := Lib.hid (cellsP _ wy gy sz cs HWF.out ty)
          have IC6 := Lib.hid (IC5.out.nw hn)
          have HN6 := Lib.hid (nw_trans HN5.out hn)
          clear H7 hn ty IC5 HN5
          go_wp2_with fail
          refine H8.out.mono ?_; rintro e wz ⟨gz, cz, rfl, ho, -, hn⟩
          have H9 := Lib.hid (intsE wz _ (some ⟨gb, 0, none⟩) cz cb cs (by omega) (own_rd ho) (IC6.out.nw hn))
          have HN7 := Lib.hid (nw_trans HN6.out hn)
          clear H8 hn ho IC6 HN6
          go_wp2_with fail
          refine H9.out.mono ?_; rintro e wl ⟨rfl, m, hw⟩
          have HN8 := Lib.hid (nw_trans HN7.out (show Nw wz wl by rw [hw]; exact nw_drewN _ _))
          have HL := Lib.hid (live_true wl)
          clear H9 hw HN7
          go_wp2_with fail
          refine HL.out.mono ?_; rintro e w9 ⟨rfl, hn⟩
          have HN9 := Lib.hid (nw_trans HN8.out hn); clear hn
          go_wp2
          go_ret
          exact ⟨rfl, HN9.out⟩
theorem slabPlaces_all (w : World) (d : Int) (_hd : (Lit.int .i64 d).wf = true) (a : Option Addr) (len cap : Nat) (hlen : len ≤ 9223372036854775807) (hs : Script w a len) :
    Calls Try.prog 8 #[.int .i64 d, .slice a len cap] w fun e w' => e = .returned (.bool true) ∧ Nw w w' := by
  by_cases hd : d < 1 ∨ 6 < d
  · exact places_none w d a len cap hd hs hlen
  · obtain ⟨d', rfl⟩ := Int.eq_ofNat_of_zero_le (show 0 ≤ d by omega)
    exact places_go w d' a len cap (by omega) (by omega) hs hlen
end Go.Proofs.Ytbofjdckmkifaaa
