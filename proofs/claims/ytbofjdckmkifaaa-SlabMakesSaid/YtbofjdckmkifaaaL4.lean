/-
  The walk of the law SlabMakes. Conditions: its lists read as such.
-/
import Derived.Test.YtbofjdckmkifaaaLive
namespace Go.Proofs.Ytbofjdckmkifaaa
open Go.RowKit

set_option maxRecDepth 100000 in
set_option maxHeartbeats 2000000 in
theorem slabMakes_all (w : World) (a0 : Option Addr) (c0 : Nat) (sz : List Int) (_l0 : sz.length ≤ 9223372036854775807) (r0 : IR .i64 w a0 sz) (_w0 : ∀ k, (Lit.int .i64 (rd sz k)).wf = true)
    (a1 : Option Addr) (c1 : Nat) (cs : List Int) (_l1 : cs.length ≤ 9223372036854775807) (r1 : IR .i64 w a1 cs) (_w1 : ∀ k, (Lit.int .i64 (rd cs k)).wf = true) :
    Calls Try.prog 4 #[.slice a0 sz.length c0, .slice a1 cs.length c1] w fun e w' => e = .returned (.bool true) ∧ Nw w w' := by
  clear _w0 _w1
  by_cases hbig : 20 < sz.length ∨ 5000 < cs.length
  · have HL := Lib.hid (live_true w)
    clear r0 r1
    rcases (show 20 < sz.length ∨ (sz.length ≤ 20 ∧ 5000 < cs.length) by omega) with b1 | ⟨b1, b2⟩
    all_goals
      clear hbig
      go_enter Try.func4, Try.ntmps4
      go_wp2_with fail
      refine HL.out.mono ?_; rintro e w3 ⟨rfl, hn⟩
      go_wp2
      go_ret
      exact ⟨rfl, hn⟩
  · have b1 : sz.length ≤ 20 := by omega
    have b2 : cs.length ≤ 5000 := by omega
    clear hbig _l0 _l1
    by_cases hy : ofB sz cs = true
    · have H1 := Lib.hid (ofP_yes w sz cs a0 a1 c0 c1 r0 r1 hy)
      have R0 := Lib.hid r0; have R1 := Lib.hid r1; have HWF := Lib.hid (ofB_wf hy); have HY := Lib.hid hy
      clear r0 r1 hy
      go_enter Try.func4, Try.ntmps4
      go_wp2_with fail
      refine H1.out.mono ?_; rintro e w1 ⟨g1, rfl, t1, n1⟩
      have H2 := Lib.hid (of13_yes w1 sz cs a0 a1 c0 c1 (R0.out.nw n1) (R1.out.nw n1) HY.out)
      have T1 := Lib.hid t1; have N1 := Lib.hid n1
      clear t1 n1 H1
      go_wp2_with fail
      refine H2.out.mono ?_; rintro e w2 ⟨g2, rfl, -, n2⟩
      have H3 := Lib.hid (sizesP _ w2 g1 sz cs HWF.out (T1.out.nw n2))
      have T2 := Lib.hid (T1.out.nw n2); have N2 := Lib.hid (nw_trans N1.out n2)
      clear n2 H2 T1 N1
      go_wp2_with fail
      refine H3.out.mono ?_; rintro e w3 ⟨ga, ca, rfl, ho, -, hn⟩
      have H4 := Lib.hid (intsE w3 _ a0 ca c0 sz (by omega) (own_rd ho) (R0.out.nw (nw_trans N2.out hn)))
      have T3 := Lib.hid (T2.out.nw hn); have N3 := Lib.hid (nw_trans N2.out hn)
      clear H3 ho hn T2 N2
      go_wp2_with fail
      refine H4.out.mono ?_; rintro e w4 ⟨rfl, m, hw⟩
      have n4 : Nw w3 w4 := by rw [hw]; exact nw_drewN _ _
      have H5 := Lib.hid (cellsP _ w4 g1 sz cs HWF.out (T3.out.nw n4))
      have N4 := Lib.hid (nw_trans N3.out n4)
      clear H4 hw n4 T3 N3
      go_wp2_with fail
      refine H5.out.mono ?_; rintro e w5 ⟨gb, cb, rfl, ho, -, hn⟩
      have H6 := Lib.hid (intsE w5 _ a1 cb c1 cs (by omega) (own_rd ho) (R1.out.nw (nw_trans N4.out hn)))
      have N5 := Lib.hid (nw_trans N4.out hn)
      clear H5 ho hn N4
      go_wp2_with fail
      refine H6.out.mono ?_; rintro e w6 ⟨rfl, m, hw⟩
      have N6 := Lib.hid (nw_trans N5.out (show Nw w5 w6 by rw [hw]; exact nw_drewN _ _))
      have HL := Lib.hid (live_true w6)
      clear H6 hw N5
      go_wp2_with fail
      refine HL.out.mono ?_; rintro e w7 ⟨rfl, hn⟩
      have N7 := Lib.hid (nw_trans N6.out hn); clear hn
      go_wp2
      go_ret
      exact ⟨rfl, N7.out⟩
    · have hy : ofB sz cs = false := by simpa using hy
      have H1 := Lib.hid (ofP_no w sz cs a0 a1 c0 c1 (by omega) (by omega) r0 hy)
      have H2 := Lib.hid (of13_no w sz cs a0 a1 c0 c1 (by omega) (by omega) r0 hy)
      have HL := Lib.hid (live_true w)
      clear r0 r1 hy
      go_enter Try.func4, Try.ntmps4
      go_wp2_with fail
      refine H1.out.mono ?_; rintro e w1 ⟨rfl, rfl⟩
      go_wp2_with fail
      refine H2.out.mono ?_; rintro e w1 ⟨rfl, rfl⟩
      go_wp2_with fail
      refine HL.out.mono ?_; rintro e w3 ⟨rfl, hn⟩
      have N7 := Lib.hid hn; clear hn
      go_wp2
      go_ret
      exact ⟨rfl, N7.out⟩
end Go.Proofs.Ytbofjdckmkifaaa
