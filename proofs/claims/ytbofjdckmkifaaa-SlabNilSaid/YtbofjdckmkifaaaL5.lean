/-
  The walk of the law SlabNil. Condition: its argument reads as a call.
-/
import Derived.Test.YtbofjdckmkifaaaLive
import Derived.Test.YtbofjdckmkifaaaOps
namespace Go.Proofs.Ytbofjdckmkifaaa
open Go.RowKit

set_option maxRecDepth 100000 in
set_option maxHeartbeats 4000000 in
theorem nil_go (w : World) (k at_ i n : Int) (al ah : Option Addr) (nl nh cl ch : Nat) (l1 : nl ≤ 9223372036854775807) (l2 : nh ≤ 9223372036854775807) :
    Calls Try.prog 5 #[.agg #[.int .i64 k, .int .i64 at_, .int .i64 i, .int .i64 n, .slice al nl cl, .slice ah nh ch]] w fun e w' => e = .returned (.bool true) ∧ Nw w w' := by
  by_cases hbig : 20 < nl ∨ 20 < nh
  · have HL := Lib.hid (live_true (w.alloc (.cells #[.int .i64 k, .int .i64 at_, .int .i64 i, .int .i64 n, .slice al nl cl, .slice ah nh ch] 34)))
    rcases (show 20 < nl ∨ (nl ≤ 20 ∧ 20 < nh) by omega) with b1 | ⟨b1, b2⟩
    all_goals
      clear hbig
      go_enter Try.func5, Try.ntmps5
      go_wp2_with fail
      refine HL.out.mono ?_; rintro e w3 ⟨rfl, hn⟩
      have HN := Lib.hid (nw_trans (nw_alloc _ _) hn); clear hn
      go_wp2
      go_ret
      exact ⟨rfl, HN.out⟩
  · have b1 : nl ≤ 20 := by omega
    have b2 : nh ≤ 20 := by omega
    clear hbig l1 l2
    go_enter Try.func5, Try.ntmps5
    go_wp2_with fail
    generalize hW : w.alloc (.cells #[.int .i64 k, .int .i64 at_, .int .i64 i, .int .i64 n, .slice al nl cl, .slice ah nh ch] 34) = W1
    have hb : W1.heap[w.heap.size]? = some (.cells #[.int .i64 k, .int .i64 at_, .int .i64 i, .int .i64 n, .slice al nl cl, .slice ah nh ch] 34 (0, 0)) := by rw [← hW]; exact blk_new _ _
    have HN := Lib.hid (show Nw w W1 from hW ▸ nw_alloc _ _)
    generalize hg : w.heap.size = g at hb ⊢
    have HB := Lib.hid hb
    clear hW hg hb
    have e1 : W1.cell? ⟨g, 1, none⟩ = some (.int .i64 at_) := blk_cell HB.out 1
    have e2 : W1.cell? ⟨g, 2, none⟩ = some (.int .i64 i) := blk_cell HB.out 2
    have e3 : W1.cell? ⟨g, 3, none⟩ = some (.int .i64 n) := blk_cell HB.out 3
    have e4 : W1.cell? ⟨g, 4, none⟩ = some (.slice al nl cl) := blk_cell HB.out 4
    have e5 : W1.cell? ⟨g, 5, none⟩ = some (.slice ah nh ch) := blk_cell HB.out 5
    refine (newP_no W1 0 n (by omega)).mono ?_; rintro e w1 ⟨rfl, rfl⟩
    go_wp2_with fail
    refine (getP_nil _ _ _ _).mono ?_; rintro e w' ⟨rfl, rfl⟩
    go_wp2_with fail
    refine (seenP_nil _ _ _ _ _ _ _).mono ?_; rintro e w2 ⟨rfl, hn⟩
    have f1 := nw_cell hn e1; have f2 := nw_cell hn e2; have f3 := nw_cell hn e3; have f4 := nw_cell hn e4; have f5 := nw_cell hn e5
    have HN2 := Lib.hid (nw_trans HN.out hn)
    clear hn e1 e2 e3 e4 e5 HN HB
    go_wp2_with fail
    refine (placeP_nil _ _ _ _).mono ?_; rintro e w' ⟨rfl, rfl⟩
    go_wp2_with fail
    refine (fillP_nil _ _ _ _ _ _ _ _).mono ?_; rintro e w3 ⟨rfl, hn⟩
    have e1 := nw_cell hn f1; have e2 := nw_cell hn f2
    have HN := Lib.hid (nw_trans HN2.out hn)
    clear hn f1 f2 f3 f4 f5 HN2
    go_wp2_with fail
    refine (growP_nil _ _ _).mono ?_; rintro e w4 ⟨rfl, hn⟩
    have f1 := nw_cell hn e1; have f2 := nw_cell hn e2
    have HN2 := Lib.hid (nw_trans HN.out hn)
    clear hn e1 e2 HN
    go_wp2_with fail
    refine (shrinkP_nil _ _ _).mono ?_; rintro e w5 ⟨rfl, hn⟩
    have HN := Lib.hid (nw_trans HN2.out hn)
    clear hn f1 f2 HN2
    go_wp2_with fail
    refine (sizesP_nil _).mono ?_; rintro e w' ⟨rfl, rfl⟩
    go_wp2_with fail
    refine (cellsP_nil _).mono ?_; rintro e w' ⟨rfl, rfl⟩
    have HL := Lib.hid (live_true w5)
    go_wp2_with fail
    refine HL.out.mono ?_; rintro e w7 ⟨rfl, hn⟩
    have N7 := Lib.hid (nw_trans HN.out hn); clear hn
    go_wp2
    go_ret
    exact ⟨rfl, N7.out⟩
end Go.Proofs.Ytbofjdckmkifaaa
