/-
  The walks of the slab: New. No condition.
-/
import Derived.Test.YtbofjdckmkifaaaRep
import Derived.Test.YtbofjdckmkifaaaR13f
namespace Go.Proofs.Ytbofjdckmkifaaa
open Go.RowKit

set_option maxHeartbeats 1000000 in
theorem newP_no (w : World) (d n : Int) (h : d < 1 ∨ 6 < d) :
    Calls Try.prog 14 #[.int .i64 d, .int .i64 n] w fun e w' => e = .returned (.tuple #[.pointer none, .int .i64 1]) ∧ w' = w := by
  rcases h with h | h
  · have q1 : decide (d < 1) = true := by simp; omega
    go_enter Try.func14, Try.ntmps14
    go_wp2
    go_ret2
    exact ⟨rfl, rfl⟩
  · have q1 : decide (d < 1) = false := by simp; omega
    have q2 : decide (d > 6) = true := by simp; omega
    go_enter Try.func14, Try.ntmps14
    go_wp2
    go_ret2
    exact ⟨rfl, rfl⟩

set_option maxHeartbeats 1000000 in
theorem newP_yes (w : World) (d : Nat) (n : Int) (h1 : 1 ≤ d) (h6 : d ≤ 6) :
    Calls Try.prog 14 #[.int .i64 d, .int .i64 n] w fun e w' => ∃ g, e = .returned (.tuple #[.pointer (some ⟨g, 0, none⟩), .int .i64 0]) ∧
      Two 77 (fun k => w.heap.size ≤ k) w' g (List.replicate d 1) [n] ∧ Nw w w' := by
  have q1 : decide ((d : Int) < 1) = false := by simp; omega
  have q2 : decide ((d : Int) > 6) = false := by simp; omega
  have hrep := Lib.hid (repeatI (w.alloc (.cells #[.int .i64 1] 3)) w.heap.size 0 1 1 d h1 (by omega) (by rw [blk_cell (blk_new _ _)]; rfl))
  go_enter Try.func14, Try.ntmps14
  go_wp2_with fail
  refine hrep.out.mono ?_; rintro e w1 ⟨g, rfl, hg, hb, hn⟩
  have hn' := nw_trans (nw_alloc w (.cells #[.int .i64 1] 3)) hn
  simp at hg
  have HB := Lib.hid hb; have HN := Lib.hid hn'; have HG := Lib.hid hg
  clear hb hn hn' hrep hg
  go_wp2
  go_ret2
  have b2 : (w1.alloc (.cells #[.int .i64 n] 3)).heap[w1.heap.size]? = some (.cells (iv .i64 [n]).toArray 3 (0, 0)) := blk_new _ _
  have hs := HN.out.size
  have hgl := blk_lt HB.out
  have hg := HG.out
  have b3 := blk_new (w1.alloc (.cells #[.int .i64 n] 3)) (.cells #[.slice (some ⟨g, 0, none⟩) d d, .slice (some ⟨w1.heap.size, 0, none⟩) 1 1] 77)
  rw [World.size_alloc] at b3
  refine ⟨_, rfl, ⟨_, _, ⟨b3, ?_, ?_, ?_⟩, ?_, ?_, ?_⟩, nw_trans HN.out (nw_trans (nw_alloc _ _) (nw_alloc _ _))⟩
  · refine nw_own (nw_alloc _ _) (nw_own (nw_alloc _ _) ?_)
    have := own_of_blk HB.out (by simp; omega)
    simpa using this
  · have := own_of_blk b2 (by simp)
    exact nw_own (nw_alloc _ _) this
  · intro k h1 h2
    have e1 : g = k := by injection h1
    have e2 : w1.heap.size = k := by injection h2
    omega
  · simp; omega
  · intro k h1; have e1 : g = k := by injection h1
    omega
  · intro k h1; have e1 : w1.heap.size = k := by injection h1
    omega
end Go.Proofs.Ytbofjdckmkifaaa
