/-
  The walk of the law SlabScripts. Conditions: its script reads as one.
-/
import Derived.Test.YtbofjdckmkifaaaLive
import Derived.Test.YtbofjdckmkifaaaOps
namespace Go.Proofs.Ytbofjdckmkifaaa
open Go.RowKit

set_option maxRecDepth 100000 in
set_option maxHeartbeats 2000000 in
theorem scripts_none (w : World) (d n : Int) (a : Option Addr) (len cap : Nat) (hd : d < 1 ∨ 6 < d) :
    Calls Try.prog 3 #[.int .i64 d, .int .i64 n, .slice a len cap] w fun e w' => e = .returned (.bool true) ∧ Nw w w' := by
  have h1 := Lib.hid (newP_no w d n hd)
  have h2 := Lib.hid (new13_no w d n hd)
  clear hd
  go_enter Try.func3, Try.ntmps3
  go_wp2_with fail
  refine h1.out.mono ?_; rintro e w1 ⟨rfl, rfl⟩
  go_wp2_with fail
  refine h2.out.mono ?_; rintro e w2 ⟨rfl, rfl⟩
  clear h1 h2
  have hl := Lib.hid (live_true w2)
  go_wp2_with fail
  go_loopw [11] (fun i wr => i = .int .i64 0 ∧ wr = w2) (fun _ _ => 0)
  case atStart => exact ⟨rfl, rfl⟩
  case round =>
    obtain ⟨rfl, hwr⟩ := hrel
    rw [hwr]; clear hwr
    by_cases h0 : len = 0
    · subst h0
      go_wp2_with fail
      refine hl.out.mono ?_; rintro e w1 ⟨rfl, hn⟩
      go_wp2
      go_ret
      exact ⟨rfl, hn⟩
    · have hq : decide ((0 : Int) < (len : Int)) = true := by simp; omega
      have hq2 : decide (0 < len) = true := by simp; omega
      go_wp2_with fail
      refine hl.out.mono ?_; rintro e w1 ⟨rfl, hn⟩
      go_wp2
      go_ret
      exact ⟨rfl, hn⟩
end Go.Proofs.Ytbofjdckmkifaaa
