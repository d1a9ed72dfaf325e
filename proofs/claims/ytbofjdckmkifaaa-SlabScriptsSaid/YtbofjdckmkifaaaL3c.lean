/-
  The law SlabScripts, both ways. Conditions: its script reads as one.
-/
import Derived.Test.YtbofjdckmkifaaaL3b
namespace Go.Proofs.Ytbofjdckmkifaaa
open Go.RowKit
theorem slabScripts_all (w : World) (d : Int) (_hd : (Lit.int .i64 d).wf = true) (n : Int) (hnw : (Lit.int .i64 n).wf = true) (a : Option Addr) (len cap : Nat) (hlen : len ≤ 9223372036854775807) (hs : Script w a len) :
    Calls Try.prog 3 #[.int .i64 d, .int .i64 n, .slice a len cap] w fun e w' => e = .returned (.bool true) ∧ Nw w w' := by
  by_cases hd : d < 1 ∨ 6 < d
  · exact scripts_none w d n a len cap hd
  · obtain ⟨d', rfl⟩ := Int.eq_ofNat_of_zero_le (show 0 ≤ d by omega)
    exact scripts_go w d' n a len cap (by omega) (by omega) hnw hs hlen
end Go.Proofs.Ytbofjdckmkifaaa
