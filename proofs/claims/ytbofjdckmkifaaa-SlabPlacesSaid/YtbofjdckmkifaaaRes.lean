/-
  A result in a cell. No condition.
-/
import Derived.Test.YtbofjdckmkifaaaMem
namespace Go.Proofs.Ytbofjdckmkifaaa
open Go.RowKit
theorem results_cell1 {P : Program} {fn : Func} {p : Tmp} {ty : TypeId} (h : fn.results = #[.cell p ty]) (tmps : Array Value) (w : World) (g : Nat) (v : Value) (d : TypeDesc)
    (hp : tmps.getD p undef = .pointer (some ⟨g, 0, none⟩)) (hd : (match d with | .struct _ | .array _ _ => true | _ => false) = false) (hu : P.underlying ty = some d) (hc : w.cell? ⟨g, 0, none⟩ = some v) :
    (results fn tmps).run P w = .ok v w := by
  have hp' : tmps[p]?.getD undef = .pointer (some ⟨g, 0, none⟩) := by simpa using hp
  cases d
  case struct => cases hd
  case array => cases hd
  all_goals simp [results, underlying, h, hp', asAddr, loadVar, isAgg, hu, hc, go_sem]
end Go.Proofs.Ytbofjdckmkifaaa
