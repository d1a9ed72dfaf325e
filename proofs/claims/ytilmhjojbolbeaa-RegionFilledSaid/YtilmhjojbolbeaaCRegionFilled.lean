/-
  A range that is filled with a number is where that stands: the law RegionFilled is true of every input. No condition.
-/
import Derived.Test.YtilmhjojbolbeaaRX4
set_option linter.all false

namespace Go.Proofs.Ytilmhjojbolbeaa.AM
open Go Go.RowKit Go.ChangeShapes Go.WideShapes Go.ChangeAt Go.Deep
set_option maxRecDepth 100000
theorem regionFilled_all (xs : List V) (h : POks [.agg [.list [.int .i64], .list [.int .i64], .list [.int .i64], .list [.int .i64]]] xs) : TriS Try.prog 7 xs [] (fun r _ => r = .b true) := by
  obtain ⟨x, _, rfl, hx, h1⟩ := POks_cons h
  obtain rfl := POks_nil h1
  obtain ⟨n1, a1, n2, a2, n3, a3, n4, a4, rfl, ⟨q1, q2⟩, q3, q4⟩ := four_arg hx
  exact filled_all n1 n2 n3 n4 a1 a2 a3 a4 q1 q2 q3 q4
theorem regionFilled_lifted (os : Os) (started : os.Started) (H : Type) (enc : TypeId × Value → H) :
    ReturnsInHanded {} Try.checked os 7 .any (Rows.regionFilledSpec.pre6 enc Try.prog Try.f7 Rows.regionFilledRow.domain false) (Rows.regionFilledSpec.post enc Try.prog Try.f7 false true false false) := by
  refine returnsInHanded_of_change (C := Try.checked) own0 started (by kernel_rfl) Try.func7
    (ChangeSpec.witness6 (enc := enc) (C := Try.checked) false ⟨#[], #[.agg #[.slice none 0 0, .slice none 0 0, .slice none 0 0, .slice none 0 0]], []⟩ 8 (by kernel_rfl) (by kernel_rfl) (by kernel_rfl) (by kernel_rfl)) ?_
  intro W base args ds gs before hval hW _ _
  exact law_contract (ps := [.agg [.list [.int .i64], .list [.int .i64], .list [.int .i64], .list [.int .i64]]]) (by kernel_rfl) regionFilled_all (tb := 4) Try.underlying4 rfl rfl (by kernel_rfl) (fun H ds hl => match ds, hl with | [_], _ => ⟨rfl, rfl, rfl⟩) hval hW
end Go.Proofs.Ytilmhjojbolbeaa.AM
namespace Go.Proofs.Ytilmhjojbolbeaa
open Go.RowKit Go.ChangeShapes Go.WideShapes Go.ChangeAt Go.Deep
set_option maxRecDepth 100000 in
/-- the statement -/
theorem regionFilled_holds : Rows.RegionFilledSaid :=
  OpenClaim.holds_of_wide 7 Try.f7 rfl rfl rfl rfl rfl rfl rfl ⟨rfl, rfl, rfl, rfl, rfl⟩ rfl rfl rfl rfl rfl (by kernel_rfl) Try.func7 (by kernel_rfl)
    (of_decide_eq_true (by kernel_rfl)) (by unfold Func.isWrapper; first | (rw [if_pos (by decide +kernel)]; kernel_rfl) | (rw [if_neg (by decide +kernel)]; exact ⟨rfl, rfl⟩))
    (fun os started H enc _ => AM.regionFilled_lifted os started H enc)

#print axioms regionFilled_holds
end Go.Proofs.Ytilmhjojbolbeaa

