/-
  The box that any two boxes are the halves of, or that there is none: the law RegionJoins is true of every input. No condition.
-/
import Derived.Test.YtilmhjojbolbeaaRX4
set_option linter.all false

namespace Go.Proofs.Ytilmhjojbolbeaa.AM
open Go Go.RowKit Go.ChangeShapes Go.WideShapes Go.ChangeAt Go.Deep
set_option maxRecDepth 100000
theorem regionJoins_all (xs : List V) (h : POks [.agg [.list [.int .u32], .list [.int .u32]], .agg [.list [.int .u32], .list [.int .u32]]] xs) : TriS Try.prog 4 xs [] (fun r _ => r = .b true) := by
  obtain ⟨x, _, rfl, hx, h1⟩ := POks_cons h
  obtain ⟨y, _, rfl, hy, h2⟩ := POks_cons h1
  obtain rfl := POks_nil h2
  obtain ⟨n1, a1, n2, a2, rfl, p1, p2, u1, u2⟩ := box_arg hx
  obtain ⟨m1, b1, m2, b2, rfl, p3, p4, u3, u4⟩ := box_arg hy
  exact joins_all n1 n2 m1 m2 a1 a2 b1 b2 ⟨p1, p2, p3, p4⟩ u1 u2 u3 u4
theorem regionJoins_lifted (os : Os) (started : os.Started) (H : Type) (enc : TypeId × Value → H) :
    ReturnsInHanded {} Try.checked os 4 .any (Rows.regionJoinsSpec.pre6 enc Try.prog Try.f4 Rows.regionJoinsRow.domain false) (Rows.regionJoinsSpec.post enc Try.prog Try.f4 false true false false) := by
  refine returnsInHanded_of_change (C := Try.checked) own0 started (by kernel_rfl) Try.func4
    (ChangeSpec.witness6 (enc := enc) (C := Try.checked) false ⟨#[], #[.agg #[.slice none 0 0, .slice none 0 0], .agg #[.slice none 0 0, .slice none 0 0]], []⟩ 8 (by kernel_rfl) (by kernel_rfl) (by kernel_rfl) (by kernel_rfl)) ?_
  intro W base args ds gs before hval hW _ _
  exact law_contract (ps := [.agg [.list [.int .u32], .list [.int .u32]], .agg [.list [.int .u32], .list [.int .u32]]]) (by kernel_rfl) regionJoins_all (tb := 4) Try.underlying4 rfl rfl (by kernel_rfl) (fun H ds hl => match ds, hl with | [_, _], _ => ⟨rfl, rfl, rfl⟩) hval hW
end Go.Proofs.Ytilmhjojbolbeaa.AM
namespace Go.Proofs.Ytilmhjojbolbeaa
open Go.RowKit Go.ChangeShapes Go.WideShapes Go.ChangeAt Go.Deep
set_option maxRecDepth 100000 in
/-- the statement -/
theorem regionJoins_holds : Rows.RegionJoinsSaid :=
  OpenClaim.holds_of_wide 4 Try.f4 rfl rfl rfl rfl rfl rfl rfl ⟨rfl, rfl, rfl, rfl, rfl⟩ rfl rfl rfl rfl rfl (by kernel_rfl) Try.func4 (by kernel_rfl)
    (of_decide_eq_true (by kernel_rfl)) (by unfold Func.isWrapper; first | (rw [if_pos (by decide +kernel)]; kernel_rfl) | (rw [if_neg (by decide +kernel)]; exact ⟨rfl, rfl⟩))
    (fun os started H enc _ => AM.regionJoins_lifted os started H enc)

#print axioms regionJoins_holds
end Go.Proofs.Ytilmhjojbolbeaa

