/-
  Of a box that is halved twice the four are joined again: the law RegionFours is true of every input. No condition.
-/
import Derived.Test.YtilmhjojbolbeaaRX4
set_option linter.all false

namespace Go.Proofs.Ytilmhjojbolbeaa.AM
open Go Go.RowKit Go.ChangeShapes Go.WideShapes Go.ChangeAt Go.Deep
set_option maxRecDepth 100000
theorem regionFours_all (xs : List V) (h : POks [.agg [.list [.int .u32], .list [.int .u32]], .one (.int .i64), .one (.int .i64)] xs) : TriS Try.prog 6 xs [] (fun r _ => r = .b true) := by
  obtain ⟨x, _, rfl, hx, h1⟩ := POks_cons h
  obtain ⟨y, _, rfl, hy, h2⟩ := POks_cons h1
  obtain ⟨z, _, rfl, hz, h3⟩ := POks_cons h2
  obtain rfl := POks_nil h3
  obtain ⟨n, a, m, b, rfl, p1, p2, u1, u2⟩ := box_arg hx
  obtain ⟨t, rfl⟩ := num_arg hy
  obtain ⟨s, rfl⟩ := num_arg hz
  exact fours_all n m t s a b p1 p2 u1 u2
theorem regionFours_lifted (os : Os) (started : os.Started) (H : Type) (enc : TypeId × Value → H) :
    ReturnsInHanded {} Try.checked os 6 .any (Rows.regionFoursSpec.pre6 enc Try.prog Try.f6 Rows.regionFoursRow.domain false) (Rows.regionFoursSpec.post enc Try.prog Try.f6 false true false false) := by
  refine returnsInHanded_of_change (C := Try.checked) own0 started (by kernel_rfl) Try.func6
    (ChangeSpec.witness6 (enc := enc) (C := Try.checked) false ⟨#[], #[.agg #[.slice none 0 0, .slice none 0 0], .int .i64 0, .int .i64 0], []⟩ 8 (by kernel_rfl) (by kernel_rfl) (by kernel_rfl) (by kernel_rfl)) ?_
  intro W base args ds gs before hval hW _ _
  exact law_contract (ps := [.agg [.list [.int .u32], .list [.int .u32]], .one (.int .i64), .one (.int .i64)]) (by kernel_rfl) regionFours_all (tb := 4) Try.underlying4 rfl rfl (by kernel_rfl) (fun H ds hl => match ds, hl with | [_, _, _], _ => ⟨rfl, rfl, rfl⟩) hval hW
end Go.Proofs.Ytilmhjojbolbeaa.AM
namespace Go.Proofs.Ytilmhjojbolbeaa
open Go.RowKit Go.ChangeShapes Go.WideShapes Go.ChangeAt Go.Deep
set_option maxRecDepth 100000 in
/-- the statement -/
theorem regionFours_holds : Rows.RegionFoursSaid :=
  OpenClaim.holds_of_wide 6 Try.f6 rfl rfl rfl rfl rfl rfl rfl ⟨rfl, rfl, rfl, rfl, rfl⟩ rfl rfl rfl rfl rfl (by kernel_rfl) Try.func6 (by kernel_rfl)
    (of_decide_eq_true (by kernel_rfl)) (by unfold Func.isWrapper; first | (rw [if_pos (by decide +kernel)]; kernel_rfl) | (rw [if_neg (by decide +kernel)]; exact ⟨rfl, rfl⟩))
    (fun os started H enc _ => AM.regionFours_lifted os started H enc)

#print axioms regionFours_holds
end Go.Proofs.Ytilmhjojbolbeaa

