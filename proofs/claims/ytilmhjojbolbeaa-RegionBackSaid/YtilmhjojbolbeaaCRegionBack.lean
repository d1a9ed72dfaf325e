/-
  What is halved is joined, at the coordinate at which it was halved: the law RegionBack is true of every input. No condition.
-/
import Derived.Test.YtilmhjojbolbeaaRX4
set_option linter.all false

namespace Go.Proofs.Ytilmhjojbolbeaa.AM
open Go Go.RowKit Go.ChangeShapes Go.WideShapes Go.ChangeAt Go.Deep
set_option maxRecDepth 100000
theorem regionBack_all (xs : List V) (h : POks [.agg [.list [.int .u32], .list [.int .u32]], .one (.int .i64)] xs) : TriS Try.prog 5 xs [] (fun r _ => r = .b true) := by
  obtain ⟨x, _, rfl, hx, h1⟩ := POks_cons h
  obtain ⟨y, _, rfl, hy, h2⟩ := POks_cons h1
  obtain rfl := POks_nil h2
  obtain ⟨n, a, m, b, rfl, p1, p2, u1, u2⟩ := box_arg hx
  obtain ⟨t, rfl⟩ := num_arg hy
  exact back_all n m t a b p1 p2 u1 u2
theorem regionBack_lifted (os : Os) (started : os.Started) (H : Type) (enc : TypeId × Value → H) :
    ReturnsInHanded {} Try.checked os 5 .any (Rows.regionBackSpec.pre6 enc Try.prog Try.f5 Rows.regionBackRow.domain false) (Rows.regionBackSpec.post enc Try.prog Try.f5 false true false false) := by
  refine returnsInHanded_of_change (C := Try.checked) own0 started (by kernel_rfl) Try.func5
    (ChangeSpec.witness6 (enc := enc) (C := Try.checked) false ⟨#[], #[.agg #[.slice none 0 0, .slice none 0 0], .int .i64 0], []⟩ 8 (by kernel_rfl) (by kernel_rfl) (by kernel_rfl) (by kernel_rfl)) ?_
  intro W base args ds gs before hval hW _ _
  exact law_contract (ps := [.agg [.list [.int .u32], .list [.int .u32]], .one (.int .i64)]) (by kernel_rfl) regionBack_all (tb := 4) Try.underlying4 rfl rfl (by kernel_rfl) (fun H ds hl => match ds, hl with | [_, _], _ => ⟨rfl, rfl, rfl⟩) hval hW
end Go.Proofs.Ytilmhjojbolbeaa.AM
namespace Go.Proofs.Ytilmhjojbolbeaa
open Go.RowKit Go.ChangeShapes Go.WideShapes Go.ChangeAt Go.Deep
set_option maxRecDepth 100000 in
/-- the statement -/
theorem regionBack_holds : Rows.RegionBackSaid :=
  OpenClaim.holds_of_wide 5 Try.f5 rfl rfl rfl rfl rfl rfl rfl ⟨rfl, rfl, rfl, rfl, rfl⟩ rfl rfl rfl rfl rfl (by kernel_rfl) Try.func5 (by kernel_rfl)
    (of_decide_eq_true (by kernel_rfl)) (by unfold Func.isWrapper; first | (rw [if_pos (by decide +kernel)]; kernel_rfl) | (rw [if_neg (by decide +kernel)]; exact ⟨rfl, rfl⟩))
    (fun os started H enc _ => AM.regionBack_lifted os started H enc)

#print axioms regionBack_holds
end Go.Proofs.Ytilmhjojbolbeaa

