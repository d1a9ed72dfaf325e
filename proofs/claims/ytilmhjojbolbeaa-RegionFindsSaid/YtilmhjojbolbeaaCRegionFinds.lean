/-
  Where any number stands in any slab, and whether all stand in whole ranges: the law RegionFinds is true of every input. No condition.
-/
import Derived.Test.YtilmhjojbolbeaaRX4
set_option linter.all false

namespace Go.Proofs.Ytilmhjojbolbeaa.AM
open Go Go.RowKit Go.ChangeShapes Go.WideShapes Go.ChangeAt Go.Deep
set_option maxRecDepth 100000
theorem regionFinds_all (xs : List V) (h : POks [.one (.list [.int .i64]), .one (.list [.int .i64]), .one (.int .i64)] xs) : TriS Try.prog 3 xs [] (fun r _ => r = .b true) := by
  obtain ⟨x, _, rfl, hx, h1⟩ := POks_cons h
  obtain ⟨y, _, rfl, hy, h2⟩ := POks_cons h1
  obtain ⟨z, _, rfl, hz, h3⟩ := POks_cons h2
  obtain rfl := POks_nil h3
  obtain ⟨d, zs, rfl, hd⟩ := row64_arg hx
  obtain ⟨n, cs, rfl, hn⟩ := row64_arg hy
  obtain ⟨v, rfl⟩ := num_arg hz
  exact finds_all d n v zs cs hd hn
theorem regionFinds_lifted (os : Os) (started : os.Started) (H : Type) (enc : TypeId × Value → H) :
    ReturnsInHanded {} Try.checked os 3 .any (Rows.regionFindsSpec.pre6 enc Try.prog Try.f3 Rows.regionFindsRow.domain false) (Rows.regionFindsSpec.post enc Try.prog Try.f3 false true false false) := by
  refine returnsInHanded_of_change (C := Try.checked) own0 started (by kernel_rfl) Try.func3
    (ChangeSpec.witness6 (enc := enc) (C := Try.checked) false ⟨#[], #[.slice none 0 0, .slice none 0 0, .int .i64 0], []⟩ 8 (by kernel_rfl) (by kernel_rfl) (by kernel_rfl) (by kernel_rfl)) ?_
  intro W base args ds gs before hval hW _ _
  exact law_contract (ps := [.one (.list [.int .i64]), .one (.list [.int .i64]), .one (.int .i64)]) (by kernel_rfl) regionFinds_all (tb := 4) Try.underlying4 rfl rfl (by kernel_rfl) (fun H ds hl => match ds, hl with | [_, _, _], _ => ⟨rfl, rfl, rfl⟩) hval hW
end Go.Proofs.Ytilmhjojbolbeaa.AM
namespace Go.Proofs.Ytilmhjojbolbeaa
open Go.RowKit Go.ChangeShapes Go.WideShapes Go.ChangeAt Go.Deep
set_option maxRecDepth 100000 in
/-- the statement -/
theorem regionFinds_holds : Rows.RegionFindsSaid :=
  OpenClaim.holds_of_wide 3 Try.f3 rfl rfl rfl rfl rfl rfl rfl ⟨rfl, rfl, rfl, rfl, rfl⟩ rfl rfl rfl rfl rfl (by kernel_rfl) Try.func3 (by kernel_rfl)
    (of_decide_eq_true (by kernel_rfl)) (by unfold Func.isWrapper; first | (rw [if_pos (by decide +kernel)]; kernel_rfl) | (rw [if_neg (by decide +kernel)]; exact ⟨rfl, rfl⟩))
    (fun os started H enc _ => AM.regionFinds_lifted os started H enc)

#print axioms regionFinds_holds
end Go.Proofs.Ytilmhjojbolbeaa

