/-
  A pager that is none commits nothing: the law PagerNil is true of every input. No condition.
-/
import Derived.Test.YtilmhjojbolbeaaPX4
set_option linter.all false

namespace Go.Proofs.Ytilmhjojbolbeaa.AM
open Go Go.RowKit Go.ChangeShapes Go.WideShapes Go.ChangeAt Go.Deep
set_option maxRecDepth 100000
theorem pagerNil_all (xs : List V) (h : POks [.one (.list [.int .i64, .int .i64, .str]), .one (.int .i64)] xs) : TriS Try.prog 9 xs [] (fun r _ => r = .b true) := by
  obtain ⟨x, _, rfl, hx, h1⟩ := POks_cons h
  obtain ⟨y, _, rfl, hy, h2⟩ := POks_cons h1
  obtain rfl := POks_nil h2
  obtain ⟨n, a, b, c, rfl, h0⟩ := prow_arg hx
  obtain ⟨l, rfl⟩ := pint_arg hy
  exact pnil23 n l a b c h0
theorem pagerNil_lifted (os : Os) (started : os.Started) (H : Type) (enc : TypeId × Value → H) :
    ReturnsInHanded {} Try.checked os 9 .any (Rows.pagerNilSpec.pre6 enc Try.prog Try.f9 Rows.pagerNilRow.domain false) (Rows.pagerNilSpec.post enc Try.prog Try.f9 false true false false) := by
  refine returnsInHanded_of_change (C := Try.checked) own0 started (by kernel_rfl) Try.func9
    (ChangeSpec.witness6 (enc := enc) (C := Try.checked) false ⟨#[], #[.slice none 0 0, .int .i64 0], []⟩ 8 (by kernel_rfl) (by kernel_rfl) (by kernel_rfl) (by kernel_rfl)) ?_
  intro W base args ds gs before hval hW _ _
  exact law_contract (ps := [.one (.list [.int .i64, .int .i64, .str]), .one (.int .i64)]) (by kernel_rfl) pagerNil_all (tb := 4) Try.underlying4 rfl rfl (by kernel_rfl) (fun H ds hl => match ds, hl with | [_, _], _ => ⟨rfl, rfl, rfl⟩) hval hW
end Go.Proofs.Ytilmhjojbolbeaa.AM
namespace Go.Proofs.Ytilmhjojbolbeaa
open Go.RowKit Go.ChangeShapes Go.WideShapes Go.ChangeAt Go.Deep
set_option maxRecDepth 100000 in
/-- the statement -/
theorem pagerNil_holds : Rows.PagerNilSaid :=
  OpenClaim.holds_of_wide 9 Try.f9 rfl rfl rfl rfl rfl rfl rfl ⟨rfl, rfl, rfl, rfl, rfl⟩ rfl rfl rfl rfl rfl (by kernel_rfl) Try.func9 (by kernel_rfl)
    (of_decide_eq_true (by kernel_rfl)) (by unfold Func.isWrapper; first | (rw [if_pos (by decide +kernel)]; kernel_rfl) | (rw [if_neg (by decide +kernel)]; exact ⟨rfl, rfl⟩))
    (fun os started H enc _ => AM.pagerNil_lifted os started H enc)

#print axioms pagerNil_holds
end Go.Proofs.Ytilmhjojbolbeaa

