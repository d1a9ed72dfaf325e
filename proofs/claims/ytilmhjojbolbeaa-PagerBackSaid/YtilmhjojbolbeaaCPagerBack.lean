/-
  What was committed last is opened: the law PagerBack is true of every input. No condition.
-/
import Derived.Test.YtilmhjojbolbeaaPX4
set_option linter.all false

namespace Go.Proofs.Ytilmhjojbolbeaa.AM
open Go Go.RowKit Go.ChangeShapes Go.WideShapes Go.ChangeAt Go.Deep
set_option maxRecDepth 100000
theorem pagerBack_all (xs : List V) (h : POks [.one (.int .i64), .one (.int .i64), .one (.list [.list [.int .i64, .int .i64, .str]])] xs) : TriS Try.prog 8 xs [] (fun r _ => r = .b true) := by
  obtain ⟨x, _, rfl, hx, h1⟩ := POks_cons h
  obtain ⟨y, _, rfl, hy, h2⟩ := POks_cons h1
  obtain ⟨z, _, rfl, hz, h3⟩ := POks_cons h2
  obtain rfl := POks_nil h3
  obtain ⟨n, rfl⟩ := pint_arg hx
  obtain ⟨log, rfl⟩ := pint_arg hy
  obtain ⟨N, cnt, a, b, c, rfl, h0, hc⟩ := prows_arg hz
  by_cases g1 : n ≤ 40 ∧ N ≤ 8
  case neg => exact pback_big n log N cnt a b c g1
  by_cases g2 : 1 ≤ n
  case neg => exact pback_no n log N cnt a b c g1 g2
  by_cases g3 : (2 ≤ log ∧ log ≤ 900) ∧ 2 ≤ n - log
  case neg => exact pback_not n log N cnt a b c g1 g2 g3
  exact pback_yes n log N cnt a b c g1 h0 hc g2 (n - log) rfl g3
theorem pagerBack_lifted (os : Os) (started : os.Started) (H : Type) (enc : TypeId × Value → H) :
    ReturnsInHanded {} Try.checked os 8 .any (Rows.pagerBackSpec.pre6 enc Try.prog Try.f8 Rows.pagerBackRow.domain false) (Rows.pagerBackSpec.post enc Try.prog Try.f8 false true false false) := by
  refine returnsInHanded_of_change (C := Try.checked) own0 started (by kernel_rfl) Try.func8
    (ChangeSpec.witness6 (enc := enc) (C := Try.checked) false ⟨#[], #[.int .i64 0, .int .i64 0, .slice none 0 0], []⟩ 8 (by kernel_rfl) (by kernel_rfl) (by kernel_rfl) (by kernel_rfl)) ?_
  intro W base args ds gs before hval hW _ _
  exact law_contract (ps := [.one (.int .i64), .one (.int .i64), .one (.list [.list [.int .i64, .int .i64, .str]])]) (by kernel_rfl) pagerBack_all (tb := 4) Try.underlying4 rfl rfl (by kernel_rfl) (fun H ds hl => match ds, hl with | [_, _, _], _ => ⟨rfl, rfl, rfl⟩) hval hW
end Go.Proofs.Ytilmhjojbolbeaa.AM
namespace Go.Proofs.Ytilmhjojbolbeaa
open Go.RowKit Go.ChangeShapes Go.WideShapes Go.ChangeAt Go.Deep
set_option maxRecDepth 100000 in
/-- the statement -/
theorem pagerBack_holds : Rows.PagerBackSaid :=
  OpenClaim.holds_of_wide 8 Try.f8 rfl rfl rfl rfl rfl rfl rfl ⟨rfl, rfl, rfl, rfl, rfl⟩ rfl rfl rfl rfl rfl (by kernel_rfl) Try.func8 (by kernel_rfl)
    (of_decide_eq_true (by kernel_rfl)) (by unfold Func.isWrapper; first | (rw [if_pos (by decide +kernel)]; kernel_rfl) | (rw [if_neg (by decide +kernel)]; exact ⟨rfl, rfl⟩))
    (fun os started H enc _ => AM.pagerBack_lifted os started H enc)

#print axioms pagerBack_holds
end Go.Proofs.Ytilmhjojbolbeaa

