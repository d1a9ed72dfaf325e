/-
  A Commit writes no page to its place that is as it was: the law PagerFew is true of every input. No condition.
-/
import Derived.Test.YtilmhjojbolbeaaPX4
set_option linter.all false

namespace Go.Proofs.Ytilmhjojbolbeaa.AM
open Go Go.RowKit Go.ChangeShapes Go.WideShapes Go.ChangeAt Go.Deep
set_option maxRecDepth 100000
theorem pagerFew_all (xs : List V) (h : POks [.agg [.int .i64, .int .i64, .list [.int .i64, .int .i64, .str], .list [.int .i64, .int .i64, .str], .int .i64, .list [.int .i64], .int .i64, .int .i64, .int .i64, .list [.int .i64], .int .i64]] xs) : TriS Try.prog 10 xs [] (fun r _ => r = .b true) := by
  obtain ⟨x, _, rfl, hx, h1⟩ := POks_cons h
  obtain rfl := POks_nil h1
  obtain ⟨_, rfl, hh⟩ := hx
  obtain ⟨_, _, rfl, h1, g⟩ := VOks_cons hh
  obtain ⟨_, _, rfl, h2, g⟩ := VOks_cons g
  obtain ⟨_, _, rfl, h3, g⟩ := VOks_cons g
  obtain ⟨_, _, rfl, h4, g⟩ := VOks_cons g
  obtain ⟨_, _, rfl, h5, g⟩ := VOks_cons g
  obtain ⟨_, _, rfl, h6, g⟩ := VOks_cons g
  obtain ⟨_, _, rfl, h7, g⟩ := VOks_cons g
  obtain ⟨_, _, rfl, h8, g⟩ := VOks_cons g
  obtain ⟨_, _, rfl, h9, g⟩ := VOks_cons g
  obtain ⟨_, _, rfl, h10, g⟩ := VOks_cons g
  obtain ⟨_, _, rfl, h11, g⟩ := VOks_cons g
  obtain rfl := VOks_nil g
  obtain ⟨n, rfl⟩ := pint_arg h1
  obtain ⟨log, rfl⟩ := pint_arg h2
  obtain ⟨m0, a, b, c, rfl, hm0⟩ := prow_arg h3
  obtain ⟨m1, a', b', c', rfl, hm1⟩ := prow_arg h4
  obtain ⟨a1, rfl⟩ := pint_arg h5
  obtain ⟨kn, kf, rfl⟩ := pints_arg h6
  obtain ⟨a2, rfl⟩ := pint_arg h7
  obtain ⟨a3, rfl⟩ := pint_arg h8
  obtain ⟨a4, rfl⟩ := pint_arg h9
  obtain ⟨mn, mf, rfl⟩ := pints_arg h10
  obtain ⟨a5, rfl⟩ := pint_arg h11
  by_cases g1 : n ≤ 40
  case neg => exact pfew_big n log m0 m1 a1 kn a2 a3 a4 mn a5 a b a' b' kf mf c c' g1
  by_cases g2 : 1 ≤ n
  case neg => exact pfew_no n log m0 m1 a1 kn a2 a3 a4 mn a5 a b a' b' kf mf c c' g1 g2 hm0 hm1
  by_cases g3 : (2 ≤ log ∧ log ≤ 900) ∧ 2 ≤ n - log
  case neg => exact pfew_not n log m0 m1 a1 kn a2 a3 a4 mn a5 a b a' b' kf mf c c' g1 g2 hm0 hm1 g3
  exact pfew_yes n log m0 m1 a1 kn a2 a3 a4 mn a5 a b a' b' kf mf c c' g1 g2 hm0 hm1 (n - log) rfl g3
theorem pagerFew_lifted (os : Os) (started : os.Started) (H : Type) (enc : TypeId × Value → H) :
    ReturnsInHanded {} Try.checked os 10 .any (Rows.pagerFewSpec.pre6 enc Try.prog Try.f10 Rows.pagerFewRow.domain false) (Rows.pagerFewSpec.post enc Try.prog Try.f10 false true false false) := by
  refine returnsInHanded_of_change (C := Try.checked) own0 started (by kernel_rfl) Try.func10
    (ChangeSpec.witness6 (enc := enc) (C := Try.checked) false ⟨#[], #[.agg #[.int .i64 0, .int .i64 0, .slice none 0 0, .slice none 0 0, .int .i64 0, .slice none 0 0, .int .i64 0, .int .i64 0, .int .i64 0, .slice none 0 0, .int .i64 0]], []⟩ 8 (by kernel_rfl) (by kernel_rfl) (by kernel_rfl) (by kernel_rfl)) ?_
  intro W base args ds gs before hval hW _ _
  exact law_contract (ps := [.agg [.int .i64, .int .i64, .list [.int .i64, .int .i64, .str], .list [.int .i64, .int .i64, .str], .int .i64, .list [.int .i64], .int .i64, .int .i64, .int .i64, .list [.int .i64], .int .i64]]) (by kernel_rfl) pagerFew_all (tb := 4) Try.underlying4 rfl rfl (by kernel_rfl) (fun H ds hl => match ds, hl with | [_], _ => ⟨rfl, rfl, rfl⟩) hval hW
end Go.Proofs.Ytilmhjojbolbeaa.AM
namespace Go.Proofs.Ytilmhjojbolbeaa
open Go.RowKit Go.ChangeShapes Go.WideShapes Go.ChangeAt Go.Deep
set_option maxRecDepth 100000 in
/-- the statement -/
theorem pagerFew_holds : Rows.PagerFewSaid :=
  OpenClaim.holds_of_wide 10 Try.f10 rfl rfl rfl rfl rfl rfl rfl ⟨rfl, rfl, rfl, rfl, rfl⟩ rfl rfl rfl rfl rfl (by kernel_rfl) Try.func10 (by kernel_rfl)
    (of_decide_eq_true (by kernel_rfl)) (by unfold Func.isWrapper; first | (rw [if_pos (by decide +kernel)]; kernel_rfl) | (rw [if_neg (by decide +kernel)]; exact ⟨rfl, rfl⟩))
    (fun os started H enc _ => AM.pagerFew_lifted os started H enc)

#print axioms pagerFew_holds
end Go.Proofs.Ytilmhjojbolbeaa

