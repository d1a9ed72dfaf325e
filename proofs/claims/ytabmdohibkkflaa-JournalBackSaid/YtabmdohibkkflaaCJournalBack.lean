/-
  What is committed is scanned, till Next or an Abort: the law JournalBack is true of every input. No condition.
-/
import Derived.Test.YtabmdohibkkflaaJX3
set_option linter.all false

namespace Go.Proofs.Ytabmdohibkkflaa.AM
open Go Go.RowKit Go.ChangeShapes Go.WideShapes Go.ChangeAt Go.Deep
set_option maxRecDepth 100000
theorem journalBack_all (xs : List V) (h : POks [.agg [.int .i64, .int .i64, .int .i64, .int .i64], .one (.list [.int .i64, .int .i64, .str]), .one .bool] xs) : TriS Try.prog 5 xs [] (fun r _ => r = .b true) := by
  obtain ⟨x, _, rfl, hx, h1⟩ := POks_cons h
  obtain ⟨y, _, rfl, hy, h2⟩ := POks_cons h1
  obtain ⟨z, _, rfl, hz, h3⟩ := POks_cons h2
  obtain rfl := POks_nil h3
  obtain ⟨a, b, c, d, rfl, -⟩ := place_arg hx
  obtain ⟨n, pk, pn, pb, rfl, hn⟩ := pages_arg hy
  obtain ⟨t, rfl⟩ := hz
  exact back07 a b c d n pk pn pb t hn
theorem journalBack_lifted (os : Os) (started : os.Started) (H : Type) (enc : TypeId × Value → H) :
    ReturnsInHanded {} Try.checked os 5 .any (Rows.journalBackSpec.pre6 enc Try.prog Try.f5 Rows.journalBackRow.domain false) (Rows.journalBackSpec.post enc Try.prog Try.f5 false true false false) := by
  refine returnsInHanded_of_change (C := Try.checked) own0 started (by kernel_rfl) Try.func5
    (ChangeSpec.witness6 (enc := enc) (C := Try.checked) false ⟨#[], #[.agg #[.int .i64 0, .int .i64 0, .int .i64 0, .int .i64 0], .slice none 0 0, .bool false], []⟩ 8 (by kernel_rfl) (by kernel_rfl) (by kernel_rfl) (by kernel_rfl)) ?_
  intro W base args ds gs before hval hW _ _
  exact law_contract (ps := [.agg [.int .i64, .int .i64, .int .i64, .int .i64], .one (.list [.int .i64, .int .i64, .str]), .one .bool]) (by kernel_rfl) journalBack_all (tb := 4) Try.underlying4 rfl rfl (by kernel_rfl) (fun H ds hl => match ds, hl with | [_, _, _], _ => ⟨rfl, rfl, rfl⟩) hval hW
end Go.Proofs.Ytabmdohibkkflaa.AM
namespace Go.Proofs.Ytabmdohibkkflaa
open Go.RowKit Go.ChangeShapes Go.WideShapes Go.ChangeAt Go.Deep
set_option maxRecDepth 100000 in
/-- the statement -/
theorem journalBack_holds : Rows.JournalBackSaid :=
  OpenClaim.holds_of_wide 5 Try.f5 rfl rfl rfl rfl rfl rfl rfl ⟨rfl, rfl, rfl, rfl, rfl⟩ rfl rfl rfl rfl rfl (by kernel_rfl) Try.func5 (by kernel_rfl)
    (of_decide_eq_true (by kernel_rfl)) (by unfold Func.isWrapper; first | (rw [if_pos (by decide +kernel)]; kernel_rfl) | (rw [if_neg (by decide +kernel)]; exact ⟨rfl, rfl⟩))
    (fun os started H enc _ => AM.journalBack_lifted os started H enc)

#print axioms journalBack_holds
end Go.Proofs.Ytabmdohibkkflaa

