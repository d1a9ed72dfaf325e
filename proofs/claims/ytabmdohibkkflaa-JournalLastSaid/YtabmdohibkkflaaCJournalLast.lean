/-
  Of two commits of one transaction the later one is scanned: the law JournalLast is true of every input. No condition.
-/
import Derived.Test.YtabmdohibkkflaaJX3
set_option linter.all false

namespace Go.Proofs.Ytabmdohibkkflaa.AM
open Go Go.RowKit Go.ChangeShapes Go.WideShapes Go.ChangeAt Go.Deep
set_option maxRecDepth 100000
theorem journalLast_all (xs : List V) (h : POks [.one (.list [.int .i64, .int .i64, .str]), .one (.list [.int .i64, .int .i64, .str]), .one .bool] xs) : TriS Try.prog 3 xs [] (fun r _ => r = .b true) := by
  obtain ⟨x, _, rfl, hx, h1⟩ := POks_cons h
  obtain ⟨y, _, rfl, hy, h2⟩ := POks_cons h1
  obtain ⟨z, _, rfl, hz, h3⟩ := POks_cons h2
  obtain rfl := POks_nil h3
  obtain ⟨n, pk, pn, pb, rfl, hn⟩ := pages_arg hx
  obtain ⟨n', pk', pn', pb', rfl, hn'⟩ := pages_arg hy
  obtain ⟨t, rfl⟩ := hz
  exact last07 n n' pk pn pb pk' pn' pb' t hn hn'
theorem journalLast_lifted (os : Os) (started : os.Started) (H : Type) (enc : TypeId × Value → H) :
    ReturnsInHanded {} Try.checked os 3 .any (Rows.journalLastSpec.pre6 enc Try.prog Try.f3 Rows.journalLastRow.domain false) (Rows.journalLastSpec.post enc Try.prog Try.f3 false true false false) := by
  refine returnsInHanded_of_change (C := Try.checked) own0 started (by kernel_rfl) Try.func3
    (ChangeSpec.witness6 (enc := enc) (C := Try.checked) false ⟨#[], #[.slice none 0 0, .slice none 0 0, .bool false], []⟩ 8 (by kernel_rfl) (by kernel_rfl) (by kernel_rfl) (by kernel_rfl)) ?_
  intro W base args ds gs before hval hW _ _
  exact law_contract (ps := [.one (.list [.int .i64, .int .i64, .str]), .one (.list [.int .i64, .int .i64, .str]), .one .bool]) (by kernel_rfl) journalLast_all (tb := 4) Try.underlying4 rfl rfl (by kernel_rfl) (fun H ds hl => match ds, hl with | [_, _, _], _ => ⟨rfl, rfl, rfl⟩) hval hW
end Go.Proofs.Ytabmdohibkkflaa.AM
namespace Go.Proofs.Ytabmdohibkkflaa
open Go.RowKit Go.ChangeShapes Go.WideShapes Go.ChangeAt Go.Deep
set_option maxRecDepth 100000 in
/-- the statement -/
theorem journalLast_holds : Rows.JournalLastSaid :=
  OpenClaim.holds_of_wide 3 Try.f3 rfl rfl rfl rfl rfl rfl rfl ⟨rfl, rfl, rfl, rfl, rfl⟩ rfl rfl rfl rfl rfl (by kernel_rfl) Try.func3 (by kernel_rfl)
    (of_decide_eq_true (by kernel_rfl)) (by unfold Func.isWrapper; first | (rw [if_pos (by decide +kernel)]; kernel_rfl) | (rw [if_neg (by decide +kernel)]; exact ⟨rfl, rfl⟩))
    (fun os started H enc _ => AM.journalLast_lifted os started H enc)

#print axioms journalLast_holds
end Go.Proofs.Ytabmdohibkkflaa

