/-
  A journal that is none, or on no disk, commits nothing: the law JournalNil is true of every input. No condition.
-/
import Derived.Test.YtabmdohibkkflaaCJournalNil2
set_option linter.all false

namespace Go.Proofs.Ytabmdohibkkflaa.AM
open Go Go.RowKit Go.ChangeShapes Go.WideShapes Go.ChangeAt Go.Deep
set_option maxRecDepth 100000
theorem journalNil_all (xs : List V) (h0 : POks [.agg [.int .i64, .int .i64, .int .i64, .int .i64], .one (.list [.int .i64, .int .i64, .str])] xs) : TriS Try.prog 4 xs [] (fun r _ => r = .b true) := by
  obtain ⟨x, _, rfl, hx, h⟩ := POks_cons h0
  obtain ⟨y, _, rfl, hy, g⟩ := POks_cons h
  obtain rfl := POks_nil g
  obtain ⟨a, b, c, d, rfl, -⟩ := place_arg hx
  obtain ⟨n, pk, pn, pb, rfl, hn⟩ := pages_arg hy
  exact nil07 a b c d n pk pn pb hn
theorem journalNil_lifted (os : Os) (started : os.Started) (H : Type) (enc : TypeId × Value → H) :
    ReturnsInHanded {} Try.checked os 4 .any (Rows.journalNilSpec.pre6 enc Try.prog Try.f4 Rows.journalNilRow.domain false) (Rows.journalNilSpec.post enc Try.prog Try.f4 false true false false) := by
  refine returnsInHanded_of_change (C := Try.checked) own0 started (by kernel_rfl) Try.func4
    (ChangeSpec.witness6 (enc := enc) (C := Try.checked) false ⟨#[], #[.agg #[.int .i64 0, .int .i64 0, .int .i64 0, .int .i64 0], .slice none 0 0], []⟩ 8 (by kernel_rfl) (by kernel_rfl) (by kernel_rfl) (by kernel_rfl)) ?_
  intro W base args ds gs before hval hW _ _
  exact law_contract (ps := [.agg [.int .i64, .int .i64, .int .i64, .int .i64], .one (.list [.int .i64, .int .i64, .str])]) (by kernel_rfl) journalNil_all (tb := 4) Try.underlying4 rfl rfl (by kernel_rfl) (fun H ds hl => match ds, hl with | [_, _], _ => ⟨rfl, rfl, rfl⟩) hval hW
end Go.Proofs.Ytabmdohibkkflaa.AM
namespace Go.Proofs.Ytabmdohibkkflaa
open Go.RowKit Go.ChangeShapes Go.WideShapes Go.ChangeAt Go.Deep
set_option maxRecDepth 100000 in
/-- the statement -/
theorem journalNil_holds : Rows.JournalNilSaid :=
  OpenClaim.holds_of_wide 4 Try.f4 rfl rfl rfl rfl rfl rfl rfl ⟨rfl, rfl, rfl, rfl, rfl⟩ rfl rfl rfl rfl rfl (by kernel_rfl) Try.func4 (by kernel_rfl)
    (of_decide_eq_true (by kernel_rfl)) (by unfold Func.isWrapper; first | (rw [if_pos (by decide +kernel)]; kernel_rfl) | (rw [if_neg (by decide +kernel)]; exact ⟨rfl, rfl⟩))
    (fun os started H enc _ => AM.journalNil_lifted os started H enc)

#print axioms journalNil_holds
end Go.Proofs.Ytabmdohibkkflaa

