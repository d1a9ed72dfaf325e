/-
  What was written last is read, whatever waits: the law DiskLast is true of every input. No condition.
-/
import Derived.Test.YtabmdohibkkflaaLD11
import Derived.Test.YtabmdohibkkflaaDN4
set_option linter.all false

namespace Go.Proofs.Ytabmdohibkkflaa.AM
open Go Go.RowKit Go.ChangeShapes Go.WideShapes Go.ChangeAt Go.Deep
set_option maxRecDepth 100000
theorem diskLast_all (xs : List V) (h : POks [.one (.int .i64), .one (.list [.int .i64, .int .i64, .int .u8, .list [.int .i64], .int .i64, .int .i64])] xs) : TriS Try.prog 8 xs [] (fun r _ => r = .b true) := by
  obtain ⟨x, _, rfl, hx, h1⟩ := POks_cons h
  obtain ⟨y, _, rfl, hy, h2⟩ := POks_cons h1
  obtain rfl := POks_nil h2
  obtain ⟨n, rfl⟩ := kind_arg hx
  obtain ⟨L, dO, nn, cc, kn, tt, aa, kf, rfl, hL, hkn, hnn⟩ := ops_arg hy
  exact last04 n L dO nn cc kn tt aa kf hL
theorem diskLast_lifted (os : Os) (started : os.Started) (H : Type) (enc : TypeId × Value → H) :
    ReturnsInHanded {} Try.checked os 8 .any (Rows.diskLastSpec.pre6 enc Try.prog Try.f8 Rows.diskLastRow.domain false) (Rows.diskLastSpec.post enc Try.prog Try.f8 false true false false) := by
  refine returnsInHanded_of_change (C := Try.checked) own0 started (by kernel_rfl) Try.func8
    (ChangeSpec.witness6 (enc := enc) (C := Try.checked) false ⟨#[], #[.int .i64 0, .slice none 0 0], []⟩ 8 (by kernel_rfl) (by kernel_rfl) (by kernel_rfl) (by kernel_rfl)) ?_
  intro W base args ds gs before hval hW _ _
  exact law_contract (ps := [.one (.int .i64), .one (.list [.int .i64, .int .i64, .int .u8, .list [.int .i64], .int .i64, .int .i64])]) (by kernel_rfl) diskLast_all (tb := 4) Try.underlying4 rfl rfl (by kernel_rfl) (fun H ds hl => match ds, hl with | [_, _], _ => ⟨rfl, rfl, rfl⟩) hval hW
end Go.Proofs.Ytabmdohibkkflaa.AM
namespace Go.Proofs.Ytabmdohibkkflaa
open Go.RowKit Go.ChangeShapes Go.WideShapes Go.ChangeAt Go.Deep
set_option maxRecDepth 100000 in
/-- the statement -/
theorem diskLast_holds : Rows.DiskLastSaid :=
  OpenClaim.holds_of_wide 8 Try.f8 rfl rfl rfl rfl rfl rfl rfl ⟨rfl, rfl, rfl, rfl, rfl⟩ rfl rfl rfl rfl rfl (by kernel_rfl) Try.func8 (by kernel_rfl)
    (of_decide_eq_true (by kernel_rfl)) (by unfold Func.isWrapper; first | (rw [if_pos (by decide +kernel)]; kernel_rfl) | (rw [if_neg (by decide +kernel)]; exact ⟨rfl, rfl⟩))
    (fun os started H enc _ => AM.diskLast_lifted os started H enc)

#print axioms diskLast_holds
end Go.Proofs.Ytabmdohibkkflaa

