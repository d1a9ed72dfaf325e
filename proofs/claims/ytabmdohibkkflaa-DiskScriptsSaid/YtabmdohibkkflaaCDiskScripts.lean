/-
  Whatever is written, read, flushed and crashes, a disk is what the document says: the law DiskScripts is true of every input. No condition.
-/
import Derived.Test.YtabmdohibkkflaaLD8
import Derived.Test.YtabmdohibkkflaaDN4
set_option linter.all false

namespace Go.Proofs.Ytabmdohibkkflaa.AM
open Go Go.RowKit Go.ChangeShapes Go.WideShapes Go.ChangeAt Go.Deep
set_option maxRecDepth 100000
theorem diskScripts_all (xs : List V) (h : POks [.one (.int .i64), .one (.list [.int .i64, .int .i64, .int .u8, .list [.int .i64], .int .i64, .int .i64])] xs) : TriS Try.prog 9 xs [] (fun r _ => r = .b true) := by
  obtain ⟨x, _, rfl, hx, h1⟩ := POks_cons h
  obtain ⟨y, _, rfl, hy, h2⟩ := POks_cons h1
  obtain rfl := POks_nil h2
  obtain ⟨n, rfl⟩ := kind_arg hx
  obtain ⟨L, dO, nn, cc, kn, tt, aa, kf, rfl, hL, hkn, hnn⟩ := ops_arg hy
  exact scripts04 n L dO nn cc kn tt aa kf hL hkn hnn
theorem diskScripts_lifted (os : Os) (started : os.Started) (H : Type) (enc : TypeId × Value → H) :
    ReturnsInHanded {} Try.checked os 9 .any (Rows.diskScriptsSpec.pre6 enc Try.prog Try.f9 Rows.diskScriptsRow.domain false) (Rows.diskScriptsSpec.post enc Try.prog Try.f9 false true false false) := by
  refine returnsInHanded_of_change (C := Try.checked) own0 started (by kernel_rfl) Try.func9
    (ChangeSpec.witness6 (enc := enc) (C := Try.checked) false ⟨#[], #[.int .i64 0, .slice none 0 0], []⟩ 8 (by kernel_rfl) (by kernel_rfl) (by kernel_rfl) (by kernel_rfl)) ?_
  intro W base args ds gs before hval hW _ _
  exact law_contract (ps := [.one (.int .i64), .one (.list [.int .i64, .int .i64, .int .u8, .list [.int .i64], .int .i64, .int .i64])]) (by kernel_rfl) diskScripts_all (tb := 4) Try.underlying4 rfl rfl (by kernel_rfl) (fun H ds hl => match ds, hl with | [_, _], _ => ⟨rfl, rfl, rfl⟩) hval hW
end Go.Proofs.Ytabmdohibkkflaa.AM
namespace Go.Proofs.Ytabmdohibkkflaa
open Go.RowKit Go.ChangeShapes Go.WideShapes Go.ChangeAt Go.Deep
set_option maxRecDepth 100000 in
/-- the statement -/
theorem diskScripts_holds : Rows.DiskScriptsSaid :=
  OpenClaim.holds_of_wide 9 Try.f9 rfl rfl rfl rfl rfl rfl rfl ⟨rfl, rfl, rfl, rfl, rfl⟩ rfl rfl rfl rfl rfl (by kernel_rfl) Try.func9 (by kernel_rfl)
    (of_decide_eq_true (by kernel_rfl)) (by unfold Func.isWrapper; first | (rw [if_pos (by decide +kernel)]; kernel_rfl) | (rw [if_neg (by decide +kernel)]; exact ⟨rfl, rfl⟩))
    (fun os started H enc _ => AM.diskScripts_lifted os started H enc)

#print axioms diskScripts_holds
end Go.Proofs.Ytabmdohibkkflaa

