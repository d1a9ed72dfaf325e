/-
  A disk that is none has nothing, one of an image has that: the law DiskNil is true of every input. No condition.
-/
import Derived.Test.YtabmdohibkkflaaDN4
set_option linter.all false

namespace Go.Proofs.Ytabmdohibkkflaa.AM
open Go Go.RowKit Go.ChangeShapes Go.WideShapes Go.ChangeAt Go.Deep
set_option maxRecDepth 100000
theorem diskNil_all (xs : List V) (h : POks [.agg [.int .i64, .int .i64, .int .u8, .list [.int .i64], .int .i64, .int .i64], .one (.list [.str])] xs) : TriS Try.prog 10 xs [] (fun r _ => r = .b true) := by
  obtain ⟨x, _, rfl, hx, h1⟩ := POks_cons h
  obtain ⟨y, _, rfl, hy, h2⟩ := POks_cons h1
  obtain rfl := POks_nil h2
  obtain ⟨_, rfl, g⟩ := hx
  obtain ⟨_, _, rfl, g1, g⟩ := VOks_cons g
  obtain ⟨_, _, rfl, g2, g⟩ := VOks_cons g
  obtain ⟨_, _, rfl, g3, g⟩ := VOks_cons g
  obtain ⟨_, _, rfl, g4, g⟩ := VOks_cons g
  obtain ⟨_, _, rfl, g5, g⟩ := VOks_cons g
  obtain ⟨_, _, rfl, g6, g⟩ := VOks_cons g
  obtain rfl := VOks_nil g
  obtain ⟨a1, rfl⟩ := kind_arg g1
  obtain ⟨a2, rfl⟩ := kind_arg g2
  obtain ⟨a3, rfl⟩ := kind_arg g3
  obtain ⟨K, kf, rfl, hK⟩ := ints_arg g4
  obtain ⟨a5, rfl⟩ := kind_arg g5
  obtain ⟨a6, rfl⟩ := kind_arg g6
  obtain ⟨n, f, rfl, hn⟩ := strs_arg hy
  exact nil04 a1 a2 a3 K a5 a6 n kf f hn.1 hK.1
theorem diskNil_lifted (os : Os) (started : os.Started) (H : Type) (enc : TypeId × Value → H) :
    ReturnsInHanded {} Try.checked os 10 .any (Rows.diskNilSpec.pre6 enc Try.prog Try.f10 Rows.diskNilRow.domain false) (Rows.diskNilSpec.post enc Try.prog Try.f10 false true false false) := by
  refine returnsInHanded_of_change (C := Try.checked) own0 started (by kernel_rfl) Try.func10
    (ChangeSpec.witness6 (enc := enc) (C := Try.checked) false ⟨#[], #[.agg #[.int .i64 0, .int .i64 0, .int .u8 0, .slice none 0 0, .int .i64 0, .int .i64 0], .slice none 0 0], []⟩ 8 (by kernel_rfl) (by kernel_rfl) (by kernel_rfl) (by kernel_rfl)) ?_
  intro W base args ds gs before hval hW _ _
  exact law_contract (ps := [.agg [.int .i64, .int .i64, .int .u8, .list [.int .i64], .int .i64, .int .i64], .one (.list [.str])]) (by kernel_rfl) diskNil_all (tb := 4) Try.underlying4 rfl rfl (by kernel_rfl) (fun H ds hl => match ds, hl with | [_, _], _ => ⟨rfl, rfl, rfl⟩) hval hW
end Go.Proofs.Ytabmdohibkkflaa.AM
namespace Go.Proofs.Ytabmdohibkkflaa
open Go.RowKit Go.ChangeShapes Go.WideShapes Go.ChangeAt Go.Deep
set_option maxRecDepth 100000 in
/-- the statement -/
theorem diskNil_holds : Rows.DiskNilSaid :=
  OpenClaim.holds_of_wide 10 Try.f10 rfl rfl rfl rfl rfl rfl rfl ⟨rfl, rfl, rfl, rfl, rfl⟩ rfl rfl rfl rfl rfl (by kernel_rfl) Try.func10 (by kernel_rfl)
    (of_decide_eq_true (by kernel_rfl)) (by unfold Func.isWrapper; first | (rw [if_pos (by decide +kernel)]; kernel_rfl) | (rw [if_neg (by decide +kernel)]; exact ⟨rfl, rfl⟩))
    (fun os started H enc _ => AM.diskNil_lifted os started H enc)

#print axioms diskNil_holds
end Go.Proofs.Ytabmdohibkkflaa

