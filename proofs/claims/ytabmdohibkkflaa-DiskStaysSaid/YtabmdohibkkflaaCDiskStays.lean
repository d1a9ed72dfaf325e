/-
  What is flushed stays, whatever is written behind it and lost: the law DiskStays is true of every input. No condition.
-/
import Derived.Test.YtabmdohibkkflaaDN5
import Derived.Test.YtabmdohibkkflaaDN4
set_option linter.all false

namespace Go.Proofs.Ytabmdohibkkflaa.AM
open Go Go.RowKit Go.ChangeShapes Go.WideShapes Go.ChangeAt Go.Deep
set_option maxRecDepth 100000
theorem diskStays_all (xs : List V) (h : POks [.agg [.int .i64, .list [.int .i64, .int .i64, .int .u8, .list [.int .i64], .int .i64, .int .i64], .int .i64, .int .u8]] xs) : TriS Try.prog 6 xs [] (fun r _ => r = .b true) := by
  obtain ⟨x, _, rfl, hx, h1⟩ := POks_cons h
  obtain rfl := POks_nil h1
  obtain ⟨_, rfl, g⟩ := hx
  obtain ⟨_, _, rfl, g1, g⟩ := VOks_cons g
  obtain ⟨_, _, rfl, g2, g⟩ := VOks_cons g
  obtain ⟨_, _, rfl, g3, g⟩ := VOks_cons g
  obtain ⟨_, _, rfl, g4, g⟩ := VOks_cons g
  obtain rfl := VOks_nil g
  obtain ⟨n, rfl⟩ := kind_arg g1
  obtain ⟨L, dO, nn, cc, kn, tt, aa, kf, rfl, hL, -, -⟩ := ops_arg g2
  obtain ⟨q, rfl⟩ := kind_arg g3
  obtain ⟨c, rfl⟩ := kind_arg g4
  exact stays04 n q c L dO nn cc kn tt aa kf hL
theorem diskStays_lifted (os : Os) (started : os.Started) (H : Type) (enc : TypeId × Value → H) :
    ReturnsInHanded {} Try.checked os 6 .any (Rows.diskStaysSpec.pre6 enc Try.prog Try.f6 Rows.diskStaysRow.domain false) (Rows.diskStaysSpec.post enc Try.prog Try.f6 false true false false) := by
  refine returnsInHanded_of_change (C := Try.checked) own0 started (by kernel_rfl) Try.func6
    (ChangeSpec.witness6 (enc := enc) (C := Try.checked) false ⟨#[], #[.agg #[.int .i64 0, .slice none 0 0, .int .i64 0, .int .u8 0]], []⟩ 8 (by kernel_rfl) (by kernel_rfl) (by kernel_rfl) (by kernel_rfl)) ?_
  intro W base args ds gs before hval hW _ _
  exact law_contract (ps := [.agg [.int .i64, .list [.int .i64, .int .i64, .int .u8, .list [.int .i64], .int .i64, .int .i64], .int .i64, .int .u8]]) (by kernel_rfl) diskStays_all (tb := 4) Try.underlying4 rfl rfl (by kernel_rfl) (fun H ds hl => match ds, hl with | [_], _ => ⟨rfl, rfl, rfl⟩) hval hW
end Go.Proofs.Ytabmdohibkkflaa.AM
namespace Go.Proofs.Ytabmdohibkkflaa
open Go.RowKit Go.ChangeShapes Go.WideShapes Go.ChangeAt Go.Deep
set_option maxRecDepth 100000 in
/-- the statement -/
theorem diskStays_holds : Rows.DiskStaysSaid :=
  OpenClaim.holds_of_wide 6 Try.f6 rfl rfl rfl rfl rfl rfl rfl ⟨rfl, rfl, rfl, rfl, rfl⟩ rfl rfl rfl rfl rfl (by kernel_rfl) Try.func6 (by kernel_rfl)
    (of_decide_eq_true (by kernel_rfl)) (by unfold Func.isWrapper; first | (rw [if_pos (by decide +kernel)]; kernel_rfl) | (rw [if_neg (by decide +kernel)]; exact ⟨rfl, rfl⟩))
    (fun os started H enc _ => AM.diskStays_lifted os started H enc)

#print axioms diskStays_holds
end Go.Proofs.Ytabmdohibkkflaa

