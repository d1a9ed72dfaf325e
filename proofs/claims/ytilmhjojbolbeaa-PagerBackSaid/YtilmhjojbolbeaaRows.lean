/-
  No cell of these rows narrows 'for every input' (looked for: loops, veiled, ifaces, maps, wideKeys, modest, calm, conditions, laid).
  DERIVED. THE GIVEN ROWS OF THIS SEAT. 8 by the template 'for every input the law returns true; each argument reads behind the call as it read before'; 0 by the template 'total and deterministic' (their statements: YtilmhjojbolbeaaTotals.lean).
  GIVEN WITH THE SEED: the statements are not yours to turn. If you find one false, say at which input.
  Laid BY PROGRAM, IN A SANDBOX (cutbox-rows.mjs): the forced cells as the released guide's own fill.sh prints them over the translation 0d18aa7b525a9857… (all of the seat's roots in one cut). By AI agents, Wed Nov 11 2026. No macro, syntax, notation, axiom, sorry.
-/
import Derived.Test.YtilmhjojbolbeaaChecked
import GoSem.Claim
import GoSem.ClaimJoined
import GoSem.ClaimMapViews
import Derived.JoinedTies
import Derived.KernelRfl
namespace Go.Proofs.Ytilmhjojbolbeaa
/- THE CELL 'sum', in the pinned program and in every row, IS THE sha256 OF THE DUMP (.gsa) THAT YtilmhjojbolbeaaProg.lean LOADS. Nothing in Lean hashes anything: it is a label: what it is worth is what the hold of that sum in a sandbox is worth. -/
noncomputable def Try.pinned : Pinned := { name := "ytilmhjojbolbeaa", sum := "0d18aa7b525a9857faa084b2dcf10d90b76db3773ba729d64bac28f264b29366", checked := Try.checked }
namespace Rows
def none {H : Type} : Left H := { results := [], args := [] }

/-- 'cadastrelaw14.RegionFinds': WHATEVER THE INPUT: true; the input reads as it did. -/
def regionFindsSpec : ChangeSpec := { name := "regionFinds", fn := fun _ => fun
  | [d1, d2, d3] => { results := [.lit (.bool true)], args := [d1, d2, d3] }
  | _ => none }
def regionFindsRow : OpenClaim := { program := "ytilmhjojbolbeaa", sum := "0d18aa7b525a9857faa084b2dcf10d90b76db3773ba729d64bac28f264b29366", func := "cadastre/cadastrelaw14.RegionFinds", spec := "regionFinds", unfollowed := true, recurses := true, apart := false }
def RegionFindsSaid : Prop := regionFindsRow.holds Try.pinned (OpenSpec.ofChange regionFindsSpec)

/-- ITS FALSE NEIGHBOUR: 'it returns false'. Refute it at one input. -/
def regionFindsWrong : ChangeSpec := { name := "regionFinds", fn := fun _ => fun
  | [d1, d2, d3] => { results := [.lit (.bool false)], args := [d1, d2, d3] }
  | _ => none }
def RegionFindsWrongFalsely : Prop := regionFindsRow.holds Try.pinned (OpenSpec.ofChange regionFindsWrong)

/-- 'cadastrelaw14.RegionJoins': WHATEVER THE INPUT: true; the input reads as it did. -/
def regionJoinsSpec : ChangeSpec := { name := "regionJoins", fn := fun _ => fun
  | [d1, d2] => { results := [.lit (.bool true)], args := [d1, d2] }
  | _ => none }
def regionJoinsRow : OpenClaim := { program := "ytilmhjojbolbeaa", sum := "0d18aa7b525a9857faa084b2dcf10d90b76db3773ba729d64bac28f264b29366", func := "cadastre/cadastrelaw14.RegionJoins", spec := "regionJoins", unfollowed := true, recurses := true, apart := false }
def RegionJoinsSaid : Prop := regionJoinsRow.holds Try.pinned (OpenSpec.ofChange regionJoinsSpec)

/-- ITS FALSE NEIGHBOUR: 'it returns false'. Refute it at one input. -/
def regionJoinsWrong : ChangeSpec := { name := "regionJoins", fn := fun _ => fun
  | [d1, d2] => { results := [.lit (.bool false)], args := [d1, d2] }
  | _ => none }
def RegionJoinsWrongFalsely : Prop := regionJoinsRow.holds Try.pinned (OpenSpec.ofChange regionJoinsWrong)

/-- 'cadastrelaw14.RegionBack': WHATEVER THE INPUT: true; the input reads as it did. -/
def regionBackSpec : ChangeSpec := { name := "regionBack", fn := fun _ => fun
  | [d1, d2] => { results := [.lit (.bool true)], args := [d1, d2] }
  | _ => none }
def regionBackRow : OpenClaim := { program := "ytilmhjojbolbeaa", sum := "0d18aa7b525a9857faa084b2dcf10d90b76db3773ba729d64bac28f264b29366", func := "cadastre/cadastrelaw14.RegionBack", spec := "regionBack", unfollowed := true, recurses := true, apart := false }
def RegionBackSaid : Prop := regionBackRow.holds Try.pinned (OpenSpec.ofChange regionBackSpec)

/-- ITS FALSE NEIGHBOUR: 'it returns false'. Refute it at one input. -/
def regionBackWrong : ChangeSpec := { name := "regionBack", fn := fun _ => fun
  | [d1, d2] => { results := [.lit (.bool false)], args := [d1, d2] }
  | _ => none }
def RegionBackWrongFalsely : Prop := regionBackRow.holds Try.pinned (OpenSpec.ofChange regionBackWrong)

/-- 'cadastrelaw14.RegionFours': WHATEVER THE INPUT: true; the input reads as it did. -/
def regionFoursSpec : ChangeSpec := { name := "regionFours", fn := fun _ => fun
  | [d1, d2, d3] => { results := [.lit (.bool true)], args := [d1, d2, d3] }
  | _ => none }
def regionFoursRow : OpenClaim := { program := "ytilmhjojbolbeaa", sum := "0d18aa7b525a9857faa084b2dcf10d90b76db3773ba729d64bac28f264b29366", func := "cadastre/cadastrelaw14.RegionFours", spec := "regionFours", unfollowed := true, recurses := true, apart := false }
def RegionFoursSaid : Prop := regionFoursRow.holds Try.pinned (OpenSpec.ofChange regionFoursSpec)

/-- ITS FALSE NEIGHBOUR: 'it returns false'. Refute it at one input. -/
def regionFoursWrong : ChangeSpec := { name := "regionFours", fn := fun _ => fun
  | [d1, d2, d3] => { results := [.lit (.bool false)], args := [d1, d2, d3] }
  | _ => none }
def RegionFoursWrongFalsely : Prop := regionFoursRow.holds Try.pinned (OpenSpec.ofChange regionFoursWrong)

/-- 'cadastrelaw14.RegionFilled': WHATEVER THE INPUT: true; the input reads as it did. -/
def regionFilledSpec : ChangeSpec := { name := "regionFilled", fn := fun _ => fun
  | [d] => { results := [.lit (.bool true)], args := [d] }
  | _ => none }
def regionFilledRow : OpenClaim := { program := "ytilmhjojbolbeaa", sum := "0d18aa7b525a9857faa084b2dcf10d90b76db3773ba729d64bac28f264b29366", func := "cadastre/cadastrelaw14.RegionFilled", spec := "regionFilled", unfollowed := true, recurses := true, apart := false }
def RegionFilledSaid : Prop := regionFilledRow.holds Try.pinned (OpenSpec.ofChange regionFilledSpec)

/-- ITS FALSE NEIGHBOUR: 'it returns false'. Refute it at one input. -/
def regionFilledWrong : ChangeSpec := { name := "regionFilled", fn := fun _ => fun
  | [d] => { results := [.lit (.bool false)], args := [d] }
  | _ => none }
def RegionFilledWrongFalsely : Prop := regionFilledRow.holds Try.pinned (OpenSpec.ofChange regionFilledWrong)

/-- 'cadastrelaw23.PagerBack': WHATEVER THE INPUT: true; the input reads as it did. -/
def pagerBackSpec : ChangeSpec := { name := "pagerBack", fn := fun _ => fun
  | [d1, d2, d3] => { results := [.lit (.bool true)], args := [d1, d2, d3] }
  | _ => none }
def pagerBackRow : OpenClaim := { program := "ytilmhjojbolbeaa", sum := "0d18aa7b525a9857faa084b2dcf10d90b76db3773ba729d64bac28f264b29366", func := "cadastre/cadastrelaw23.PagerBack", spec := "pagerBack", inPlace := ["internal/abi.NoEscape", "internal/bytealg.MakeNoZero"], unfollowed := true, recurses := true, apart := false }
def PagerBackSaid : Prop := pagerBackRow.holds Try.pinned (OpenSpec.ofChange pagerBackSpec)

/-- ITS FALSE NEIGHBOUR: 'it returns false'. Refute it at one input. -/
def pagerBackWrong : ChangeSpec := { name := "pagerBack", fn := fun _ => fun
  | [d1, d2, d3] => { results := [.lit (.bool false)], args := [d1, d2, d3] }
  | _ => none }
def PagerBackWrongFalsely : Prop := pagerBackRow.holds Try.pinned (OpenSpec.ofChange pagerBackWrong)

/-- 'cadastrelaw23.PagerNil': WHATEVER THE INPUT: true; the input reads as it did. -/
def pagerNilSpec : ChangeSpec := { name := "pagerNil", fn := fun _ => fun
  | [d1, d2] => { results := [.lit (.bool true)], args := [d1, d2] }
  | _ => none }
def pagerNilRow : OpenClaim := { program := "ytilmhjojbolbeaa", sum := "0d18aa7b525a9857faa084b2dcf10d90b76db3773ba729d64bac28f264b29366", func := "cadastre/cadastrelaw23.PagerNil", spec := "pagerNil", inPlace := ["internal/abi.NoEscape", "internal/bytealg.MakeNoZero"], unfollowed := true, recurses := true, apart := false }
def PagerNilSaid : Prop := pagerNilRow.holds Try.pinned (OpenSpec.ofChange pagerNilSpec)

/-- ITS FALSE NEIGHBOUR: 'it returns false'. Refute it at one input. -/
def pagerNilWrong : ChangeSpec := { name := "pagerNil", fn := fun _ => fun
  | [d1, d2] => { results := [.lit (.bool false)], args := [d1, d2] }
  | _ => none }
def PagerNilWrongFalsely : Prop := pagerNilRow.holds Try.pinned (OpenSpec.ofChange pagerNilWrong)

/-- 'cadastrelaw23.PagerFew': WHATEVER THE INPUT: true; the input reads as it did. -/
def pagerFewSpec : ChangeSpec := { name := "pagerFew", fn := fun _ => fun
  | [d] => { results := [.lit (.bool true)], args := [d] }
  | _ => none }
def pagerFewRow : OpenClaim := { program := "ytilmhjojbolbeaa", sum := "0d18aa7b525a9857faa084b2dcf10d90b76db3773ba729d64bac28f264b29366", func := "cadastre/cadastrelaw23.PagerFew", spec := "pagerFew", inPlace := ["internal/abi.NoEscape", "internal/bytealg.MakeNoZero"], unfollowed := true, recurses := true, apart := false }
def PagerFewSaid : Prop := pagerFewRow.holds Try.pinned (OpenSpec.ofChange pagerFewSpec)

/-- ITS FALSE NEIGHBOUR: 'it returns false'. Refute it at one input. -/
def pagerFewWrong : ChangeSpec := { name := "pagerFew", fn := fun _ => fun
  | [d] => { results := [.lit (.bool false)], args := [d] }
  | _ => none }
def PagerFewWrongFalsely : Prop := pagerFewRow.holds Try.pinned (OpenSpec.ofChange pagerFewWrong)

/- THE SECOND FORM. 'bulk': how many values and letters a reading holds, each counted each time it is reached (what is shared counts as often as it is met; a slice's spare places count too). A statement '..UptoSaid' is the law's where the arguments, and the package variables that the reading takes, are together of bulk at most 1048576: NARROWER than '..Said'. Prove '..Said' where nothing that the law and all that it calls make is longer than what came in: it says more and counts as full. Else prove '..UptoSaid'. A law counts once. -/
mutual
def uptoBulk {H : Type} : DataW H → Nat
  | .lit (.string bytes) => bytes.length + 1
  | .lit _ => 1
  | .nil => 1
  | .ptr d => uptoBulk d + 1
  | .slice elems spare => uptoBulkAll elems + uptoBulkAll spare + 1
  | .agg parts => uptoBulkAll parts + 1
  | .iface _ d => uptoBulk d + 1
  | .map entries => uptoBulkEntries entries + 1
  | .held _ => 1
def uptoBulkAll {H : Type} : List (DataW H) → Nat
  | [] => 0
  | d :: r => uptoBulk d + uptoBulkAll r
def uptoBulkEntries {H : Type} : List (Lit × DataW H) → Nat
  | [] => 0
  | x :: r => uptoBulkEntry x + uptoBulkEntries r
def uptoBulkEntry {H : Type} : Lit × DataW H → Nat
  | (.string bytes, d) => bytes.length + uptoBulk d + 1
  | (_, d) => uptoBulk d + 1
 end
def uptoSmall : (H : Type) → List (DataW H) → Bool := fun _ ds => decide (uptoBulkAll ds ≤ 1048576)
def OpenSpec.upto (s : _root_.Go.ChangeSpec) : _root_.Go.OpenSpec := { _root_.Go.OpenSpec.ofChange s with cond := some uptoSmall }

/-- 'cadastrelaw14.RegionFinds', WHERE WHAT IT READS IS OF BULK AT MOST 1048576: true; the input reads as it did. -/
def regionFindsUptoRow : OpenClaim := { program := "ytilmhjojbolbeaa", sum := "0d18aa7b525a9857faa084b2dcf10d90b76db3773ba729d64bac28f264b29366", func := "cadastre/cadastrelaw14.RegionFinds", spec := "regionFinds", unfollowed := true, recurses := true, apart := false, narrowed := true }
def RegionFindsUptoSaid : Prop := regionFindsUptoRow.holds Try.pinned (OpenSpec.upto regionFindsSpec)

/-- 'cadastrelaw14.RegionJoins', WHERE WHAT IT READS IS OF BULK AT MOST 1048576: true; the input reads as it did. -/
def regionJoinsUptoRow : OpenClaim := { program := "ytilmhjojbolbeaa", sum := "0d18aa7b525a9857faa084b2dcf10d90b76db3773ba729d64bac28f264b29366", func := "cadastre/cadastrelaw14.RegionJoins", spec := "regionJoins", unfollowed := true, recurses := true, apart := false, narrowed := true }
def RegionJoinsUptoSaid : Prop := regionJoinsUptoRow.holds Try.pinned (OpenSpec.upto regionJoinsSpec)

/-- 'cadastrelaw14.RegionBack', WHERE WHAT IT READS IS OF BULK AT MOST 1048576: true; the input reads as it did. -/
def regionBackUptoRow : OpenClaim := { program := "ytilmhjojbolbeaa", sum := "0d18aa7b525a9857faa084b2dcf10d90b76db3773ba729d64bac28f264b29366", func := "cadastre/cadastrelaw14.RegionBack", spec := "regionBack", unfollowed := true, recurses := true, apart := false, narrowed := true }
def RegionBackUptoSaid : Prop := regionBackUptoRow.holds Try.pinned (OpenSpec.upto regionBackSpec)

/-- 'cadastrelaw14.RegionFours', WHERE WHAT IT READS IS OF BULK AT MOST 1048576: true; the input reads as it did. -/
def regionFoursUptoRow : OpenClaim := { program := "ytilmhjojbolbeaa", sum := "0d18aa7b525a9857faa084b2dcf10d90b76db3773ba729d64bac28f264b29366", func := "cadastre/cadastrelaw14.RegionFours", spec := "regionFours", unfollowed := true, recurses := true, apart := false, narrowed := true }
def RegionFoursUptoSaid : Prop := regionFoursUptoRow.holds Try.pinned (OpenSpec.upto regionFoursSpec)

/-- 'cadastrelaw14.RegionFilled', WHERE WHAT IT READS IS OF BULK AT MOST 1048576: true; the input reads as it did. -/
def regionFilledUptoRow : OpenClaim := { program := "ytilmhjojbolbeaa", sum := "0d18aa7b525a9857faa084b2dcf10d90b76db3773ba729d64bac28f264b29366", func := "cadastre/cadastrelaw14.RegionFilled", spec := "regionFilled", unfollowed := true, recurses := true, apart := false, narrowed := true }
def RegionFilledUptoSaid : Prop := regionFilledUptoRow.holds Try.pinned (OpenSpec.upto regionFilledSpec)

/-- 'cadastrelaw23.PagerBack', WHERE WHAT IT READS IS OF BULK AT MOST 1048576: true; the input reads as it did. -/
def pagerBackUptoRow : OpenClaim := { program := "ytilmhjojbolbeaa", sum := "0d18aa7b525a9857faa084b2dcf10d90b76db3773ba729d64bac28f264b29366", func := "cadastre/cadastrelaw23.PagerBack", spec := "pagerBack", inPlace := ["internal/abi.NoEscape", "internal/bytealg.MakeNoZero"], unfollowed := true, recurses := true, apart := false, narrowed := true }
def PagerBackUptoSaid : Prop := pagerBackUptoRow.holds Try.pinned (OpenSpec.upto pagerBackSpec)

/-- 'cadastrelaw23.PagerNil', WHERE WHAT IT READS IS OF BULK AT MOST 1048576: true; the input reads as it did. -/
def pagerNilUptoRow : OpenClaim := { program := "ytilmhjojbolbeaa", sum := "0d18aa7b525a9857faa084b2dcf10d90b76db3773ba729d64bac28f264b29366", func := "cadastre/cadastrelaw23.PagerNil", spec := "pagerNil", inPlace := ["internal/abi.NoEscape", "internal/bytealg.MakeNoZero"], unfollowed := true, recurses := true, apart := false, narrowed := true }
def PagerNilUptoSaid : Prop := pagerNilUptoRow.holds Try.pinned (OpenSpec.upto pagerNilSpec)

/-- 'cadastrelaw23.PagerFew', WHERE WHAT IT READS IS OF BULK AT MOST 1048576: true; the input reads as it did. -/
def pagerFewUptoRow : OpenClaim := { program := "ytilmhjojbolbeaa", sum := "0d18aa7b525a9857faa084b2dcf10d90b76db3773ba729d64bac28f264b29366", func := "cadastre/cadastrelaw23.PagerFew", spec := "pagerFew", inPlace := ["internal/abi.NoEscape", "internal/bytealg.MakeNoZero"], unfollowed := true, recurses := true, apart := false, narrowed := true }
def PagerFewUptoSaid : Prop := pagerFewUptoRow.holds Try.pinned (OpenSpec.upto pagerFewSpec)

end Rows
end Go.Proofs.Ytilmhjojbolbeaa
