/-
  No cell of these rows narrows 'for every input' (looked for: loops, veiled, ifaces, maps, wideKeys, modest, calm, conditions, laid).
  DERIVED. THE GIVEN ROWS OF THIS SEAT. 11 by the template 'for every input the law returns true; each argument reads behind the call as it read before'; 0 by the template 'total and deterministic' (their statements: YtbofjdckmkifaaaTotals.lean).
  GIVEN WITH THE SEED: the statements are not yours to turn. If you find one false, say at which input.
  Laid BY PROGRAM, IN A SANDBOX (cutbox-rows.mjs): the forced cells as the released guide's own fill.sh prints them over the translation 98fbf0aaa6a2ebf9… (all of the seat's roots in one cut). By AI agents, Wed Nov 11 2026. No macro, syntax, notation, axiom, sorry.
-/
import Derived.Test.YtbofjdckmkifaaaChecked
import GoSem.Claim
import GoSem.ClaimJoined
import GoSem.ClaimMapViews
import Derived.JoinedTies
import Derived.KernelRfl
namespace Go.Proofs.Ytbofjdckmkifaaa
/- THE CELL 'sum', in the pinned program and in every row, IS THE sha256 OF THE DUMP (.gsa) THAT YtbofjdckmkifaaaProg.lean LOADS. Nothing in Lean hashes anything: it is a label: what it is worth is what the hold of that sum in a sandbox is worth. -/
noncomputable def Try.pinned : Pinned := { name := "ytbofjdckmkifaaa", sum := "98fbf0aaa6a2ebf9780cc3917d6a14d21855ba5e311a31285f6f8768475faee2", checked := Try.checked }
namespace Rows
def none {H : Type} : Left H := { results := [], args := [] }

/-- 'cadastrelaw13.SlabScripts': WHATEVER THE INPUT: true; the input reads as it did. -/
def slabScriptsSpec : ChangeSpec := { name := "slabScripts", fn := fun _ => fun
  | [d1, d2, d3] => { results := [.lit (.bool true)], args := [d1, d2, d3] }
  | _ => none }
def slabScriptsRow : OpenClaim := { program := "ytbofjdckmkifaaa", sum := "98fbf0aaa6a2ebf9780cc3917d6a14d21855ba5e311a31285f6f8768475faee2", func := "cadastre/cadastrelaw13.SlabScripts", spec := "slabScripts", unfollowed := true, recurses := true, apart := false }
def SlabScriptsSaid : Prop := slabScriptsRow.holds Try.pinned (OpenSpec.ofChange slabScriptsSpec)

/-- ITS FALSE NEIGHBOUR: 'it returns false'. Refute it at one input. -/
def slabScriptsWrong : ChangeSpec := { name := "slabScripts", fn := fun _ => fun
  | [d1, d2, d3] => { results := [.lit (.bool false)], args := [d1, d2, d3] }
  | _ => none }
def SlabScriptsWrongFalsely : Prop := slabScriptsRow.holds Try.pinned (OpenSpec.ofChange slabScriptsWrong)

/-- 'cadastrelaw13.SlabMakes': WHATEVER THE INPUT: true; the input reads as it did. -/
def slabMakesSpec : ChangeSpec := { name := "slabMakes", fn := fun _ => fun
  | [d1, d2] => { results := [.lit (.bool true)], args := [d1, d2] }
  | _ => none }
def slabMakesRow : OpenClaim := { program := "ytbofjdckmkifaaa", sum := "98fbf0aaa6a2ebf9780cc3917d6a14d21855ba5e311a31285f6f8768475faee2", func := "cadastre/cadastrelaw13.SlabMakes", spec := "slabMakes", unfollowed := true, recurses := true, apart := false }
def SlabMakesSaid : Prop := slabMakesRow.holds Try.pinned (OpenSpec.ofChange slabMakesSpec)

/-- ITS FALSE NEIGHBOUR: 'it returns false'. Refute it at one input. -/
def slabMakesWrong : ChangeSpec := { name := "slabMakes", fn := fun _ => fun
  | [d1, d2] => { results := [.lit (.bool false)], args := [d1, d2] }
  | _ => none }
def SlabMakesWrongFalsely : Prop := slabMakesRow.holds Try.pinned (OpenSpec.ofChange slabMakesWrong)

/-- 'cadastrelaw13.SlabNil': WHATEVER THE INPUT: true; the input reads as it did. -/
def slabNilSpec : ChangeSpec := { name := "slabNil", fn := fun _ => fun
  | [d] => { results := [.lit (.bool true)], args := [d] }
  | _ => none }
def slabNilRow : OpenClaim := { program := "ytbofjdckmkifaaa", sum := "98fbf0aaa6a2ebf9780cc3917d6a14d21855ba5e311a31285f6f8768475faee2", func := "cadastre/cadastrelaw13.SlabNil", spec := "slabNil", unfollowed := true, recurses := true, apart := false }
def SlabNilSaid : Prop := slabNilRow.holds Try.pinned (OpenSpec.ofChange slabNilSpec)

/-- ITS FALSE NEIGHBOUR: 'it returns false'. Refute it at one input. -/
def slabNilWrong : ChangeSpec := { name := "slabNil", fn := fun _ => fun
  | [d] => { results := [.lit (.bool false)], args := [d] }
  | _ => none }
def SlabNilWrongFalsely : Prop := slabNilRow.holds Try.pinned (OpenSpec.ofChange slabNilWrong)

/-- 'cadastrelaw13.SlabBack': WHATEVER THE INPUT: true; the input reads as it did. -/
def slabBackSpec : ChangeSpec := { name := "slabBack", fn := fun _ => fun
  | [d] => { results := [.lit (.bool true)], args := [d] }
  | _ => none }
def slabBackRow : OpenClaim := { program := "ytbofjdckmkifaaa", sum := "98fbf0aaa6a2ebf9780cc3917d6a14d21855ba5e311a31285f6f8768475faee2", func := "cadastre/cadastrelaw13.SlabBack", spec := "slabBack", unfollowed := true, recurses := true, apart := false }
def SlabBackSaid : Prop := slabBackRow.holds Try.pinned (OpenSpec.ofChange slabBackSpec)

/-- ITS FALSE NEIGHBOUR: 'it returns false'. Refute it at one input. -/
def slabBackWrong : ChangeSpec := { name := "slabBack", fn := fun _ => fun
  | [d] => { results := [.lit (.bool false)], args := [d] }
  | _ => none }
def SlabBackWrongFalsely : Prop := slabBackRow.holds Try.pinned (OpenSpec.ofChange slabBackWrong)

/-- 'cadastrelaw13.SlabFilled': WHATEVER THE INPUT: true; the input reads as it did. -/
def slabFilledSpec : ChangeSpec := { name := "slabFilled", fn := fun _ => fun
  | [d1, d2, d3] => { results := [.lit (.bool true)], args := [d1, d2, d3] }
  | _ => none }
def slabFilledRow : OpenClaim := { program := "ytbofjdckmkifaaa", sum := "98fbf0aaa6a2ebf9780cc3917d6a14d21855ba5e311a31285f6f8768475faee2", func := "cadastre/cadastrelaw13.SlabFilled", spec := "slabFilled", unfollowed := true, recurses := true, apart := false }
def SlabFilledSaid : Prop := slabFilledRow.holds Try.pinned (OpenSpec.ofChange slabFilledSpec)

/-- ITS FALSE NEIGHBOUR: 'it returns false'. Refute it at one input. -/
def slabFilledWrong : ChangeSpec := { name := "slabFilled", fn := fun _ => fun
  | [d1, d2, d3] => { results := [.lit (.bool false)], args := [d1, d2, d3] }
  | _ => none }
def SlabFilledWrongFalsely : Prop := slabFilledRow.holds Try.pinned (OpenSpec.ofChange slabFilledWrong)

/-- 'cadastrelaw13.SlabPlaces': WHATEVER THE INPUT: true; the input reads as it did. -/
def slabPlacesSpec : ChangeSpec := { name := "slabPlaces", fn := fun _ => fun
  | [d1, d2] => { results := [.lit (.bool true)], args := [d1, d2] }
  | _ => none }
def slabPlacesRow : OpenClaim := { program := "ytbofjdckmkifaaa", sum := "98fbf0aaa6a2ebf9780cc3917d6a14d21855ba5e311a31285f6f8768475faee2", func := "cadastre/cadastrelaw13.SlabPlaces", spec := "slabPlaces", unfollowed := true, recurses := true, apart := false }
def SlabPlacesSaid : Prop := slabPlacesRow.holds Try.pinned (OpenSpec.ofChange slabPlacesSpec)

/-- ITS FALSE NEIGHBOUR: 'it returns false'. Refute it at one input. -/
def slabPlacesWrong : ChangeSpec := { name := "slabPlaces", fn := fun _ => fun
  | [d1, d2] => { results := [.lit (.bool false)], args := [d1, d2] }
  | _ => none }
def SlabPlacesWrongFalsely : Prop := slabPlacesRow.holds Try.pinned (OpenSpec.ofChange slabPlacesWrong)

/-- 'cadastrelaw14.RegionFinds': WHATEVER THE INPUT: true; the input reads as it did. -/
def regionFindsSpec : ChangeSpec := { name := "regionFinds", fn := fun _ => fun
  | [d1, d2, d3] => { results := [.lit (.bool true)], args := [d1, d2, d3] }
  | _ => none }
def regionFindsRow : OpenClaim := { program := "ytbofjdckmkifaaa", sum := "98fbf0aaa6a2ebf9780cc3917d6a14d21855ba5e311a31285f6f8768475faee2", func := "cadastre/cadastrelaw14.RegionFinds", spec := "regionFinds", unfollowed := true, recurses := true, apart := false }
def RegionFindsSaid : Prop := regionFindsRow.holds Try.pinned (OpenSpec.ofChange regionFindsSpec)

/-- ITS FALSE NEIGHBOUR: 'it returns false'. Refute it at one input. -/
def regionFindsWrong : ChangeSpec := { name := "regionFinds", fn := fun _ => fun
  | [d1, d2, d3] => { results := [.lit (.bool false)], args := [d1, d2, d3] }
  | _ => none }
def RegionFindsWrongFalsely : Prop := regionFindsRow.holds Try.pinned (OpenSpec.ofChange regionFindsWrong)

/-- 'cadastrelaw14.RegionJoins': WHATEVER THE INPUT: true; the input reads as it did. -/
def regionJoinsSpec : ChangeSpec := { name := "regionJoins", fn := fun _ => fun
  | [d1, d2] => { results := [.lit (.bool true)], args := [d1, d2] }
  | _ => none }
def regionJoinsRow : OpenClaim := { program := "ytbofjdckmkifaaa", sum := "98fbf0aaa6a2ebf9780cc3917d6a14d21855ba5e311a31285f6f8768475faee2", func := "cadastre/cadastrelaw14.RegionJoins", spec := "regionJoins", unfollowed := true, recurses := true, apart := false }
def RegionJoinsSaid : Prop := regionJoinsRow.holds Try.pinned (OpenSpec.ofChange regionJoinsSpec)

/-- ITS FALSE NEIGHBOUR: 'it returns false'. Refute it at one input. -/
def regionJoinsWrong : ChangeSpec := { name := "regionJoins", fn := fun _ => fun
  | [d1, d2] => { results := [.lit (.bool false)], args := [d1, d2] }
  | _ => none }
def RegionJoinsWrongFalsely : Prop := regionJoinsRow.holds Try.pinned (OpenSpec.ofChange regionJoinsWrong)

/-- 'cadastrelaw14.RegionBack': WHATEVER THE INPUT: true; the input reads as it did. -/
def regionBackSpec : ChangeSpec := { name := "regionBack", fn := fun _ => fun
  | [d1, d2] => { results := [.lit (.bool true)], args := [d1, d2] }
  | _ => none }
def regionBackRow : OpenClaim := { program := "ytbofjdckmkifaaa", sum := "98fbf0aaa6a2ebf9780cc3917d6a14d21855ba5e311a31285f6f8768475faee2", func := "cadastre/cadastrelaw14.RegionBack", spec := "regionBack", unfollowed := true, recurses := true, apart := false }
def RegionBackSaid : Prop := regionBackRow.holds Try.pinned (OpenSpec.ofChange regionBackSpec)

/-- ITS FALSE NEIGHBOUR: 'it returns false'. Refute it at one input. -/
def regionBackWrong : ChangeSpec := { name := "regionBack", fn := fun _ => fun
  | [d1, d2] => { results := [.lit (.bool false)], args := [d1, d2] }
  | _ => none }
def RegionBackWrongFalsely : Prop := regionBackRow.holds Try.pinned (OpenSpec.ofChange regionBackWrong)

/-- 'cadastrelaw14.RegionFours': WHATEVER THE INPUT: true; the input reads as it did. -/
def regionFoursSpec : ChangeSpec := { name := "regionFours", fn := fun _ => fun
  | [d1, d2, d3] => { results := [.lit (.bool true)], args := [d1, d2, d3] }
  | _ => none }
def regionFoursRow : OpenClaim := { program := "ytbofjdckmkifaaa", sum := "98fbf0aaa6a2ebf9780cc3917d6a14d21855ba5e311a31285f6f8768475faee2", func := "cadastre/cadastrelaw14.RegionFours", spec := "regionFours", unfollowed := true, recurses := true, apart := false }
def RegionFoursSaid : Prop := regionFoursRow.holds Try.pinned (OpenSpec.ofChange regionFoursSpec)

/-- ITS FALSE NEIGHBOUR: 'it returns false'. Refute it at one input. -/
def regionFoursWrong : ChangeSpec := { name := "regionFours", fn := fun _ => fun
  | [d1, d2, d3] => { results := [.lit (.bool false)], args := [d1, d2, d3] }
  | _ => none }
def RegionFoursWrongFalsely : Prop := regionFoursRow.holds Try.pinned (OpenSpec.ofChange regionFoursWrong)

/-- 'cadastrelaw14.RegionFilled': WHATEVER THE INPUT: true; the input reads as it did. -/
def regionFilledSpec : ChangeSpec := { name := "regionFilled", fn := fun _ => fun
  | [d] => { results := [.lit (.bool true)], args := [d] }
  | _ => none }
def regionFilledRow : OpenClaim := { program := "ytbofjdckmkifaaa", sum := "98fbf0aaa6a2ebf9780cc3917d6a14d21855ba5e311a31285f6f8768475faee2", func := "cadastre/cadastrelaw14.RegionFilled", spec := "regionFilled", unfollowed := true, recurses := true, apart := false }
def RegionFilledSaid : Prop := regionFilledRow.holds Try.pinned (OpenSpec.ofChange regionFilledSpec)

/-- ITS FALSE NEIGHBOUR: 'it returns false'. Refute it at one input. -/
def regionFilledWrong : ChangeSpec := { name := "regionFilled", fn := fun _ => fun
  | [d] => { results := [.lit (.bool false)], args := [d] }
  | _ => none }
def RegionFilledWrongFalsely : Prop := regionFilledRow.holds Try.pinned (OpenSpec.ofChange regionFilledWrong)

/- THE SECOND FORM. 'bulk': how many values and letters a reading holds, each counted each time it is reached (what is shared counts as often as it is met; a slice's spare places count too). A statement '..UptoSaid' is the law's where the arguments, and the package variables that the reading takes, are together of bulk at most 1048576: NARROWER than '..Said'. Prove '..Said' where nothing that the law and all that it calls make is longer than what came in: it says more and counts as full. Else prove '..UptoSaid'. A law counts once. -/
mutual
def uptoBulk {H : Type} : DataW H → Nat
  | .lit (.string bytes) => bytes.length + 1
  | .lit _ => 1
  | .nil => 1
  | .ptr d => uptoBulk d + 1
  | .slice elems spare => uptoBulkAll elems + uptoBulkAll spare + 1
  | .agg parts => uptoBulkAll parts + 1
  | .iface _ d => uptoBulk d + 1
  | .map entries => uptoBulkEntries entries + 1
  | .held _ => 1
def uptoBulkAll {H : Type} : List (DataW H) → Nat
  | [] => 0
  | d :: r => uptoBulk d + uptoBulkAll r
def uptoBulkEntries {H : Type} : List (Lit × DataW H) → Nat
  | [] => 0
  | x :: r => uptoBulkEntry x + uptoBulkEntries r
def uptoBulkEntry {H : Type} : Lit × DataW H → Nat
  | (.string bytes, d) => bytes.length + uptoBulk d + 1
  | (_, d) => uptoBulk d + 1
 end
def uptoSmall : (H : Type) → List (DataW H) → Bool := fun _ ds => decide (uptoBulkAll ds ≤ 1048576)
def OpenSpec.upto (s : _root_.Go.ChangeSpec) : _root_.Go.OpenSpec := { _root_.Go.OpenSpec.ofChange s with cond := some uptoSmall }

/-- 'cadastrelaw13.SlabScripts', WHERE WHAT IT READS IS OF BULK AT MOST 1048576: true; the input reads as it did. -/
def slabScriptsUptoRow : OpenClaim := { program := "ytbofjdckmkifaaa", sum := "98fbf0aaa6a2ebf9780cc3917d6a14d21855ba5e311a31285f6f8768475faee2", func := "cadastre/cadastrelaw13.SlabScripts", spec := "slabScripts", unfollowed := true, recurses := true, apart := false, narrowed := true }
def SlabScriptsUptoSaid : Prop := slabScriptsUptoRow.holds Try.pinned (OpenSpec.upto slabScriptsSpec)

/-- 'cadastrelaw13.SlabMakes', WHERE WHAT IT READS IS OF BULK AT MOST 1048576: true; the input reads as it did. -/
def slabMakesUptoRow : OpenClaim := { program := "ytbofjdckmkifaaa", sum := "98fbf0aaa6a2ebf9780cc3917d6a14d21855ba5e311a31285f6f8768475faee2", func := "cadastre/cadastrelaw13.SlabMakes", spec := "slabMakes", unfollowed := true, recurses := true, apart := false, narrowed := true }
def SlabMakesUptoSaid : Prop := slabMakesUptoRow.holds Try.pinned (OpenSpec.upto slabMakesSpec)

/-- 'cadastrelaw13.SlabNil', WHERE WHAT IT READS IS OF BULK AT MOST 1048576: true; the input reads as it did. -/
def slabNilUptoRow : OpenClaim := { program := "ytbofjdckmkifaaa", sum := "98fbf0aaa6a2ebf9780cc3917d6a14d21855ba5e311a31285f6f8768475faee2", func := "cadastre/cadastrelaw13.SlabNil", spec := "slabNil", unfollowed := true, recurses := true, apart := false, narrowed := true }
def SlabNilUptoSaid : Prop := slabNilUptoRow.holds Try.pinned (OpenSpec.upto slabNilSpec)

/-- 'cadastrelaw13.SlabBack', WHERE WHAT IT READS IS OF BULK AT MOST 1048576: true; the input reads as it did. -/
def slabBackUptoRow : OpenClaim := { program := "ytbofjdckmkifaaa", sum := "98fbf0aaa6a2ebf9780cc3917d6a14d21855ba5e311a31285f6f8768475faee2", func := "cadastre/cadastrelaw13.SlabBack", spec := "slabBack", unfollowed := true, recurses := true, apart := false, narrowed := true }
def SlabBackUptoSaid : Prop := slabBackUptoRow.holds Try.pinned (OpenSpec.upto slabBackSpec)

/-- 'cadastrelaw13.SlabFilled', WHERE WHAT IT READS IS OF BULK AT MOST 1048576: true; the input reads as it did. -/
def slabFilledUptoRow : OpenClaim := { program := "ytbofjdckmkifaaa", sum := "98fbf0aaa6a2ebf9780cc3917d6a14d21855ba5e311a31285f6f8768475faee2", func := "cadastre/cadastrelaw13.SlabFilled", spec := "slabFilled", unfollowed := true, recurses := true, apart := false, narrowed := true }
def SlabFilledUptoSaid : Prop := slabFilledUptoRow.holds Try.pinned (OpenSpec.upto slabFilledSpec)

/-- 'cadastrelaw13.SlabPlaces', WHERE WHAT IT READS IS OF BULK AT MOST 1048576: true; the input reads as it did. -/
def slabPlacesUptoRow : OpenClaim := { program := "ytbofjdckmkifaaa", sum := "98fbf0aaa6a2ebf9780cc3917d6a14d21855ba5e311a31285f6f8768475faee2", func := "cadastre/cadastrelaw13.SlabPlaces", spec := "slabPlaces", unfollowed := true, recurses := true, apart := false, narrowed := true }
def SlabPlacesUptoSaid : Prop := slabPlacesUptoRow.holds Try.pinned (OpenSpec.upto slabPlacesSpec)

/-- 'cadastrelaw14.RegionFinds', WHERE WHAT IT READS IS OF BULK AT MOST 1048576: true; the input reads as it did. -/
def regionFindsUptoRow : OpenClaim := { program := "ytbofjdckmkifaaa", sum := "98fbf0aaa6a2ebf9780cc3917d6a14d21855ba5e311a31285f6f8768475faee2", func := "cadastre/cadastrelaw14.RegionFinds", spec := "regionFinds", unfollowed := true, recurses := true, apart := false, narrowed := true }
def RegionFindsUptoSaid : Prop := regionFindsUptoRow.holds Try.pinned (OpenSpec.upto regionFindsSpec)

/-- 'cadastrelaw14.RegionJoins', WHERE WHAT IT READS IS OF BULK AT MOST 1048576: true; the input reads as it did. -/
def regionJoinsUptoRow : OpenClaim := { program := "ytbofjdckmkifaaa", sum := "98fbf0aaa6a2ebf9780cc3917d6a14d21855ba5e311a31285f6f8768475faee2", func := "cadastre/cadastrelaw14.RegionJoins", spec := "regionJoins", unfollowed := true, recurses := true, apart := false, narrowed := true }
def RegionJoinsUptoSaid : Prop := regionJoinsUptoRow.holds Try.pinned (OpenSpec.upto regionJoinsSpec)

/-- 'cadastrelaw14.RegionBack', WHERE WHAT IT READS IS OF BULK AT MOST 1048576: true; the input reads as it did. -/
def regionBackUptoRow : OpenClaim := { program := "ytbofjdckmkifaaa", sum := "98fbf0aaa6a2ebf9780cc3917d6a14d21855ba5e311a31285f6f8768475faee2", func := "cadastre/cadastrelaw14.RegionBack", spec := "regionBack", unfollowed := true, recurses := true, apart := false, narrowed := true }
def RegionBackUptoSaid : Prop := regionBackUptoRow.holds Try.pinned (OpenSpec.upto regionBackSpec)

/-- 'cadastrelaw14.RegionFours', WHERE WHAT IT READS IS OF BULK AT MOST 1048576: true; the input reads as it did. -/
def regionFoursUptoRow : OpenClaim := { program := "ytbofjdckmkifaaa", sum := "98fbf0aaa6a2ebf9780cc3917d6a14d21855ba5e311a31285f6f8768475faee2", func := "cadastre/cadastrelaw14.RegionFours", spec := "regionFours", unfollowed := true, recurses := true, apart := false, narrowed := true }
def RegionFoursUptoSaid : Prop := regionFoursUptoRow.holds Try.pinned (OpenSpec.upto regionFoursSpec)

/-- 'cadastrelaw14.RegionFilled', WHERE WHAT IT READS IS OF BULK AT MOST 1048576: true; the input reads as it did. -/
def regionFilledUptoRow : OpenClaim := { program := "ytbofjdckmkifaaa", sum := "98fbf0aaa6a2ebf9780cc3917d6a14d21855ba5e311a31285f6f8768475faee2", func := "cadastre/cadastrelaw14.RegionFilled", spec := "regionFilled", unfollowed := true, recurses := true, apart := false, narrowed := true }
def RegionFilledUptoSaid : Prop := regionFilledUptoRow.holds Try.pinned (OpenSpec.upto regionFilledSpec)

end Rows
end Go.Proofs.Ytbofjdckmkifaaa
