/-
  The law SlabNil. Condition: its argument reads as a call.
-/
import Derived.Test.YtbofjdckmkifaaaL5
import Derived.Test.YtbofjdckmkifaaaReadOp
namespace Go.Proofs.Ytbofjdckmkifaaa
open Go.RowKit
theorem slabNil_all (w : World) (x : OpV) (o : OpIs w x) : Calls Try.prog 5 #[opVal x] w fun e w' => e = .returned (.bool true) ∧ Nw w w' :=
  nil_go w x.kind x.at_ x.i x.n x.al x.ah x.low.length x.high.length x.cl x.ch o.l1 o.l2
end Go.Proofs.Ytbofjdckmkifaaa
