/-
  What the law's argument, a script of calls, reads as. No condition.
-/
import Derived.Test.YtbofjdckmkifaaaMem2
namespace Go.Proofs.Ytbofjdckmkifaaa
open Go.RowKit

/-- a call of a script, as its cells hold it -/
structure OpV where
  kind : Int
  at_ : Int
  i : Int
  n : Int
  low : List Int
  high : List Int
  al : Option Addr
  cl : Nat
  ah : Option Addr
  ch : Nat
/-- the call at o of block b -/
structure OpAt (w : World) (b o : Nat) (v : OpV) : Prop where
  c0 : w.cell? ⟨b, o, none⟩ = some (.int .i64 v.kind)
  c1 : w.cell? ⟨b, o + 1, none⟩ = some (.int .i64 v.at_)
  c2 : w.cell? ⟨b, o + 2, none⟩ = some (.int .i64 v.i)
  c3 : w.cell? ⟨b, o + 3, none⟩ = some (.int .i64 v.n)
  c4 : w.cell? ⟨b, o + 4, none⟩ = some (.slice v.al v.low.length v.cl)
  c5 : w.cell? ⟨b, o + 5, none⟩ = some (.slice v.ah v.high.length v.ch)
  rl : IR .i64 w v.al v.low
  rh : IR .i64 w v.ah v.high
  n_ : (Lit.int .i64 v.n).wf = true
  l1 : v.low.length ≤ 9223372036854775807
  l2 : v.high.length ≤ 9223372036854775807
/-- a script at a of len calls -/
def Script (w : World) (a : Option Addr) (len : Nat) : Prop := ∀ j, j < len → ∃ b o v, a = some ⟨b, o, none⟩ ∧ OpAt w b (o + j * 6) v
theorem OpAt.nw {w w' : World} {b o : Nat} {v : OpV} (h : OpAt w b o v) (hn : Nw w w') : OpAt w' b o v :=
  ⟨nw_cell hn h.c0, nw_cell hn h.c1, nw_cell hn h.c2, nw_cell hn h.c3, nw_cell hn h.c4, nw_cell hn h.c5, h.rl.nw hn, h.rh.nw hn, h.n_, h.l1, h.l2⟩
theorem Script.nw {w w' : World} {a : Option Addr} {len : Nat} (h : Script w a len) (hn : Nw w w') : Script w' a len := fun j hj => by
  obtain ⟨b, o, v, e, h⟩ := h j hj
  exact ⟨b, o, v, e, h.nw hn⟩
end Go.Proofs.Ytbofjdckmkifaaa
