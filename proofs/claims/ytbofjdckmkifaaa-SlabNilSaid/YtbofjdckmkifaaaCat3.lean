/-
  The walk of slices.Concat of three slices of numbers. No other condition than their sum's.
-/
import Derived.Test.YtbofjdckmkifaaaCat2
namespace Go.Proofs.Ytbofjdckmkifaaa
open Go.RowKit

def three {α : Type} (x y z : α) : Nat → α
  | 0 => x
  | 1 => y
  | _ => z
theorem concat3 (w : World) (gb : Nat) (t : TypeId) (a0 a1 a2 : Option Addr) (c0 c1 c2 n0 n1 n2 : Nat) (X Y Z V : List Int) (hV : V = X ++ Y ++ Z) (h0 : X.length = n0) (h1 : Y.length = n1) (h2 : Z.length = n2)
    (hb : w.heap[gb]? = some (.cells #[.slice a0 n0 c0, .slice a1 n1 c1, .slice a2 n2 c2] t (0, 0))) (i0 : IR .i64 w a0 X) (i1 : IR .i64 w a1 Y) (i2 : IR .i64 w a2 Z)
    (z0 : a0 = none → c0 = 0) (z1 : a1 = none → c1 = 0) (z2 : a2 = none → c2 = 0) (hl : V.length ≤ 1000000000) :
    Calls Try.prog 48 #[.slice (some ⟨gb, 0, none⟩) 3 3] w fun e w' => ∃ a c', e = .returned (.slice a V.length c') ∧ w'.ownsRow 0 3 1 (.slice a V.length c') V.length (iv .i64 V) ∧
      (∀ d, a = some d → w.heap.size ≤ d.block) ∧ Nw w w' := by
  subst hV
  subst h0; subst h1; subst h2
  have e : catF (three (a0, c0, X) (a1, c1, Y) (a2, c2, Z)) 3 = X ++ Y ++ Z := by simp [catF, three]
  have h := concatI w gb 0 3 3 (three (a0, c0, X) (a1, c1, Y) (a2, c2, Z)) (by omega) (by omega) (by omega) ?_ ?_ (by rw [e]; exact hl)
  · rw [e] at h; exact h
  · intro j hj
    rw [Nat.zero_add]
    match j, hj with
    | 0, _ => exact blk_cell hb 0
    | 1, _ => exact blk_cell hb 1
    | 2, _ => exact blk_cell hb 2
  · intro j hj
    match j, hj with
    | 0, _ => exact ⟨i0, z0⟩
    | 1, _ => exact ⟨i1, z1⟩
    | 2, _ => exact ⟨i2, z2⟩
end Go.Proofs.Ytbofjdckmkifaaa
