/-
  A slab's contents stay numbers of 64 bits, whatever is grown, shrunk and filled. No program in sight. No condition.
-/
import Derived.Test.YtbofjdckmkifaaaN13
namespace Go.Proofs.Ytbofjdckmkifaaa

def Vok (cs : List Int) : Prop := ∀ k, (Lit.int .i64 (rd cs k)).wf = true
theorem wf0 : (Lit.int .i64 0).wf = true := by decide
theorem vok_range {f : Nat → Int} {n : Nat} (h : ∀ k, k < n → (Lit.int .i64 (f k)).wf = true) : Vok ((List.range n).map f) := by
  intro k
  by_cases hk : k < n
  · rw [rd_map_range _ _ _ hk]; exact h k hk
  · rw [rd_nil _ _ (by simp; omega)]; exact wf0
theorem vok_append {xs ys : List Int} (h1 : Vok xs) (h2 : Vok ys) : Vok (xs ++ ys) := by
  intro k; rw [rd_append]; split
  · exact h1 k
  · exact h2 _
theorem vok_nil : Vok [] := fun k => by rw [rd_nil _ _ (by simp)]; exact wf0
theorem vok_one {x : Int} (h : (Lit.int .i64 x).wf = true) : Vok [x] := by
  intro k
  by_cases hk : k = 0
  · subst hk; exact h
  · rw [rd_nil _ _ (by simp; omega)]; exact wf0
theorem vok_getV {sz cs c : List Int} (h : Vok cs) : (Lit.int .i64 (getV sz cs c)).wf = true := by
  unfold getV; split
  · exact h _
  · exact wf0
theorem vok_grow {sz cs : List Int} {a : Nat} {i : Int} (h : Vok cs) : Vok (growC sz cs a i) := vok_range fun _ _ => vok_getV h
theorem vok_shr {sz cs : List Int} {a : Nat} {i : Int} (h : Vok cs) : ∀ k, Vok (shrT sz cs a i k)
  | 0 => vok_nil
  | k + 1 => by
    rw [shrT]; split
    · exact vok_append (vok_shr h k) (vok_one (h k))
    · exact vok_shr h k
theorem vok_fill {sz cs low high : List Int} {n : Int} (h : Vok cs) (hn : (Lit.int .i64 n).wf = true) : Vok (fillL sz cs low high n) :=
  vok_range fun k _ => by split; exact hn; exact h k
end Go.Proofs.Ytbofjdckmkifaaa
