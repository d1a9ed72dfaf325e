/-
  What has been seen among some cells, as plain lists. No condition.
-/
import Derived.Test.YtbofjdckmkifaaaO13
namespace Go.Proofs.Ytbofjdckmkifaaa
def seenBy (cs : List Int) (pre : List Nat) : List Int := pre.foldl (fun X p => if rd cs p ∈ X then X else X ++ [rd cs p]) []
theorem seenBy_old {cs : List Int} {pre : List Nat} {p : Nat} (h : rd cs p ∈ seenBy cs pre) : seenBy cs (pre ++ [p]) = seenBy cs pre := by
  unfold seenBy at *; rw [List.foldl_append]; simp only [List.foldl_cons, List.foldl_nil]; rw [if_pos h]
theorem seenBy_new {cs : List Int} {pre : List Nat} {p : Nat} (h : rd cs p ∉ seenBy cs pre) : seenBy cs (pre ++ [p]) = seenBy cs pre ++ [rd cs p] := by
  unfold seenBy at *; rw [List.foldl_append]; simp only [List.foldl_cons, List.foldl_nil]; rw [if_neg h]
theorem seenBy_hits (sz cs low high : List Int) : ∀ k, seenBy cs (hits sz low high k) = seenT sz cs low high k
  | 0 => by simp [hits, seenBy, seenT]
  | k + 1 => by
    have ih := seenBy_hits sz cs low high k
    cases hh : hitB sz low high k with
    | false =>
      rw [seenT_miss hh, ← ih, hits_skip (Nat.le_succ k) (fun r h1 h2 => by have : r = k := by omega
                                                                            subst this; exact hh)]
    | true =>
      rw [hits_hit hh]
      by_cases hm : rd cs k ∈ seenT sz cs low high k
      · rw [seenT_old hm, seenBy_old (by rw [ih]; exact hm), ih]
      · rw [seenT_new hh hm, seenBy_new (by rw [ih]; exact hm), ih]
theorem seenBy_len (sz cs low high : List Int) (k : Nat) : (seenBy cs (hits sz low high k)).length ≤ k := by
  rw [seenBy_hits]; exact seenT_len _ _ _ _ _
end Go.Proofs.Ytbofjdckmkifaaa
