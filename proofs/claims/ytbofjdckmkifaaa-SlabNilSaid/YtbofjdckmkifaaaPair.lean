/-
  Two slabs that lie apart in memory that is new. No condition.
-/
import Derived.Test.YtbofjdckmkifaaaR13b
namespace Go.Proofs.Ytbofjdckmkifaaa
open Go.RowKit

/-- behind w0: the slab at b1 and the slab at b2 lie apart, in blocks that w0 had not -/
structure Pair (T1 T2 : TypeId) (w0 W : World) (b1 b2 : Nat) (sz cs sz2 cs2 : List Int) (F1 F2 : Nat → Prop) : Prop where
  one : Two T1 F1 W b1 sz cs
  two : Two T2 F2 W b2 sz2 cs2
  new1 : ∀ k, F1 k → w0.heap.size ≤ k ∧ k < W.heap.size
  new2 : ∀ k, F2 k → w0.heap.size ≤ k ∧ k < W.heap.size
  apart : ∀ k, F1 k → ¬ F2 k
  nw : Nw w0 W
section
variable {T1 T2 : TypeId} {w0 W W' : World} {b1 b2 : Nat} {sz cs sz2 cs2 sz' cs' : List Int} {F1 F2 : Nat → Prop}
theorem kp_nw {F : Nat → Prop} (h0 : Nw w0 W) (hk : Kp F W W') (hF : ∀ k, F k → w0.heap.size ≤ k) : Nw w0 W' :=
  Below.trans h0 (hk.below hF h0.size)
theorem Pair.left (h : Pair T1 T2 w0 W b1 b2 sz cs sz2 cs2 F1 F2) (ht : Two T1 (fun k => F1 k ∨ W.heap.size ≤ k) W' b1 sz' cs') (hk : Kp F1 W W') :
    Pair T1 T2 w0 W' b1 b2 sz' cs' sz2 cs2 (fun k => (F1 k ∨ W.heap.size ≤ k) ∧ k < W'.heap.size) F2 := by
  have h0 := h.nw.size
  refine ⟨ht.mono (fun k hk hlt => ⟨hk, hlt⟩), h.two.kp hk (fun k h2 _ h1 => h.apart k h1 h2), ?_, ?_, ?_, kp_nw h.nw hk (fun k hk => (h.new1 k hk).1)⟩
  · rintro k ⟨h1 | h1, h2⟩
    · exact ⟨(h.new1 k h1).1, h2⟩
    · exact ⟨by omega, h2⟩
  · intro k h2; have h5 := h.new2 k h2; have h6 := hk.size; exact ⟨h5.1, by omega⟩
  · rintro k ⟨h1 | h1, _⟩ h2
    · exact h.apart k h1 h2
    · have := (h.new2 k h2).2; omega
theorem Pair.swap (h : Pair T1 T2 w0 W b1 b2 sz cs sz2 cs2 F1 F2) : Pair T2 T1 w0 W b2 b1 sz2 cs2 sz cs F2 F1 :=
  ⟨h.two, h.one, h.new2, h.new1, fun k h2 h1 => h.apart k h1 h2, h.nw⟩
theorem Pair.right (h : Pair T1 T2 w0 W b1 b2 sz cs sz2 cs2 F1 F2) (ht : Two T2 (fun k => F2 k ∨ W.heap.size ≤ k) W' b2 sz' cs') (hk : Kp F2 W W') :
    Pair T1 T2 w0 W' b1 b2 sz cs sz' cs' F1 (fun k => (F2 k ∨ W.heap.size ≤ k) ∧ k < W'.heap.size) := (h.swap.left ht hk).swap
theorem Pair.kept (h : Pair T1 T2 w0 W b1 b2 sz cs sz2 cs2 F1 F2) (hk : Nw W W') : Pair T1 T2 w0 W' b1 b2 sz cs sz2 cs2 F1 F2 :=
  ⟨h.one.nw hk, h.two.nw hk, fun k h1 => ⟨(h.new1 k h1).1, by have := (h.new1 k h1).2; have := hk.size; omega⟩, fun k h1 => ⟨(h.new2 k h1).1, by have := (h.new2 k h1).2; have := hk.size; omega⟩, h.apart, nw_trans h.nw hk⟩
/-- the first slab is made in W1, the second behind it -/
theorem Pair.mk2 {W1 : World} (h1 : Two T1 (fun k => w0.heap.size ≤ k) W1 b1 sz cs) (hn : Nw w0 W1) (h2 : Two T2 (fun k => W1.heap.size ≤ k) W b2 sz2 cs2) (hn2 : Nw W1 W) :
    Pair T1 T2 w0 W b1 b2 sz cs sz2 cs2 (fun k => w0.heap.size ≤ k ∧ k < W1.heap.size) (fun k => W1.heap.size ≤ k ∧ k < W.heap.size) :=
  ⟨(h1.mono (fun k hk hlt => ⟨hk, hlt⟩)).nw hn2, h2.mono (fun k hk hlt => ⟨hk, hlt⟩), fun k hk => ⟨hk.1, by have := hn2.size; omega⟩, fun k hk => ⟨by have := hn.size; omega, hk.2⟩, fun k hk hk2 => by omega, nw_trans hn hn2⟩
end
end Go.Proofs.Ytbofjdckmkifaaa
