/-
  What memory keeps: plain lemmas on worlds, for this seat's walks and what follows it. No condition beside those that each theorem states.
-/
import Derived.Test.YtbofjdckmkifaaaProg
import Derived.WalkKit
import Derived.WalkSpells
import Derived.WalkLawsBesides
import Derived.Deep.QuietTactic
import Derived.Deep.Draws
import Derived.BigQuiet
import Derived.Lib.Hide
import Derived.Maps.AppendAt
import Derived.Deep.OwnRows
import Derived.Maps.OwnIn
import Derived.OwnWalkIn
import Derived.RangeFuncFrom
import Derived.RangeFuncLeaves
import Derived.RangeFuncCalls
import Derived.RangeFuncBox
import Derived.Shelf.Abstract
import Derived.Shelf.RegionOpen
import Derived.TacticsInMore
import Derived.LoopNIn
import Derived.LoopIn
import Derived.StillTailTactics
import Derived.OrdersIn

/-! ## What memory keeps: plain lemmas on worlds, for this seat's walks. No condition. -/
namespace Go.Proofs.Ytbofjdckmkifaaa
open Go.RowKit

/-- every block outside S lies as it lay -/
structure Kp (S : Nat → Prop) (w w' : World) : Prop where
  os : w'.os = w.os
  tape : w'.tape = w.tape
  output : w'.output = w.output
  size : w.heap.size ≤ w'.heap.size
  block : ∀ k, k < w.heap.size → ¬ S k → w'.heap[k]? = w.heap[k]?

/-- nothing that lay has turned -/
abbrev Nw (w w' : World) : Prop := Below w.heap.size w w'

theorem Kp.refl (S : Nat → Prop) (w : World) : Kp S w w := ⟨rfl, rfl, rfl, Nat.le_refl _, fun _ _ _ => rfl⟩
theorem Kp.trans {S T : Nat → Prop} {w w1 w2 : World} (h : Kp S w w1) (k : Kp T w1 w2) (hT : ∀ b, T b → b < w.heap.size → S b) : Kp S w w2 :=
  ⟨k.os.trans h.os, k.tape.trans h.tape, k.output.trans h.output, Nat.le_trans h.size k.size,
    fun i hi hs => (k.block i (Nat.lt_of_lt_of_le hi h.size) (fun ht => hs (hT i ht hi))).trans (h.block i hi hs)⟩
theorem Kp.mono {S T : Nat → Prop} {w w' : World} (h : Kp S w w') (hT : ∀ b, S b → b < w.heap.size → T b) : Kp T w w' :=
  ⟨h.os, h.tape, h.output, h.size, fun i hi ht => h.block i hi (fun hs => ht (hT i hs hi))⟩
theorem Kp.below {S : Nat → Prop} {B : Nat} {w w' : World} (h : Kp S w w') (hS : ∀ b, S b → B ≤ b) (hB : B ≤ w.heap.size) : Below B w w' :=
  ⟨h.os, h.tape, h.output, h.size, fun i hi => h.block i (by omega) (fun hs => by have := hS i hs; omega)⟩
theorem Kp.nw {w w' : World} (h : Kp (fun _ => False) w w') : Nw w w' := h.below (fun _ h => h.elim) (Nat.le_refl _)
theorem kp_of_nw {w w' : World} (h : Nw w w') (S : Nat → Prop) : Kp S w w' := ⟨h.os, h.tape, h.output, h.size, fun i hi _ => h.block i hi⟩
theorem kp_of_below {B : Nat} {w w' : World} (h : Below B w w') : Kp (fun k => B ≤ k) w w' := ⟨h.os, h.tape, h.output, h.size, fun i _ hn => h.block i (by omega)⟩
theorem kp_of_grown {w w' : World} {row : Option Nat} (h : w.grownBy w' row) : Kp (fun k => row = some k) w w' := ⟨h.os, h.tape, h.output, h.size, fun i hi hn => h.block i hi (fun e => hn e.symm)⟩
theorem Kp.alloc {S : Nat → Prop} {w w1 : World} (h : Kp S w w1) (o : Obj) : Kp S w (w1.alloc o) :=
  ⟨h.os, h.tape, h.output, Nat.le_trans h.size (by simp), fun i hi hs => (Below.heap_alloc _ _ _ (Nat.lt_of_lt_of_le hi h.size)).trans (h.block i hi hs)⟩
theorem Kp.drew {S : Nat → Prop} {w w1 : World} (h : Kp S w w1) : Kp S w w1.drew := ⟨h.os, h.tape, h.output, h.size, h.block⟩
theorem Kp.drewN {S : Nat → Prop} {w w1 : World} (h : Kp S w w1) (n : Nat) : Kp S w (w1.drewN n) := ⟨h.os, h.tape, h.output, h.size, h.block⟩
theorem Kp.setCell {S : Nat → Prop} {w w1 : World} (h : Kp S w w1) {p : Addr} (hp : p.block < w.heap.size → S p.block) (u : Value) : Kp S w (w1.setCell p u) :=
  ⟨h.os, h.tape, h.output, by simpa [World.setCell] using h.size, fun i hi hs => (Below.heap_setCell _ _ _ _ (fun e => by subst e; exact hs (hp hi))).trans (h.block i hi hs)⟩
theorem Kp.grown {S : Nat → Prop} {w w1 w2 : World} (h : Kp S w w1) {row : Option Nat} (hg : w1.grownBy w2 row) (hr : ∀ k, row = some k → k < w.heap.size → S k) : Kp S w w2 :=
  h.trans (kp_of_grown hg) hr
theorem Kp.nwd {S : Nat → Prop} {w w1 w2 : World} (h : Kp S w w1) (k : Nw w1 w2) : Kp S w w2 := h.trans (kp_of_nw k (fun _ => False)) (fun _ h => h.elim)
theorem Kp.blk {S : Nat → Prop} {w w' : World} (h : Kp S w w') {b : Nat} {o : Obj} (hb : w.heap[b]? = some o) (hs : ¬ S b) : w'.heap[b]? = some o :=
  (h.block b (Array.getElem?_eq_some_iff.1 hb).1 hs).trans hb
theorem Kp.cell {S : Nat → Prop} {w w' : World} (h : Kp S w w') {a : Addr} {v : Value} (hc : w.cell? a = some v) (hs : ¬ S a.block) : w'.cell? a = some v :=
  (World.cell?_of_block (h.block a.block (World.block_lt_of_cell? w a hc) hs)).trans hc
theorem Kp.own {S : Nat → Prop} {w w' : World} (h : Kp S w w') {base : Nat} {e : TypeId} {size n : Nat} {v : Value} {xs : List Value} (ho : w.ownsRow base e size v n xs) (hs : ∀ b, v.ownBlock = some b → ¬ S b) : w'.ownsRow base e size v n xs := by
  refine ⟨ho.1, ?_⟩
  rcases ho.2 with hn | ⟨g, cap, cur, rfl, hb, hgg, rest⟩
  · exact .inl hn
  · exact .inr ⟨g, cap, cur, rfl, hb, h.blk hgg (hs g rfl), rest⟩
theorem nw_own {w w' : World} (h : Nw w w') {base : Nat} {e : TypeId} {size n : Nat} {v : Value} {xs : List Value} (ho : w.ownsRow base e size v n xs) : w'.ownsRow base e size v n xs :=
  (kp_of_nw h (fun _ => False)).own ho (fun _ _ h => h)
theorem nw_blk {w w' : World} (h : Nw w w') {b : Nat} {o : Obj} (hb : w.heap[b]? = some o) : w'.heap[b]? = some o := (kp_of_nw h (fun _ => False)).blk hb (fun h => h)
theorem nw_cell {w w' : World} (h : Nw w w') {a : Addr} {v : Value} (hc : w.cell? a = some v) : w'.cell? a = some v := (kp_of_nw h (fun _ => False)).cell hc (fun h => h)
theorem nw_trans {a b c : World} (h : Nw a b) (k : Nw b c) : Nw a c := Below.trans h (k.mono h.size)
theorem nw_drewN (w : World) (n : Nat) : Nw w (w.drewN n) := ⟨rfl, rfl, rfl, Nat.le_refl _, fun _ _ => rfl⟩
theorem nw_alloc (w : World) (o : Obj) : Nw w (w.alloc o) := (Below.refl _ w).alloc (Nat.le_refl _) o
theorem own_lt {w : World} {base : Nat} {e : TypeId} {size n : Nat} {v : Value} {xs : List Value} (ho : w.ownsRow base e size v n xs) {b : Nat} (hb : v.ownBlock = some b) : b < w.heap.size := (ho.lt b hb).2
theorem own_ge {w : World} {base : Nat} {e : TypeId} {size n : Nat} {v : Value} {xs : List Value} (ho : w.ownsRow base e size v n xs) {b : Nat} (hb : v.ownBlock = some b) : base ≤ b := (ho.lt b hb).1
theorem own_base {w : World} {base : Nat} {e : TypeId} {size n : Nat} {v : Value} {xs : List Value} (ho : w.ownsRow base e size v n xs) (base' : Nat) (hb : ∀ b, v.ownBlock = some b → base' ≤ b) : w.ownsRow base' e size v n xs := by
  refine ⟨ho.1, ?_⟩
  rcases ho.2 with hn | ⟨g, cap, cur, rfl, _, hgg, rest⟩
  · exact .inl hn
  · exact .inr ⟨g, cap, cur, rfl, hb g rfl, hgg, rest⟩

/-! ### whole numbers in a slice -/
def rd (xs : List Int) (i : Nat) : Int := xs.getD i 0
theorem getD_rd (xs : List Int) (i : Nat) : xs.getD i 0 = rd xs i := rfl
theorem rd_eq (xs : List Int) (i : Nat) : rd xs i = xs[i]?.getD 0 := by simp [rd, List.getD_eq_getElem?_getD]
def iv (k : IntKind) (xs : List Int) : List Value := xs.map (Value.int k)
@[simp] theorem iv_length (k : IntKind) (xs : List Int) : (iv k xs).length = xs.length := by simp [iv]
theorem iv_get (k : IntKind) (xs : List Int) {j : Nat} (hj : j < xs.length) : (iv k xs)[j]? = some (.int k (rd xs j)) := by
  simp [iv, List.getElem?_eq_getElem hj, rd_eq]
/-- the slice at a (length n) reads as the numbers xs -/
def IR (k : IntKind) (w : World) (a : Option Addr) (xs : List Int) : Prop :=
  ∀ j, j < xs.length → ∃ b o, a = some ⟨b, o, none⟩ ∧ w.cell? ⟨b, o + j, none⟩ = some (.int k (rd xs j))
theorem IR_nil (k : IntKind) (w : World) (a : Option Addr) : IR k w a [] := fun j hj => absurd hj (by simp)
theorem IR_some {k : IntKind} {w : World} {a : Option Addr} {xs : List Int} (h : IR k w a xs) (h0 : 0 < xs.length) : ∃ b o, a = some ⟨b, o, none⟩ ∧ ∀ j, j < xs.length → w.cell? ⟨b, o + j, none⟩ = some (.int k (rd xs j)) := by
  obtain ⟨b, o, rfl, _⟩ := h 0 h0
  exact ⟨b, o, rfl, fun j hj => by obtain ⟨b', o', e, hc⟩ := h j hj; cases e; exact hc⟩
theorem IR.mk {k : IntKind} {w : World} {b o : Nat} {xs : List Int} (h : ∀ j, j < xs.length → w.cell? ⟨b, o + j, none⟩ = some (.int k (rd xs j))) : IR k w (some ⟨b, o, none⟩) xs := fun j hj => ⟨b, o, rfl, h j hj⟩
theorem IR.kp {k : IntKind} {S : Nat → Prop} {w w' : World} {a : Option Addr} {xs : List Int} (h : IR k w a xs) (hk : Kp S w w') (hs : ∀ d, a = Option.some d → ¬ S d.block) : IR k w' a xs :=
  fun j hj => by obtain ⟨b, o, rfl, hc⟩ := h j hj; exact ⟨b, o, rfl, hk.cell hc (hs ⟨b, o, none⟩ rfl)⟩
theorem IR.nw {k : IntKind} {w w' : World} {a : Option Addr} {xs : List Int} (h : IR k w a xs) (hk : Nw w w') : IR k w' a xs :=
  fun j hj => by obtain ⟨b, o, rfl, hc⟩ := h j hj; exact ⟨b, o, rfl, nw_cell hk hc⟩
theorem IR.below {k : IntKind} {B : Nat} {w w' : World} {a : Option Addr} {xs : List Int} (h : IR k w a xs) (hk : Below B w w') (hs : ∀ d, a = Option.some d → d.block < B) : IR k w' a xs :=
  fun j hj => by obtain ⟨b, o, rfl, hc⟩ := h j hj; exact ⟨b, o, rfl, (hk.cell (p := ⟨b, o + j, none⟩) (hs ⟨b, o, none⟩ rfl)).trans hc⟩
theorem IR.lt {k : IntKind} {w : World} {a : Option Addr} {xs : List Int} (h : IR k w a xs) (h0 : 0 < xs.length) {d : Addr} (hd : a = Option.some d) : d.block < w.heap.size := by
  obtain ⟨b, o, rfl, hc⟩ := h 0 h0
  cases hd
  exact World.block_lt_of_cell? w _ hc
theorem IR.take {k : IntKind} {w : World} {a : Option Addr} {xs : List Int} (h : IR k w a xs) (n : Nat) : IR k w a (xs.take n) := fun j hj => by
  have hj' : j < n ∧ j < xs.length := by simp at hj; omega
  obtain ⟨b, o, rfl, hc⟩ := h j hj'.2
  refine ⟨b, o, rfl, ?_⟩
  rw [hc]; simp [rd_eq, hj'.1]
theorem IR.drop {k : IntKind} {w : World} {b o : Nat} {xs : List Int} (h : IR k w (Option.some ⟨b, o, none⟩) xs) (n : Nat) : IR k w (Option.some ⟨b, o + n, none⟩) (xs.drop n) := fun j hj => by
  simp at hj
  obtain ⟨b', o', e, hc⟩ := h (n + j) (by omega)
  cases e
  refine ⟨_, _, rfl, ?_⟩
  rw [show o + n + j = o + (n + j) by omega, hc]; simp [rd_eq]
/-- what is owned is read -/
theorem own_IR {k : IntKind} {w : World} {base : Nat} {e : TypeId} {v : Value} {xs : List Int} (h : w.ownsRow base e 1 v xs.length (iv k xs)) :
    ∃ a c, v = .slice a xs.length c ∧ xs.length ≤ c ∧ c ≤ 9223372036854775807 ∧ IR k w a xs ∧ (∀ d, a = some d → d.spot = none ∧ d.off = 0 ∧ v.ownBlock = some d.block ∧ base ≤ d.block ∧ d.block < w.heap.size) := by
  rcases h.2 with ⟨rfl, h0⟩ | ⟨g, cap, cur, rfl, hb, hg, hn, hm, hs, ht⟩
  · exact ⟨none, 0, by rw [h0], by omega, by omega, fun j hj => absurd hj (by omega), fun d hd => by cases hd⟩
  · refine ⟨_, cap, rfl, hn, by simp only [maxLen] at hm; omega, ?_, fun d hd => by cases hd; exact ⟨rfl, rfl, rfl, hb, (Array.getElem?_eq_some_iff.1 hg).1⟩⟩
    refine IR.mk fun j hj => ?_
    have hc := h.cells (g := g) rfl j _ (iv_get k xs hj)
    rw [Addr.add_lit] at hc
    exact hc
theorem own_form {w : World} {base : Nat} {e : TypeId} {v : Value} {xs : List Value} (h : w.ownsRow base e 1 v xs.length xs) (h0 : 0 < xs.length) :
    ∃ g c cur, v = .slice (some ⟨g, 0, none⟩) xs.length c ∧ w.heap[g]? = some (.cells cur e (0, 0)) ∧ xs.length ≤ c ∧ cur.size = c ∧ cur.toList.take xs.length = xs ∧ base ≤ g := by
  rcases h.2 with ⟨_, h1⟩ | ⟨g, cap, cur, rfl, hb, hg, hn, hm, hs, ht⟩
  · omega
  · exact ⟨g, cap, cur, rfl, hg, hn, by simpa using hs, by simpa using ht, hb⟩

/-! ### a block of several cells: a struct behind a pointer -/
theorem blk_cell {w : World} {g : Nat} {t : TypeId} {cs : Array Value} {f : Nat × Nat} (h : w.heap[g]? = some (.cells cs t f)) (i : Nat) : w.cell? ⟨g, i, none⟩ = cs[i]? := cell_of_row w g i cs t f h
theorem blk_frozen {w : World} {g : Nat} {t : TypeId} {cs : Array Value} (h : w.heap[g]? = some (.cells cs t (0, 0))) (i : Nat) : w.frozen? ⟨g, i, none⟩ = false := by simp [World.frozen?, h]
theorem blk_set {w : World} {g : Nat} {t : TypeId} {cs : Array Value} {f : Nat × Nat} (h : w.heap[g]? = some (.cells cs t f)) (i : Nat) (u : Value) : (w.setCell ⟨g, i, none⟩ u).heap[g]? = some (.cells (cs.setIfInBounds i u) t f) := by
  obtain ⟨hlt, hk⟩ := Array.getElem?_eq_some_iff.1 h
  show (w.heap.modify g _)[g]? = _
  rw [Array.getElem?_eq_getElem (by rw [Array.size_modify]; exact hlt), Array.getElem_modify_self, hk]
  rfl
theorem blk_far {w : World} {g : Nat} {o : Obj} (h : w.heap[g]? = some o) {p : Addr} (hp : g ≠ p.block) (u : Value) : (w.setCell p u).heap[g]? = some o := (Below.heap_setCell w p u g hp).trans h
theorem blk_lt {w : World} {g : Nat} {o : Obj} (h : w.heap[g]? = some o) : g < w.heap.size := (Array.getElem?_eq_some_iff.1 h).1
theorem blk_alloc {w : World} {g : Nat} {o : Obj} (h : w.heap[g]? = some o) (o' : Obj) : (w.alloc o').heap[g]? = some o := (Below.heap_alloc w o' g (blk_lt h)).trans h
theorem blk_new (w : World) (o : Obj) : (w.alloc o).heap[w.heap.size]? = some o := heap_alloc_new w o
theorem own_set {w : World} {base : Nat} {e : TypeId} {size n : Nat} {v : Value} {xs : List Value} (h : w.ownsRow base e size v n xs) {p : Addr} (hp : v.ownBlock ≠ some p.block) (u : Value) : (w.setCell p u).ownsRow base e size v n xs :=
  ((Kp.refl (fun k => k = p.block) w).setCell (p := p) (fun _ => rfl) u).own h (fun _b hb e => hp (e ▸ hb))
/-- a store into an owned row of one-cell elements -/
theorem own_store {w : World} {base : Nat} {e : TypeId} {g n c : Nat} {xs : List Value} (h : w.ownsRow base e 1 (.slice (some ⟨g, 0, none⟩) n c) n xs) (i : Nat) (u : Value) : (w.setCell ⟨g, i, none⟩ u).ownsRow base e 1 (.slice (some ⟨g, 0, none⟩) n c) n (xs.set i u) := by
  refine ⟨by simpa using h.1, ?_⟩
  rcases h.2 with ⟨h0, _⟩ | ⟨g', cap, cur, hv, hb, hg, hn, hm, hs, ht⟩
  · cases h0
  · cases hv
    refine .inr ⟨g, c, cur.setIfInBounds i u, rfl, hb, blk_set hg i u, hn, hm, by simpa using hs, ?_⟩
    rw [← ht]
    simp [List.take_set]
theorem own_ne_blk {w : World} {base : Nat} {e t : TypeId} {size n : Nat} {v : Value} {xs : List Value} (h : w.ownsRow base e size v n xs) {b : Nat} {cs : Array Value} (hb : w.heap[b]? = some (.cells cs t (0, 0))) (hne : e ≠ t) : v.ownBlock ≠ some b := by
  intro hv
  rcases h.2 with ⟨rfl, _⟩ | ⟨g, cap, cur, rfl, _, hg, _⟩
  · simp [Value.ownBlock] at hv
  · have : g = b := by simpa [Value.ownBlock] using hv
    subst this
    rw [hg] at hb; injection hb with hb; injection hb with _ ht; exact hne ht

theorem own_cell {w : World} {base : Nat} {e : TypeId} {g n c m : Nat} {k : IntKind} {xs : List Int} (h : w.ownsRow base e 1 (.slice (some ⟨g, 0, none⟩) n c) m (iv k xs)) {j : Nat} (hj : j < xs.length) : w.cell? ⟨g, j, none⟩ = some (.int k (rd xs j)) := by
  have hc := h.cells (g := g) rfl j _ (iv_get k xs hj)
  rw [Addr.add_lit, Nat.zero_add] at hc
  exact hc
theorem heap_alloc_if (w : World) (o : Obj) (k : Nat) : (w.alloc o).heap[k]? = if k = w.heap.size then some o else w.heap[k]? := by
  show (w.heap.push o)[k]? = _
  rw [Array.getElem?_push]
theorem own_heap {w w' : World} {base : Nat} {e : TypeId} {size g n c m : Nat} {xs : List Value} (h : w.ownsRow base e size (.slice (some ⟨g, 0, none⟩) n c) m xs) (hh : w'.heap[g]? = w.heap[g]?) : w'.ownsRow base e size (.slice (some ⟨g, 0, none⟩) n c) m xs := by
  refine ⟨h.1, ?_⟩
  rcases h.2 with hn | ⟨g', cap, cur, hv, hb, hgg, rest⟩
  · exact .inl hn
  · cases hv; exact .inr ⟨g, c, cur, rfl, hb, hh.trans hgg, rest⟩
theorem own_rd {w : World} {base : Nat} {e : TypeId} {a : Option Addr} {n c m : Nat} {k : IntKind} {xs : List Int} (h : w.ownsRow base e 1 (.slice a n c) m (iv k xs)) : IR k w a xs := by
  rcases h.2 with ⟨hv, h0⟩ | ⟨g, cap, cur, hv, hb, hg, hn, hm, hs, ht⟩
  · have := h.1; simp at this; intro j hj; omega
  · cases hv
    exact IR.mk fun j hj => by rw [Nat.zero_add]; exact own_cell h hj
theorem own_frozen {w : World} {base : Nat} {e : TypeId} {size g n c m : Nat} {xs : List Value} (h : w.ownsRow base e size (.slice (some ⟨g, 0, none⟩) n c) m xs) (j : Nat) : w.frozen? ⟨g, j, none⟩ = false := by
  rcases h.2 with ⟨h0, _⟩ | ⟨g', cap, cur, hv, _, hgg, _⟩
  · cases h0
  · cases hv; exact blk_frozen hgg j
/-! ### make([]int, n) -/
theorem madeCells_ints (k : IntKind) (m : Nat) : madeCells #[.int k 0] m = (iv k (List.replicate m 0)).toArray := by
  apply Array.ext'
  simp only [madeCells, iv]
  apply List.ext_getElem
  · simp
  · intro i h1 h2
    simp [Nat.mod_one]
theorem run_mk {P : Program} (t e : TypeId) (k : IntKind) (bytes : Nat) (ht : P.underlying t = some (.slice e)) (hinfo : (P.info? e).map (fun i => (i.zero, i.size, i.bytes)) = some (some (.int k 0), 1, bytes)) (hb0 : 0 < bytes)
    (m : Nat) (hn : m * bytes ≤ 281474976710656) :
    ∀ W : World, (Instr.makeSlice t (.int .i64 (m : Int)) (.int .i64 (m : Int))).run P W = .ok (.slice (some ⟨W.heap.size, 0, none⟩) m m) (W.alloc (.cells (iv k (List.replicate m 0)).toArray e)) := by
  intro W
  have hm : m ≤ 281474976710656 := Nat.le_trans (Nat.le_mul_of_pos_right _ hb0) hn
  rw [← madeCells_ints]
  exact run_make_row' t e (.int k 0) bytes ht hinfo rfl .i64 .i64 m (by rw [Nat.mul_comm]; exact hn) (by omega) W
theorem own_of_blk {w : World} {g : Nat} {e : TypeId} {xs : List Value} (h : w.heap[g]? = some (.cells xs.toArray e (0, 0))) (hm : xs.length ≤ 9223372036854775807) : w.ownsRow 0 e 1 (.slice (some ⟨g, 0, none⟩) xs.length xs.length) xs.length xs :=
  ⟨by simp, .inr ⟨g, xs.length, xs.toArray, rfl, Nat.zero_le _, h, Nat.le_refl _, by simp only [maxLen]; omega, by simp, by simp⟩⟩
theorem IR_of_blk {k : IntKind} {w : World} {g : Nat} {e : TypeId} {xs : List Int} {f : Nat × Nat} (h : w.heap[g]? = some (.cells (iv k xs).toArray e f)) : IR k w (some ⟨g, 0, none⟩) xs :=
  IR.mk fun j hj => by rw [blk_cell h, Nat.zero_add]; simpa using iv_get k xs hj
theorem iv_set (k : IntKind) (xs : List Int) (i : Nat) (x : Int) : (iv k xs).toArray.setIfInBounds i (.int k x) = (iv k (xs.set i x)).toArray := by
  simp [iv, List.map_set]
theorem rd_set (xs : List Int) (i j : Nat) (x : Int) (hi : i < xs.length) : rd (xs.set i x) j = if i = j then x else rd xs j := by
  simp only [rd_eq, List.getElem?_set]
  split <;> simp_all
theorem ext_rd {xs ys : List Int} (hl : xs.length = ys.length) (h : ∀ j, j < xs.length → rd xs j = rd ys j) : xs = ys := by
  apply List.ext_getElem hl
  intro j h1 h2
  have := h j h1
  simpa [rd_eq, List.getElem?_eq_getElem h1, List.getElem?_eq_getElem h2] using this
theorem rd_map_range (f : Nat → Int) (n j : Nat) (h : j < n) : rd ((List.range n).map f) j = f j := by simp [rd_eq, h]
theorem rd_nil (xs : List Int) (j : Nat) (h : xs.length ≤ j) : rd xs j = 0 := by simp [rd_eq, List.getElem?_eq_none h]
end Go.Proofs.Ytbofjdckmkifaaa

/-! ## append in a walk, said of what is owned: plain lemmas for this seat's walks. Conditions: the new slice fits. -/
namespace Go.Proofs.Ytbofjdckmkifaaa
open Go.RowKit
section
variable {P : Program} {ops : Array Oper} {rest : List Oper} {o : Oper} {a : Act} {Q : Exit → Act → World → Prop}

theorem own_slice {w : World} {base n : Nat} {e : TypeId} {v : Value} {xs : List Value} (h : w.ownsRow base e 1 v n xs) (h0 : 0 < n) : ∃ g c, v = .slice (some ⟨g, 0, none⟩) n c ∧ n ≤ c := by
  rcases h.2 with ⟨_, h1⟩ | ⟨g, cap, cur, rfl, hb, hg, hn, _⟩
  · omega
  · exact ⟨g, cap, rfl, hn⟩

/-- 'append(v, y)': y lies in the variadic's box -/
theorem app1v (hgd : o.guard = none) (s x : Operand) (t e : TypeId) (z : Value) (bytes : Nat)
    (ho : o.op = .call { callee := .builtin .append, args := #[s, x], argTypes := #[t, t] })
    (ht : P.underlying t = some (.slice e)) (hinfo : (P.info? e).map (fun i => (i.zero, i.size, i.bytes)) = some (some z, 1, bytes)) (hz : z.cells.size = 1) (hb0 : 0 < bytes)
    (W : World) (v : Value) (xs : List Value) (y : Value) (hs : a.eval s = v) (hx : a.eval x = .slice (some ⟨W.heap.size, 0, none⟩) 1 1) (h1 : y.oneCell' = true)
    (HO : W.ownsRow 0 e 1 v xs.length xs) (hl : (xs.length + 1) * bytes ≤ 140737488355328)
    (h : ∀ (g c : Nat) (w1 : World), w1.ownsRow 0 e 1 (.slice (some ⟨g, 0, none⟩) (xs.length + 1) c) (xs.length + 1) (xs ++ [y]) → xs.length + 1 ≤ c → Kp (fun b => v.ownBlock = some b) W w1 → (v.ownBlock = some g ∨ W.heap.size ≤ g) →
      wpList P ops Q rest (a.put o.dst (.slice (some ⟨g, 0, none⟩) (xs.length + 1) c)) w1) :
    wpList P ops Q (o :: rest) a (W.alloc (.cells #[y] e)) := by
  obtain ⟨i0, hi, hzz⟩ := Option.map_eq_some_iff.1 hinfo
  simp only [Prod.mk.injEq] at hzz
  obtain ⟨hz0, hz1, hz2⟩ := hzz
  have hlen : xs.length + 1 ≤ 140737488355328 := Nat.le_trans (Nat.le_mul_of_pos_right _ hb0) hl
  refine wpList_append_own_at (W.alloc (.cells #[y] e)) hgd s x t ho 0 e i0 z 1 bytes ht hi hz0 hz1 hz2 hz (by omega) v xs.length xs hs (HO.alloc _) ⟨W.heap.size, 0, none⟩ 1 1 [y] hx rfl
    (fun j u hu => by rw [Addr.add_lit, Nat.zero_add, blk_cell (heap_alloc_new W _)]; simpa using hu) (by simpa using h1) (by simp only [maxLen]; omega) hl (by simp) ?_
  intro v1 w1 hown hg _ hat
  obtain ⟨g, c, rfl, hc⟩ := own_slice hown (by omega)
  refine h g c w1 hown hc (((Kp.refl _ W).alloc _).grown hg (fun k hk _ => hk)) ?_
  rcases hat with hat | hat
  · exact .inl (hat.symm.trans rfl)
  · refine .inr ?_
    simp [Value.ownBlock] at hat
    omega

theorem app1 (hgd : o.guard = none) (s x : Operand) (t e : TypeId) (k : IntKind) (bytes : Nat)
    (ho : o.op = .call { callee := .builtin .append, args := #[s, x], argTypes := #[t, t] })
    (ht : P.underlying t = some (.slice e)) (hinfo : (P.info? e).map (fun i => (i.zero, i.size, i.bytes)) = some (some (.int k 0), 1, bytes)) (hb0 : 0 < bytes)
    (W : World) (v : Value) (xs : List Int) (y : Int) (hs : a.eval s = v) (hx : a.eval x = .slice (some ⟨W.heap.size, 0, none⟩) 1 1)
    (HO : W.ownsRow 0 e 1 v xs.length (iv k xs)) (hl : (xs.length + 1) * bytes ≤ 140737488355328)
    (h : ∀ (g c : Nat) (w1 : World), w1.ownsRow 0 e 1 (.slice (some ⟨g, 0, none⟩) (xs.length + 1) c) (xs ++ [y]).length (iv k (xs ++ [y])) → xs.length + 1 ≤ c → Kp (fun b => v.ownBlock = some b) W w1 → (v.ownBlock = some g ∨ W.heap.size ≤ g) →
      wpList P ops Q rest (a.put o.dst (.slice (some ⟨g, 0, none⟩) (xs.length + 1) c)) w1) :
    wpList P ops Q (o :: rest) a (W.alloc (.cells #[.int k y] e)) :=
  app1v hgd s x t e (.int k 0) bytes ho ht hinfo rfl hb0 W v (iv k xs) (.int k y) hs hx rfl (by simpa using HO) (by simpa using hl)
    fun g c w1 h1 h2 h3 h4 => by
      have := h g c w1 (by simpa [iv] using h1) (by simpa using h2) h3 h4
      simpa using this

/-- 'append(v, ys...)': ys are read at ad (none of them: any address) -/
theorem appN (hgd : o.guard = none) (s x : Operand) (t e : TypeId) (z : Value) (bytes : Nat)
    (ho : o.op = .call { callee := .builtin .append, args := #[s, x], argTypes := #[t, t] })
    (ht : P.underlying t = some (.slice e)) (hinfo : (P.info? e).map (fun i => (i.zero, i.size, i.bytes)) = some (some z, 1, bytes)) (hz : z.cells.size = 1) (hb0 : 0 < bytes)
    (W : World) (v : Value) (xs : List Value) (ys : List Value) (b f cc : Nat) (hs : a.eval s = v) (hx : a.eval x = .slice (some ⟨b, f, none⟩) ys.length cc) (h1 : ∀ u ∈ ys, u.oneCell' = true)
    (hr : ∀ j u, ys[j]? = some u → W.cell? ⟨b, f + j, none⟩ = some u)
    (HO : W.ownsRow 0 e 1 v xs.length xs) (hl : (xs.length + ys.length) * bytes ≤ 140737488355328)
    (h : ∀ (v1 : Value) (w1 : World), w1.ownsRow 0 e 1 v1 (xs.length + ys.length) (xs ++ ys) → Kp (fun b => v.ownBlock = some b) W w1 → (∀ b, v1.ownBlock = some b → v.ownBlock = some b ∨ W.heap.size ≤ b) →
      wpList P ops Q rest (a.put o.dst v1) w1) :
    wpList P ops Q (o :: rest) a W := by
  obtain ⟨i0, hi, hzz⟩ := Option.map_eq_some_iff.1 hinfo
  simp only [Prod.mk.injEq] at hzz
  obtain ⟨hz0, hz1, hz2⟩ := hzz
  have hlen : xs.length + ys.length ≤ 140737488355328 := Nat.le_trans (Nat.le_mul_of_pos_right _ hb0) hl
  refine wpList_append_own_at W hgd s x t ho 0 e i0 z 1 bytes ht hi hz0 hz1 hz2 hz (by omega) v xs.length xs hs HO ⟨b, f, none⟩ ys.length cc ys hx (by simp)
    (fun j u hu => by rw [Addr.add_lit]; exact hr j u hu) h1 (by simp only [maxLen]; omega) hl (by simp) ?_
  intro v1 w1 hown hg _ hat
  refine h v1 w1 hown ((Kp.refl _ W).grown hg (fun k hk _ => hk)) ?_
  intro b' hb'
  rcases hat with hat | hat
  · exact .inl (hat.symm.trans hb')
  · rw [hat] at hb'; injection hb' with hb'; exact .inr (by omega)

/-- 'append(v, ys...)', whatever the address where nothing is appended -/
theorem appAny (hgd : o.guard = none) (s x : Operand) (t e : TypeId) (k : IntKind) (bytes : Nat)
    (ho : o.op = .call { callee := .builtin .append, args := #[s, x], argTypes := #[t, t] })
    (ht : P.underlying t = some (.slice e)) (hinfo : (P.info? e).map (fun i => (i.zero, i.size, i.bytes)) = some (some (.int k 0), 1, bytes)) (hb0 : 0 < bytes)
    (W : World) (v : Value) (xs : List Int) (ys : List Int) (ao : Option Addr) (cc : Nat) (hs : a.eval s = v) (hx : a.eval x = .slice ao ys.length cc)
    (hnone : ao = none → cc = 0) (hr : IR k W ao ys) (HO : W.ownsRow 0 e 1 v xs.length (iv k xs)) (hl : (xs.length + ys.length) * bytes ≤ 140737488355328)
    (h : ∀ (a1 : Option Addr) (c : Nat) (w1 : World), w1.ownsRow 0 e 1 (.slice a1 (xs ++ ys).length c) (xs ++ ys).length (iv k (xs ++ ys)) → Kp (fun b => v.ownBlock = some b) W w1 → (∀ d, a1 = some d → v.ownBlock = some d.block ∨ W.heap.size ≤ d.block) →
      wpList P ops Q rest (a.put o.dst (.slice a1 (xs ++ ys).length c)) w1) :
    wpList P ops Q (o :: rest) a W := by
  cases ao with
  | none =>
    have h0 : ys = [] := by
      cases ys with
      | nil => rfl
      | cons y ys => obtain ⟨b, o', e', _⟩ := hr 0 (by simp); cases e'
    subst h0
    obtain ⟨i0, hi, hzz⟩ := Option.map_eq_some_iff.1 hinfo
    obtain ⟨a1, c, rfl, hc, hcm, -, hcb⟩ := own_IR HO
    obtain rfl := hnone rfl
    have hrun := run_append_owned_none (P := P) W 0 t o.type e i0 1 ht hi _ xs.length (iv k xs) HO
    have := h a1 c W (by simpa using HO) (Kp.refl _ _) (fun d hd => .inl (hcb d hd).2.2.1)
    rw [show (xs ++ ([] : List Int)).length = xs.length by simp] at this
    refine wpList_plain hgd fun K hK' => ?_
    unfold Oper.wp
    simp only [List.length_nil] at hx
    simp [execOp, ho, resolve, invoke, builtin, hs, hx, hrun, Result.andThen]
    exact hK' _ _ this
  | some ad =>
    obtain ⟨i0, hi, hzz⟩ := Option.map_eq_some_iff.1 hinfo
    simp only [Prod.mk.injEq] at hzz
    obtain ⟨hz0, hz1, hz2⟩ := hzz
    have hlen : xs.length + ys.length ≤ 140737488355328 := Nat.le_trans (Nat.le_mul_of_pos_right _ hb0) hl
    refine wpList_append_own_at W hgd s x t ho 0 e i0 (.int k 0) 1 bytes ht hi hz0 hz1 hz2 rfl (by omega) v xs.length (iv k xs) hs HO ad ys.length cc (iv k ys) hx (by simp)
      (fun j u hu => ?_) (fun u hu => by obtain ⟨_, _, rfl⟩ := List.mem_map.1 hu; rfl) (by simp only [maxLen]; omega) hl (by simp) ?_
    · have hj : j < ys.length := by have := (List.getElem?_eq_some_iff.1 hu).1; simpa using this
      rw [iv_get k ys hj] at hu
      obtain ⟨b', o', e', hc⟩ := hr j hj
      cases e'; rw [Addr.add_lit, hc]; exact hu
    · intro v1 w1 hown hg _ hat
      have hown' : w1.ownsRow 0 e 1 v1 (xs ++ ys).length (iv k (xs ++ ys)) := by simpa [iv] using hown
      obtain ⟨a1, c, rfl, hc, hcm, -, hcb⟩ := own_IR hown'
      refine h a1 c w1 hown' ((Kp.refl _ W).grown hg (fun k hk _ => hk)) (fun d hd => ?_)
      have hb := (hcb d hd).2.2.1
      rcases hat with hat | hat
      · exact .inl (hat.symm.trans hb)
      · rw [hat] at hb; injection hb with hb; exact .inr (by omega)
/-- the same for whole numbers, where something stands in the end -/
theorem appI (hgd : o.guard = none) (s x : Operand) (t e : TypeId) (k : IntKind) (bytes : Nat)
    (ho : o.op = .call { callee := .builtin .append, args := #[s, x], argTypes := #[t, t] })
    (ht : P.underlying t = some (.slice e)) (hinfo : (P.info? e).map (fun i => (i.zero, i.size, i.bytes)) = some (some (.int k 0), 1, bytes)) (hb0 : 0 < bytes)
    (W : World) (v : Value) (xs : List Int) (ys : List Int) (b f cc : Nat) (hs : a.eval s = v) (hx : a.eval x = .slice (some ⟨b, f, none⟩) ys.length cc)
    (hr : IR k W (some ⟨b, f, none⟩) ys) (HO : W.ownsRow 0 e 1 v xs.length (iv k xs)) (hl : (xs.length + ys.length) * bytes ≤ 140737488355328) (hpos : 0 < xs.length + ys.length)
    (h : ∀ (g c : Nat) (w1 : World), w1.ownsRow 0 e 1 (.slice (some ⟨g, 0, none⟩) (xs.length + ys.length) c) (xs ++ ys).length (iv k (xs ++ ys)) → xs.length + ys.length ≤ c → Kp (fun b => v.ownBlock = some b) W w1 → (v.ownBlock = some g ∨ W.heap.size ≤ g) →
      wpList P ops Q rest (a.put o.dst (.slice (some ⟨g, 0, none⟩) (xs.length + ys.length) c)) w1) :
    wpList P ops Q (o :: rest) a W := by
  refine appN hgd s x t e (.int k 0) bytes ho ht hinfo rfl hb0 W v (iv k xs) (iv k ys) b f cc hs (by simpa using hx) (fun u hu => by obtain ⟨_, _, rfl⟩ := List.mem_map.1 hu; rfl)
    (fun j u hu => ?_) (by simpa using HO) (by simpa using hl) ?_
  · have hj : j < ys.length := by have := (List.getElem?_eq_some_iff.1 hu).1; simpa using this
    rw [iv_get k ys hj] at hu
    obtain ⟨b', o', e', hc⟩ := hr j hj
    cases e'; rw [hc]; exact hu
  · intro v1 w1 h1 h2 h3
    simp only [iv_length] at h1
    obtain ⟨g, c, rfl, hc⟩ := own_slice h1 hpos
    have := h g c w1 (by simpa [iv] using h1) hc h2 (h3 g rfl)
    simpa using this
end
end Go.Proofs.Ytbofjdckmkifaaa

/-! ## append of one number as an equation on its run. Condition: the slice is not long. -/
namespace Go.Proofs.Ytbofjdckmkifaaa
open Go.RowKit

theorem infoI' : (Try.prog.info? 3).map (fun i => (i.zero, i.size, i.bytes)) = some (some (.int .i64 0), 1, 8) := by kernel_rfl
theorem app1run (W : World) (v : Value) (xs : List Int) (y : Int) (HO : W.ownsRow 0 3 1 v xs.length (iv .i64 xs)) (hl : xs.length ≤ 1000000) :
    ∃ (g c : Nat) (w1 : World), (Builtin.append_ #[30, 30] 30 #[v, .slice (some ⟨W.heap.size, 0, none⟩) 1 1]).run Try.prog (W.alloc (.cells #[.int .i64 y] 3)) = .ok (.slice (some ⟨g, 0, none⟩) (xs ++ [y]).length c) w1 ∧
      w1.ownsRow 0 3 1 (.slice (some ⟨g, 0, none⟩) (xs ++ [y]).length c) (xs ++ [y]).length (iv .i64 (xs ++ [y])) ∧ Kp (fun b => v.ownBlock = some b) W w1 ∧ (v.ownBlock = some g ∨ W.heap.size ≤ g) := by
  obtain ⟨i0, hi, hzz⟩ := Option.map_eq_some_iff.1 infoI'
  simp only [Prod.mk.injEq] at hzz
  obtain ⟨hz0, hz1, hz2⟩ := hzz
  have HO2 := HO
  obtain ⟨v', w', hr, hown, hg, _, hat⟩ := run_append_own_at (P := Try.prog) (W.alloc (.cells #[.int .i64 y] 3)) 0 30 30 3 i0 (.int .i64 0) 1 8 Try.underlying30 hi hz0 hz1 hz2 rfl (by omega)
    v xs.length (iv .i64 xs) (HO.alloc _) ⟨W.heap.size, 0, none⟩ 1 1 [.int .i64 y] rfl (fun j u hu => by rw [Addr.add_lit, Nat.zero_add, blk_cell (heap_alloc_new W _)]; simpa using hu)
    (by simp [Value.oneCell']) (by simp only [maxLen]; omega) (by omega) (by simp)
  obtain ⟨g, c, rfl, hc⟩ := own_slice hown (by omega)
  refine ⟨g, c, w', by simpa using hr, by simpa [iv] using hown, ((Kp.refl _ W).alloc _).grown hg (fun k hk _ => hk), ?_⟩
  rcases hat with hat | hat
  · exact .inl (hat.symm.trans rfl)
  · refine .inr ?_
    simp [Value.ownBlock] at hat
    omega
theorem wpListIn_append_run {F : Fence} {nF : Nat} {P : Program} {Q : Exit → Act → World → Prop} {a : Act} {w : World} {ops : Array Oper} {rest : List Oper} {o : Oper} (hgd : o.guard = none) (s x : Operand) (t : TypeId)
    (ho : o.op = .call { callee := .builtin .append, args := #[s, x], argTypes := #[t, t] }) (v y : Value) (hs : a.eval s = v) (hx : a.eval x = y) (v' : Value) (w' : World)
    (hr : (Builtin.append_ #[t, t] o.type #[v, y]).run P w = .ok v' w') (h : wpListIn F nF P ops Q rest (a.put o.dst v') w') : wpListIn F nF P ops Q (o :: rest) a w := by
  refine wpListIn_plain hgd fun K hK => ?_
  unfold Oper.wpIn
  refine ⟨by simp [Oper.about, ho, resolve, Target.leads, Sem.run_pure], ?_⟩
  rw [Oper.semAt_plain F _ _ (by rw [ho]; intro c hc'; cases hc')]
  simp [execOp, ho, resolve, invoke, builtin, hs, hx, hr, Result.andThen]
  exact hK _ _ h
end Go.Proofs.Ytbofjdckmkifaaa

/-! ## A result in a cell. No condition. -/
namespace Go.Proofs.Ytbofjdckmkifaaa
open Go.RowKit
theorem results_cell1 {P : Program} {fn : Func} {p : Tmp} {ty : TypeId} (h : fn.results = #[.cell p ty]) (tmps : Array Value) (w : World) (g : Nat) (v : Value) (d : TypeDesc)
    (hp : tmps.getD p undef = .pointer (some ⟨g, 0, none⟩)) (hd : (match d with | .struct _ | .array _ _ => true | _ => false) = false) (hu : P.underlying ty = some d) (hc : w.cell? ⟨g, 0, none⟩ = some v) :
    (results fn tmps).run P w = .ok v w := by
  have hp' : tmps[p]?.getD undef = .pointer (some ⟨g, 0, none⟩) := by simpa using hp
  cases d
  case struct => cases hd
  case array => cases hd
  all_goals simp [results, underlying, h, hp', asAddr, loadVar, isAgg, hu, hc, go_sem]
end Go.Proofs.Ytbofjdckmkifaaa

/-! ## The walk of the law's Ints: two rows of numbers are alike. Condition: the rows are short. -/
namespace Go.Proofs.Ytbofjdckmkifaaa
open Go.RowKit

theorem take_rd {xs ys : List Int} {k : Nat} (hx : k < xs.length) (hy : k < ys.length) (h : xs.take k = ys.take k) (e : rd xs k = rd ys k) : xs.take (k + 1) = ys.take (k + 1) := by
  rw [List.take_add_one, List.take_add_one, h, List.getElem?_eq_getElem hx, List.getElem?_eq_getElem hy]
  have e1 : rd xs k = xs[k] := by rw [rd_eq, List.getElem?_eq_getElem hx]; rfl
  have e2 : rd ys k = ys[k] := by rw [rd_eq, List.getElem?_eq_getElem hy]; rfl
  rw [← e1, ← e2, e]

set_option maxHeartbeats 400000 in
theorem intsP (w : World) (a1 a2 : Option Addr) (c1 c2 : Nat) (xs ys : List Int) (hx : xs.length ≤ 1000000) (_hy : ys.length ≤ 1000000) (r1 : IR .i64 w a1 xs) (r2 : IR .i64 w a2 ys) :
    Calls Try.prog 29 #[.slice a1 xs.length c1, .slice a2 ys.length c2] w fun e w' => e = .returned (.bool (decide (xs = ys))) ∧ ∃ n, w' = w.drewN n := by
  by_cases hl : xs.length = ys.length
  · have R1 := Lib.hid r1; have R2 := Lib.hid r2; have HL := Lib.hid hl
    clear r1 r2
    obtain ⟨n, hn⟩ : ∃ n, ys.length = n := ⟨_, rfl⟩
    rw [hl, hn] at hx ⊢
    have HN := Lib.hid hn; clear hl hn
    go_enter Try.func29, Try.ntmps29
    go_wp2
    go_loopw [5] (fun i wr => ∃ k m : Nat, k ≤ n ∧ i = .int .i64 (k : Int) ∧ wr = w.drewN m ∧ Hid (xs.take k = ys.take k)) (fun i _ => n - (intOf i).toNat)
    case atStart => exact ⟨0, 0, Nat.zero_le _, rfl, rfl, Lib.hid (by simp)⟩
    case round =>
      obtain ⟨k, m, hk, rfl, rfl, HT⟩ := hrel
      by_cases hlt : k < n
      · have h1 := HL.out; have h2 := HN.out
        obtain ⟨b1, o1, rfl, g1⟩ := IR_some R1.out (by omega)
        obtain ⟨b2, o2, rfl, g2⟩ := IR_some R2.out (by omega)
        have g1 := g1 k (by omega)
        have g2 := g2 k (by omega)
        by_cases e : rd xs k = rd ys k
        · have q : decide (rd xs k = rd ys k) = true := by simp [e]
          have q2 : decide (rd xs k ≠ rd ys k) = false := by simp [e]
          have HT2 := Lib.hid (take_rd (by omega) (by omega) HT.out e)
          rw [e] at g1
          clear h1 h2 e q q2
          go_wp2
          go_quiet (fail)
          go_wp2
          go_roundw
          case rel => exact ⟨k + 1, _, by omega, by go_num, by first | rfl | exact World.drewN_drewN _ _ _, HT2⟩
          case measure => simp [intOf]; try omega
        · have q : decide (rd xs k = rd ys k) = false := by simp [e]
          have q2 : decide (rd xs k ≠ rd ys k) = true := by simp [e]
          have hno : Hid (decide (xs = ys) = false) := Lib.hid (by simp; intro h; exact e (by rw [h]))
          clear h1 h2
          go_wp2
          go_quiet (fail)
          go_wp2
          go_ret
          exact ⟨by rw [hno.out]; rfl, by first | exact ⟨_, rfl⟩ | exact ⟨_, World.drewN_drewN _ _ _⟩⟩
      · obtain rfl : k = n := by omega
        have hyes : Hid (decide (xs = ys) = true) := Lib.hid (by
          have h1 := HL.out; have h2 := HN.out; have h3 := HT.out
          rw [List.take_of_length_le (by omega), List.take_of_length_le (by omega)] at h3
          simp [h3])
        go_wp2
        go_ret
        exact ⟨by rw [hyes.out]; rfl, by first | exact ⟨_, rfl⟩ | exact ⟨_, World.drewN_drewN _ _ _⟩⟩
  · have q : decide (xs.length = ys.length) = false := by simp [hl]
    have q2 : decide ((xs.length : Int) ≠ (ys.length : Int)) = true := by simp; omega
    have hno : Hid (decide (xs = ys) = false) := Lib.hid (by simp; intro h; exact hl (by rw [h]))
    go_enter Try.func29, Try.ntmps29
    go_wp2
    go_ret
    exact ⟨by rw [hno.out]; rfl, 0, rfl⟩
/-- of two rows that are alike -/
theorem intsE (w : World) (a1 a2 : Option Addr) (c1 c2 : Nat) (xs : List Int) (hx : xs.length ≤ 1000000) (r1 : IR .i64 w a1 xs) (r2 : IR .i64 w a2 xs) :
    Calls Try.prog 29 #[.slice a1 xs.length c1, .slice a2 xs.length c2] w fun e w' => e = .returned (.bool true) ∧ ∃ n, w' = w.drewN n :=
  (intsP w a1 a2 c1 c2 xs xs hx hx r1 r2).mono fun _ _ ⟨h, hn⟩ => ⟨by simpa using h, hn⟩
end Go.Proofs.Ytbofjdckmkifaaa

/-! ## 'for x := range f { .. }' over a function, in the widest fence: plain lemmas for this seat's walks. No condition. -/
namespace Go.Proofs.Ytbofjdckmkifaaa
open Go.RowKit

/-- the loop's record -/
def LRec (fn : FuncId) (tmps : Array Value) (ps : Array Tmp) (assign body : Code) (D : Nat) (st : LoopState) (pe : Option Code) : Loop := { state := st, pending := pe, fn, tmps, params := ps, assign, body, defers := D }

theorem kp_putObj (w : World) (l : Nat) (o : Obj) : Kp (fun k => k = l) w (w.putObj l o) :=
  ⟨rfl, rfl, rfl, by simp, fun k _ h => World.putObj_heap_other h⟩

/-- the statement is entered: the iterator is called in a world with the record behind the block of deferred calls -/
theorem rf_enter {P : Program} {n : Nat} {g : Operand} {ps : Array Tmp} {assign body : Code} {Q : Exit → Act → World → Prop} {a : Act} {w : World} {gf : Nat} {lb : Array Value}
    (hg : a.eval g = .func (.func gf) #[] lb) (eg : ∀ args w, (callFunc gf args).run P w = .ok (.enter gf args) w)
    (h : ∀ (fn : FuncId) (W1 : World), Nw w W1 → W1.heap.size = w.heap.size + 2 → W1.heap[w.heap.size + 1]? = some (.loop (LRec fn a.tmps ps assign body w.heap.size .ready none)) → W1.heap[w.heap.size]? = some (.deferred (some [])) →
      CallsIn Fence.wide (n - 1) P gf (#[.func (.yield (w.heap.size + 1)) #[] #[]] ++ lb) W1 (rangePost Fence.wide n P (w.heap.size + 1) Q { a with defers := [{ target := .collected w.heap.size, args := #[] }] ++ a.defers })) :
    (Code.rangeFunc g ps assign body).wpIn Fence.wide n P Q a w := by
  refine wpIn_rangeFunc ?_
  intro fn hfn
  obtain ⟨W1, hW1⟩ : ∃ W1, (w.alloc (.deferred (some []))).alloc (.loop (LRec fn a.tmps ps assign body w.heap.size .ready none)) = W1 := ⟨_, rfl⟩
  refine ⟨w.heap.size + 1, [{ target := .collected w.heap.size, args := #[] }], W1, { target := .fn (.func gf) lb, args := #[.func (.yield (w.heap.size + 1)) #[] #[]] }, W1, gf,
    #[.func (.yield (w.heap.size + 1)) #[] #[]] ++ lb, W1, ?_, ?_, ?_, ?_, fun h => by simp [Fence.wide] at h, ?_⟩
  · rw [← hW1]; exact run_enterLoop_outer _ _ _ _ _
  · simp only [resolve, hg]; simp [go_sem]
  · intro f' _; trivial
  · simp [invoke, go_sem, eg]
  · refine h fn W1 ?_ ?_ ?_ ?_
    · rw [← hW1]; exact nw_trans (nw_alloc _ _) (nw_alloc _ _)
    · rw [← hW1]; simp
    · rw [← hW1]; have := World.alloc_heap_new (w.alloc (.deferred (some []))) (.loop (LRec fn a.tmps ps assign body w.heap.size .ready none)); rwa [World.size_alloc] at this
    · rw [← hW1]; exact (Below.heap_alloc _ _ _ (by simp)).trans (World.alloc_heap_new w _)

/-- how a round's body is left -/
def rfPost (_P : Program) (l : Nat) (r : LoopState → Option Code → Loop) (R : Ending → World → Prop) : Exit → Act → World → Prop
  | .normal, _, W => W.heap[l]? = some (.loop (r .busy none)) ∧ R (.returned (.bool true)) (W.putObj l (.loop (r .ready none)))
  | .ret, _, W => W.heap[l]? = some (.loop (r .busy none)) ∧ R (.returned (.bool false)) (W.putObj l (.loop (r .done (some .ret))))
  | .exit id, _, W => W.heap[l]? = some (.loop (r .busy none)) ∧ R (.returned (.bool false)) (W.putObj l (.loop (r .done (some (.exit id)))))
  | _, _, _ => False

/-- the round has begun -/
def RBegun (P : Program) (m l : Nat) (r : LoopState → Option Code → Loop) (body : Code) (R : Ending → World → Prop) (W : World) (a₁ : Act) (W' : World) : Prop :=
  W' = W ∧ ∀ o, o = Obj.loop (r .busy none) → body.wpIn (Fence.wide.inRound l) m P (rfPost P l r R) a₁ (W.putObj l o)
/-- one round, out of its body's walk -/
theorem rf_round {P : Program} {m l D : Nat} {fn : FuncId} {tmps : Array Value} {ps : Array Tmp} {assign body : Code} {args : Array Value} {W : World} {R : Ending → World → Prop}
    (hl : W.heap[l]? = some (.loop (LRec fn tmps ps assign body D .ready none))) (hps : args.size = ps.size)
    (h : assign.wpIn (Fence.wide.inRound l) m P (Exit.then (RBegun P m l (LRec fn tmps ps assign body D) body R W) (fun _ _ _ => False))
      { tmps := (ps.zip args).foldl (fun t (p, v) => t.setIfInBounds p v) tmps, defers := [] } W) :
    YieldAt Fence.wide m P l args W R := by
  have hy := run_yield (P := P) (args := args) hl hps
  refine ⟨fn, _, assign, body, hy, roundIn_of_wpIn trivial (wpIn_mono h ?_)⟩
  intro e a₁ W' hq
  cases e <;> first | exact hq.elim | skip
  obtain ⟨rfl, hbody⟩ := hq
  refine ⟨_, run_beginRound hl rfl, wpIn_mono (hbody _ rfl) ?_⟩
  intro e a3 W3 hp
  cases e with
  | normal => exact ⟨_, _, run_endRound (P := P) none hp.1, hp.2⟩
  | ret => exact ⟨_, _, run_endRound (P := P) (some .ret) hp.1, hp.2⟩
  | exit id => exact ⟨_, _, run_endRound (P := P) (some (.exit id)) hp.1, hp.2⟩
  | goto t => exact hp.elim
  | panic ch => exact hp.elim
  | outgrown => exact hp.elim

/-- behind the iterator: all have come -/
theorem rf_done {P : Program} {n l D : Nat} {fn : FuncId} {tmps : Array Value} {ps : Array Tmp} {assign body : Code} {Q : Exit → Act → World → Prop} {a : Act} {W : World} {v : Value}
    (hl : W.heap[l]? = some (.loop (LRec fn tmps ps assign body D .ready none))) (h : ∀ o', Q .normal a (W.putObj l o')) :
    rangePost Fence.wide n P l Q a (.returned v) W :=
  ⟨none, _, run_endLoop (P := P) hl (by simp [LRec]), h _⟩
/-- behind the iterator: a round has returned -/
theorem rf_ret {P : Program} {n l D : Nat} {fn : FuncId} {tmps : Array Value} {ps : Array Tmp} {assign body : Code} {Q : Exit → Act → World → Prop} {a : Act} {W : World} {v : Value}
    (hl : W.heap[l]? = some (.loop (LRec fn tmps ps assign body D .done (some .ret)))) (h : ∀ o', Q .ret a (W.putObj l o')) :
    rangePost Fence.wide n P l Q a (.returned v) W :=
  ⟨some .ret, _, run_endLoop (P := P) hl (by simp [LRec]), wpIn_ret (h _)⟩

/-- the function returns with the loop's mark among its deferred calls -/
theorem rf_leave {P : Program} {n D : Nat} {fn : Func} {R : Ending → World → Prop} {a : Act} {W : World} {v : Value} (hd : a.defers = [{ target := .collected D, args := #[] }]) (hD : W.heap[D]? = some (.deferred (some [])))
    (hr : (results fn a.tmps).run P (W.putObj D (.deferred none)) = .ok v (W.putObj D (.deferred none))) (hR : R (.returned v) (W.putObj D (.deferred none))) : bodyPostM Fence.wide n P fn R .ret a W := by
  show LeavesInM Fence.wide n P fn a.tmps R a.defers .returning W
  rw [hd]
  exact ⟨by simp, .inl ⟨_, _, rfl, run_takeDeferred hD, ⟨_, hr, hR⟩⟩⟩
theorem rf_leave0 {P : Program} {n : Nat} {fn : Func} {R : Ending → World → Prop} {a : Act} {W : World} {v : Value} (hd : a.defers = [])
    (hr : (results fn a.tmps).run P W = .ok v W) (hR : R (.returned v) W) : bodyPostM Fence.wide n P fn R .ret a W := by
  show LeavesInM Fence.wide n P fn a.tmps R a.defers .returning W
  rw [hd]
  exact ⟨_, hr, hR⟩
/-- a contract of a function whose body holds such a loop -/
theorem rf_calls {P : Program} {f : FuncId} {fn : Func} {c : Code} {args : Array Value} {w : World} {R : Ending → World → Prop} (n : Nat) (hf : P.funcs[f]? = some fn) (hb : fn.body = some c)
    (h : c.wp P (bodyPostM Fence.wide n P fn R) { tmps := args ++ Array.replicate (fn.ntmps - args.size) undef, defers := [] } w) : Calls P f args w R :=
  (callsIn_wide (n := n)).1 (callsIn_of_wp_marks hf hb trivial ((wpIn_wide (n := n)).2 h) rfl)
end Go.Proofs.Ytbofjdckmkifaaa

/-! ## A region of a round's body walked as one of a plain frame: plain lemmas for this seat's walks. No condition. -/
namespace Go.Proofs.Ytbofjdckmkifaaa
open Go.RowKit

def isDefer : Op → Bool
  | .defer _ => true
  | _ => false
theorem rows_in {l m : Nat} {P : Program} {row : String} {args : Array Value} {w : World} {R : Value → World → Prop} (h : Rows P row args w R) : RowsIn (Fence.wide.inRound l) m P row args w R :=
  fun c cs _ => let ⟨v, w', r, s⟩ := h c cs; ⟨v, w', r, stepsIn_wide.2 s⟩
theorem calls_in {l m : Nat} {P : Program} {f : FuncId} {args : Array Value} {w : World} {R : Ending → World → Prop} (h : Calls P f args w R) : CallsIn (Fence.wide.inRound l) m P f args w R :=
  CallsIn.inRound l (callsIn_wide.2 h)
theorem oper_in {l m : Nat} {P : Program} {o : Oper} {a : Act} {w : World} {K : Act → World → Prop} {Q : Exit → Act → World → Prop} (hd : isDefer o.op = false) (h : o.wp P a w K Q) : o.wpIn (Fence.wide.inRound l) m P a w K Q := by
  refine ⟨fun _ _ => trivial, ?_⟩
  have e : o.semAt (Fence.wide.inRound l).round a.eval = execOp a.eval o := Oper.semAt_some l _ o (fun c hc => by rw [hc] at hd; cases hd)
  rw [e]
  unfold Oper.wp at h
  generalize (execOp a.eval o).run P w = r at h ⊢
  cases r with
  | ok x w' =>
    cases x with
    | value v => exact h
    | skip => exact h
    | defer d => exact h
    | enter f args => exact ⟨fun hh => by simp [Fence.wide, Fence.inRound] at hh, calls_in h⟩
    | row row args => exact ⟨fun hh => by simp [Fence.wide, Fence.inRound] at hh, rows_in h⟩
    | round l f tmps assign body => exact h.elim
    | _ => exact h.elim
  | halt x w' => cases x <;> first | exact h | exact h.elim
theorem any_in {l m : Nat} {P : Program} {md : Region.Mode} {ops : Array Oper} {Q : Exit → Act → World → Prop} (hd : ∀ (i : Nat) (o : Oper), ops[i]? = some o → isDefer o.op = false) (hout : ¬ LetsOut Q) :
    ∀ (f : Nat) (listed : Array Bool) (a : Act) (w : World), wpAny P md ops Q f listed a w → wpAnyIn (Fence.wide.inRound l) m P md ops Q f listed a w
  | 0, _, _, _, h => h
  | f + 1, listed, a, w, h => by
    refine ⟨h.1, fun i hi => ?_⟩
    have h2 := h.2 i hi
    unfold wpOp at h2
    unfold wpOpIn
    cases ho : ops[i]? with
    | none => simp only [ho] at h2 ⊢; exact any_in hd hout f _ a w h2
    | some o =>
      simp only [ho] at h2 ⊢
      by_cases hw : Region.wanted o (yielded ops a.tmps) = true
      · rw [if_pos hw] at h2 ⊢
        rcases h2 with h2 | h2
        · exact Oper.wpIn_mono (fun a' w' h' => any_in hd hout f _ a' w' h') (oper_in (hd i o ho) h2)
        · exact absurd h2.2 hout
      · rw [if_neg hw] at h2 ⊢
        exact ⟨fun _ _ => trivial, any_in hd hout f _ _ w h2⟩
theorem list_in {l m : Nat} {P : Program} {ops : Array Oper} {Q : Exit → Act → World → Prop} (hout : ¬ LetsOut Q) :
    ∀ (L : List Oper), (∀ o ∈ L, isDefer o.op = false) → ∀ (a : Act) (w : World), wpList P ops Q L a w → wpListIn (Fence.wide.inRound l) m P ops Q L a w
  | [], _, _, _, h => h
  | o :: L, hd, a, w, h => by
    unfold wpList at h
    unfold wpListIn
    by_cases hw : Region.wanted o (yielded ops a.tmps) = true
    · rw [if_pos hw] at h ⊢
      rcases h with h | h
      · exact Oper.wpIn_mono (fun a' w' h' => list_in hout L (fun o ho => hd o (by simp [ho])) a' w' h') (oper_in (hd o (by simp)) h)
      · exact absurd h.2 hout
    · rw [if_neg hw] at h ⊢
      exact ⟨fun _ _ => trivial, list_in hout L (fun o ho => hd o (by simp [ho])) _ w h⟩
/-- a region in a round -/
theorem rf_region {l m id : Nat} {P : Program} {L : List Oper} {Q : Exit → Act → World → Prop} {a : Act} {w : World} (hd : L.all (fun o => !isDefer o.op) = true) (hout : ¬ LetsOut Q) (h : wpList P L.toArray Q L a w) :
    (Code.region id L.toArray false).wpIn (Fence.wide.inRound l) m P Q a w :=
  wpIn_region_list (by simpa using list_in hout L (fun o ho => by simpa using List.all_eq_true.1 hd o ho) a w h)
/-- a region in a round that draws its order: all but a tail leave the world alone -/
theorem rf_tail {l m id : Nat} {P : Program} {L : List Oper} {Q : Exit → Act → World → Prop} {a : Act} {w : World} (n : Nat) (hm : P.follows .mixedOrders = true) (hB : Region.lexTailB .any L.toArray n = true)
    (hd : L.all (fun o => !isDefer o.op) = true) (hout : ¬ LetsOut Q) (h : wpStill P L.toArray w.drew (fun a' => wpList P L.toArray Q (L.drop n) a' w.drew) (L.take n) a) :
    (Code.region id L.toArray true).wpIn (Fence.wide.inRound l) m P Q a w := by
  refine wpIn_region_any hm (any_in (fun i o ho => ?_) hout _ _ _ _ ?_)
  · have : o ∈ L := by have := Array.mem_of_getElem? ho; simpa using this
    simpa using List.all_eq_true.1 hd o this
  · simp only [Region.lexTailB, Bool.and_eq_true, decide_eq_true_eq] at hB
    obtain ⟨⟨⟨⟨hsel, hn⟩, hs⟩, hc⟩, hlex⟩ := hB
    have hn' : n < L.length := by simpa using hn
    have hl1 : (L.take n).length = n := by simp; omega
    have hl2 : (L.drop n).length = L.toArray.size - n := by simp
    have inv : HeadInv .any L.toArray n (Array.replicate L.toArray.size false) :=
      ⟨by simp, fun _ _ _ hl => (by rw [getD_replicate_false] at hl; cases hl), fun t _ ht => getD_in (by simpa using ht) (getD_replicate_false _ _)⟩
    have H := wpAnyL_lex (md := .any) (g := L.toArray.size - n) hsel hs hc hn (L.take n) 0 _ a (fun j hj => by rw [hl1] at hj; simp [hj]) (by simpa using hl1) inv (by rw [hl1]; exact hlex) h
    have H2 := wpAny_of_head (Q' := Q) (g := L.toArray.size - n) (fun listed a' hL => by
      have := wpAny_of_seq (md := .any) (Q' := Q) (L.drop n) n listed a' w.drew (fun j => by simp [List.getElem?_drop]) (by rw [hl2]; exact hL.1) hL.2
      rwa [hl2] at this) _ _ _ H
    rw [hl1, show n + (L.toArray.size - n) = L.toArray.size by omega] at H2
    exact H2
theorem rfPost_out {P : Program} {l : Nat} {r : LoopState → Option Code → Loop} {R : Ending → World → Prop} : ¬ LetsOut (rfPost P l r R) := fun ⟨_, _, h⟩ => h
theorem inBlock_out {id : Nat} {Q : Exit → Act → World → Prop} (h : ¬ LetsOut Q) : ¬ LetsOut (Exit.inBlock id Q) := fun ⟨a, w, hh⟩ => h ⟨a, w, hh⟩
theorem then_out {K : Act → World → Prop} {Q : Exit → Act → World → Prop} (h : ¬ LetsOut Q) : ¬ LetsOut (Exit.then K Q) := fun ⟨a, w, hh⟩ => h ⟨a, w, hh⟩
end Go.Proofs.Ytbofjdckmkifaaa

