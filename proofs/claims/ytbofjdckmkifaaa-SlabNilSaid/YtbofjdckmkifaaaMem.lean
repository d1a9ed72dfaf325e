/-
  What memory keeps: plain lemmas on worlds, for this seat's walks. No condition.
-/
import Derived.Test.YtbofjdckmkifaaaProg
import Derived.WalkKit
import Derived.WalkSpells
import Derived.WalkLawsBesides
import Derived.Deep.QuietTactic
import Derived.Deep.Draws
import Derived.BigQuiet
import Derived.Lib.Hide
import Derived.Maps.AppendAt
import Derived.Deep.OwnRows
namespace Go.Proofs.Ytbofjdckmkifaaa
open Go.RowKit

/-- every block outside S lies as it lay -/
structure Kp (S : Nat → Prop) (w w' : World) : Prop where
  os : w'.os = w.os
  tape : w'.tape = w.tape
  output : w'.output = w.output
  size : w.heap.size ≤ w'.heap.size
  block : ∀ k, k < w.heap.size → ¬ S k → w'.heap[k]? = w.heap[k]?

/-- nothing that lay has turned -/
abbrev Nw (w w' : World) : Prop := Below w.heap.size w w'

theorem Kp.refl (S : Nat → Prop) (w : World) : Kp S w w := ⟨rfl, rfl, rfl, Nat.le_refl _, fun _ _ _ => rfl⟩
theorem Kp.trans {S T : Nat → Prop} {w w1 w2 : World} (h : Kp S w w1) (k : Kp T w1 w2) (hT : ∀ b, T b → b < w.heap.size → S b) : Kp S w w2 :=
  ⟨k.os.trans h.os, k.tape.trans h.tape, k.output.trans h.output, Nat.le_trans h.size k.size,
    fun i hi hs => (k.block i (Nat.lt_of_lt_of_le hi h.size) (fun ht => hs (hT i ht hi))).trans (h.block i hi hs)⟩
theorem Kp.mono {S T : Nat → Prop} {w w' : World} (h : Kp S w w') (hT : ∀ b, S b → b < w.heap.size → T b) : Kp T w w' :=
  ⟨h.os, h.tape, h.output, h.size, fun i hi ht => h.block i hi (fun hs => ht (hT i hs hi))⟩
theorem Kp.below {S : Nat → Prop} {B : Nat} {w w' : World} (h : Kp S w w') (hS : ∀ b, S b → B ≤ b) (hB : B ≤ w.heap.size) : Below B w w' :=
  ⟨h.os, h.tape, h.output, h.size, fun i hi => h.block i (by omega) (fun hs => by have := hS i hs; omega)⟩
theorem Kp.nw {w w' : World} (h : Kp (fun _ => False) w w') : Nw w w' := h.below (fun _ h => h.elim) (Nat.le_refl _)
theorem kp_of_nw {w w' : World} (h : Nw w w') (S : Nat → Prop) : Kp S w w' := ⟨h.os, h.tape, h.output, h.size, fun i hi _ => h.block i hi⟩
theorem kp_of_below {B : Nat} {w w' : World} (h : Below B w w') : Kp (fun k => B ≤ k) w w' := ⟨h.os, h.tape, h.output, h.size, fun i _ hn => h.block i (by omega)⟩
theorem kp_of_grown {w w' : World} {row : Option Nat} (h : w.grownBy w' row) : Kp (fun k => row = some k) w w' := ⟨h.os, h.tape, h.output, h.size, fun i hi hn => h.block i hi (fun e => hn e.symm)⟩
theorem Kp.alloc {S : Nat → Prop} {w w1 : World} (h : Kp S w w1) (o : Obj) : Kp S w (w1.alloc o) :=
  ⟨h.os, h.tape, h.output, Nat.le_trans h.size (by simp), fun i hi hs => (Below.heap_alloc _ _ _ (Nat.lt_of_lt_of_le hi h.size)).trans (h.block i hi hs)⟩
theorem Kp.drew {S : Nat → Prop} {w w1 : World} (h : Kp S w w1) : Kp S w w1.drew := ⟨h.os, h.tape, h.output, h.size, h.block⟩
theorem Kp.drewN {S : Nat → Prop} {w w1 : World} (h : Kp S w w1) (n : Nat) : Kp S w (w1.drewN n) := ⟨h.os, h.tape, h.output, h.size, h.block⟩
theorem Kp.setCell {S : Nat → Prop} {w w1 : World} (h : Kp S w w1) {p : Addr} (hp : p.block < w.heap.size → S p.block) (u : Value) : Kp S w (w1.setCell p u) :=
  ⟨h.os, h.tape, h.output, by simpa [World.setCell] using h.size, fun i hi hs => (Below.heap_setCell _ _ _ _ (fun e => by subst e; exact hs (hp hi))).trans (h.block i hi hs)⟩
theorem Kp.grown {S : Nat → Prop} {w w1 w2 : World} (h : Kp S w w1) {row : Option Nat} (hg : w1.grownBy w2 row) (hr : ∀ k, row = some k → k < w.heap.size → S k) : Kp S w w2 :=
  h.trans (kp_of_grown hg) hr
theorem Kp.nwd {S : Nat → Prop} {w w1 w2 : World} (h : Kp S w w1) (k : Nw w1 w2) : Kp S w w2 := h.trans (kp_of_nw k (fun _ => False)) (fun _ h => h.elim)
theorem Kp.blk {S : Nat → Prop} {w w' : World} (h : Kp S w w') {b : Nat} {o : Obj} (hb : w.heap[b]? = some o) (hs : ¬ S b) : w'.heap[b]? = some o :=
  (h.block b (Array.getElem?_eq_some_iff.1 hb).1 hs).trans hb
theorem Kp.cell {S : Nat → Prop} {w w' : World} (h : Kp S w w') {a : Addr} {v : Value} (hc : w.cell? a = some v) (hs : ¬ S a.block) : w'.cell? a = some v :=
  (World.cell?_of_block (h.block a.block (World.block_lt_of_cell? w a hc) hs)).trans hc
theorem Kp.own {S : Nat → Prop} {w w' : World} (h : Kp S w w') {base : Nat} {e : TypeId} {size n : Nat} {v : Value} {xs : List Value} (ho : w.ownsRow base e size v n xs) (hs : ∀ b, v.ownBlock = some b → ¬ S b) : w'.ownsRow base e size v n xs := by
  refine ⟨ho.1, ?_⟩
  rcases ho.2 with hn | ⟨g, cap, cur, rfl, hb, hgg, rest⟩
  · exact .inl hn
  · exact .inr ⟨g, cap, cur, rfl, hb, h.blk hgg (hs g rfl), rest⟩
theorem nw_own {w w' : World} (h : Nw w w') {base : Nat} {e : TypeId} {size n : Nat} {v : Value} {xs : List Value} (ho : w.ownsRow base e size v n xs) : w'.ownsRow base e size v n xs :=
  (kp_of_nw h (fun _ => False)).own ho (fun _ _ h => h)
theorem nw_blk {w w' : World} (h : Nw w w') {b : Nat} {o : Obj} (hb : w.heap[b]? = some o) : w'.heap[b]? = some o := (kp_of_nw h (fun _ => False)).blk hb (fun h => h)
theorem nw_cell {w w' : World} (h : Nw w w') {a : Addr} {v : Value} (hc : w.cell? a = some v) : w'.cell? a = some v := (kp_of_nw h (fun _ => False)).cell hc (fun h => h)
theorem nw_trans {a b c : World} (h : Nw a b) (k : Nw b c) : Nw a c := Below.trans h (k.mono h.size)
theorem nw_drewN (w : World) (n : Nat) : Nw w (w.drewN n) := ⟨rfl, rfl, rfl, Nat.le_refl _, fun _ _ => rfl⟩
theorem nw_alloc (w : World) (o : Obj) : Nw w (w.alloc o) := (Below.refl _ w).alloc (Nat.le_refl _) o
theorem own_lt {w : World} {base : Nat} {e : TypeId} {size n : Nat} {v : Value} {xs : List Value} (ho : w.ownsRow base e size v n xs) {b : Nat} (hb : v.ownBlock = some b) : b < w.heap.size := (ho.lt b hb).2
theorem own_ge {w : World} {base : Nat} {e : TypeId} {size n : Nat} {v : Value} {xs : List Value} (ho : w.ownsRow base e size v n xs) {b : Nat} (hb : v.ownBlock = some b) : base ≤ b := (ho.lt b hb).1
theorem own_base {w : World} {base : Nat} {e : TypeId} {size n : Nat} {v : Value} {xs : List Value} (ho : w.ownsRow base e size v n xs) (base' : Nat) (hb : ∀ b, v.ownBlock = some b → base' ≤ b) : w.ownsRow base' e size v n xs := by
  refine ⟨ho.1, ?_⟩
  rcases ho.2 with hn | ⟨g, cap, cur, rfl, _, hgg, rest⟩
  · exact .inl hn
  · exact .inr ⟨g, cap, cur, rfl, hb g rfl, hgg, rest⟩

/-! ### whole numbers in a slice -/
def rd (xs : List Int) (i : Nat) : Int := xs.getD i 0
theorem getD_rd (xs : List Int) (i : Nat) : xs.getD i 0 = rd xs i := rfl
theorem rd_eq (xs : List Int) (i : Nat) : rd xs i = xs[i]?.getD 0 := by simp [rd, List.getD_eq_getElem?_getD]
def iv (k : IntKind) (xs : List Int) : List Value := xs.map (Value.int k)
@[simp] theorem iv_length (k : IntKind) (xs : List Int) : (iv k xs).length = xs.length := by simp [iv]
theorem iv_get (k : IntKind) (xs : List Int) {j : Nat} (hj : j < xs.length) : (iv k xs)[j]? = some (.int k (rd xs j)) := by
  simp [iv, List.getElem?_eq_getElem hj, rd_eq]
/-- the slice at a (length n) reads as the numbers xs -/
def IR (k : IntKind) (w : World) (a : Option Addr) (xs : List Int) : Prop :=
  ∀ j, j < xs.length → ∃ b o, a = some ⟨b, o, none⟩ ∧ w.cell? ⟨b, o + j, none⟩ = some (.int k (rd xs j))
theorem IR_nil (k : IntKind) (w : World) (a : Option Addr) : IR k w a [] := fun j hj => absurd hj (by simp)
theorem IR_some {k : IntKind} {w : World} {a : Option Addr} {xs : List Int} (h : IR k w a xs) (h0 : 0 < xs.length) : ∃ b o, a = some ⟨b, o, none⟩ ∧ ∀ j, j < xs.length → w.cell? ⟨b, o + j, none⟩ = some (.int k (rd xs j)) := by
  obtain ⟨b, o, rfl, _⟩ := h 0 h0
  exact ⟨b, o, rfl, fun j hj => by obtain ⟨b', o', e, hc⟩ := h j hj; cases e; exact hc⟩
theorem IR.mk {k : IntKind} {w : World} {b o : Nat} {xs : List Int} (h : ∀ j, j < xs.length → w.cell? ⟨b, o + j, none⟩ = some (.int k (rd xs j))) : IR k w (some ⟨b, o, none⟩) xs := fun j hj => ⟨b, o, rfl, h j hj⟩
theorem IR.kp {k : IntKind} {S : Nat → Prop} {w w' : World} {a : Option Addr} {xs : List Int} (h : IR k w a xs) (hk : Kp S w w') (hs : ∀ d, a = Option.some d → ¬ S d.block) : IR k w' a xs :=
  fun j hj => by obtain ⟨b, o, rfl, hc⟩ := h j hj; exact ⟨b, o, rfl, hk.cell hc (hs ⟨b, o, none⟩ rfl)⟩
theorem IR.nw {k : IntKind} {w w' : World} {a : Option Addr} {xs : List Int} (h : IR k w a xs) (hk : Nw w w') : IR k w' a xs :=
  fun j hj => by obtain ⟨b, o, rfl, hc⟩ := h j hj; exact ⟨b, o, rfl, nw_cell hk hc⟩
theorem IR.below {k : IntKind} {B : Nat} {w w' : World} {a : Option Addr} {xs : List Int} (h : IR k w a xs) (hk : Below B w w') (hs : ∀ d, a = Option.some d → d.block < B) : IR k w' a xs :=
  fun j hj => by obtain ⟨b, o, rfl, hc⟩ := h j hj; exact ⟨b, o, rfl, (hk.cell (p := ⟨b, o + j, none⟩) (hs ⟨b, o, none⟩ rfl)).trans hc⟩
theorem IR.lt {k : IntKind} {w : World} {a : Option Addr} {xs : List Int} (h : IR k w a xs) (h0 : 0 < xs.length) {d : Addr} (hd : a = Option.some d) : d.block < w.heap.size := by
  obtain ⟨b, o, rfl, hc⟩ := h 0 h0
  cases hd
  exact World.block_lt_of_cell? w _ hc
theorem IR.take {k : IntKind} {w : World} {a : Option Addr} {xs : List Int} (h : IR k w a xs) (n : Nat) : IR k w a (xs.take n) := fun j hj => by
  have hj' : j < n ∧ j < xs.length := by simp at hj; omega
  obtain ⟨b, o, rfl, hc⟩ := h j hj'.2
  refine ⟨b, o, rfl, ?_⟩
  rw [hc]; simp [rd_eq, hj'.1]
theorem IR.drop {k : IntKind} {w : World} {b o : Nat} {xs : List Int} (h : IR k w (Option.some ⟨b, o, none⟩) xs) (n : Nat) : IR k w (Option.some ⟨b, o + n, none⟩) (xs.drop n) := fun j hj => by
  simp at hj
  obtain ⟨b', o', e, hc⟩ := h (n + j) (by omega)
  cases e
  refine ⟨_, _, rfl, ?_⟩
  rw [show o + n + j = o + (n + j) by omega, hc]; simp [rd_eq]
/-- what is owned is read -/
theorem own_IR {k : IntKind} {w : World} {base : Nat} {e : TypeId} {v : Value} {xs : List Int} (h : w.ownsRow base e 1 v xs.length (iv k xs)) :
    ∃ a c, v = .slice a xs.length c ∧ xs.length ≤ c ∧ c ≤ 9223372036854775807 ∧ IR k w a xs ∧ (∀ d, a = some d → d.spot = none ∧ d.off = 0 ∧ v.ownBlock = some d.block ∧ base ≤ d.block ∧ d.block < w.heap.size) := by
  rcases h.2 with ⟨rfl, h0⟩ | ⟨g, cap, cur, rfl, hb, hg, hn, hm, hs, ht⟩
  · exact ⟨none, 0, by rw [h0], by omega, by omega, fun j hj => absurd hj (by omega), fun d hd => by cases hd⟩
  · refine ⟨_, cap, rfl, hn, by simp only [maxLen] at hm; omega, ?_, fun d hd => by cases hd; exact ⟨rfl, rfl, rfl, hb, (Array.getElem?_eq_some_iff.1 hg).1⟩⟩
    refine IR.mk fun j hj => ?_
    have hc := h.cells (g := g) rfl j _ (iv_get k xs hj)
    rw [Addr.add_lit] at hc
    exact hc
theorem own_form {w : World} {base : Nat} {e : TypeId} {v : Value} {xs : List Value} (h : w.ownsRow base e 1 v xs.length xs) (h0 : 0 < xs.length) :
    ∃ g c cur, v = .slice (some ⟨g, 0, none⟩) xs.length c ∧ w.heap[g]? = some (.cells cur e (0, 0)) ∧ xs.length ≤ c ∧ cur.size = c ∧ cur.toList.take xs.length = xs ∧ base ≤ g := by
  rcases h.2 with ⟨_, h1⟩ | ⟨g, cap, cur, rfl, hb, hg, hn, hm, hs, ht⟩
  · omega
  · exact ⟨g, cap, cur, rfl, hg, hn, by simpa using hs, by simpa using ht, hb⟩

/-! ### a block of several cells: a struct behind a pointer -/
theorem blk_cell {w : World} {g : Nat} {t : TypeId} {cs : Array Value} {f : Nat × Nat} (h : w.heap[g]? = some (.cells cs t f)) (i : Nat) : w.cell? ⟨g, i, none⟩ = cs[i]? := cell_of_row w g i cs t f h
theorem blk_frozen {w : World} {g : Nat} {t : TypeId} {cs : Array Value} (h : w.heap[g]? = some (.cells cs t (0, 0))) (i : Nat) : w.frozen? ⟨g, i, none⟩ = false := by simp [World.frozen?, h]
theorem blk_set {w : World} {g : Nat} {t : TypeId} {cs : Array Value} {f : Nat × Nat} (h : w.heap[g]? = some (.cells cs t f)) (i : Nat) (u : Value) : (w.setCell ⟨g, i, none⟩ u).heap[g]? = some (.cells (cs.setIfInBounds i u) t f) := by
  obtain ⟨hlt, hk⟩ := Array.getElem?_eq_some_iff.1 h
  show (w.heap.modify g _)[g]? = _
  rw [Array.getElem?_eq_getElem (by rw [Array.size_modify]; exact hlt), Array.getElem_modify_self, hk]
  rfl
theorem blk_far {w : World} {g : Nat} {o : Obj} (h : w.heap[g]? = some o) {p : Addr} (hp : g ≠ p.block) (u : Value) : (w.setCell p u).heap[g]? = some o := (Below.heap_setCell w p u g hp).trans h
theorem blk_lt {w : World} {g : Nat} {o : Obj} (h : w.heap[g]? = some o) : g < w.heap.size := (Array.getElem?_eq_some_iff.1 h).1
theorem blk_alloc {w : World} {g : Nat} {o : Obj} (h : w.heap[g]? = some o) (o' : Obj) : (w.alloc o').heap[g]? = some o := (Below.heap_alloc w o' g (blk_lt h)).trans h
theorem blk_new (w : World) (o : Obj) : (w.alloc o).heap[w.heap.size]? = some o := heap_alloc_new w o
theorem own_set {w : World} {base : Nat} {e : TypeId} {size n : Nat} {v : Value} {xs : List Value} (h : w.ownsRow base e size v n xs) {p : Addr} (hp : v.ownBlock ≠ some p.block) (u : Value) : (w.setCell p u).ownsRow base e size v n xs :=
  ((Kp.refl (fun k => k = p.block) w).setCell (p := p) (fun _ => rfl) u).own h (fun b hb e => hp (e ▸ hb))
/-- a store into an owned row of one-cell elements -/
theorem own_store {w : World} {base : Nat} {e : TypeId} {g n c : Nat} {xs : List Value} (h : w.ownsRow base e 1 (.slice (some ⟨g, 0, none⟩) n c) n xs) (i : Nat) (u : Value) : (w.setCell ⟨g, i, none⟩ u).ownsRow base e 1 (.slice (some ⟨g, 0, none⟩) n c) n (xs.set i u) := by
  refine ⟨by simpa using h.1, ?_⟩
  rcases h.2 with ⟨h0, _⟩ | ⟨g', cap, cur, hv, hb, hg, hn, hm, hs, ht⟩
  · cases h0
  · cases hv
    refine .inr ⟨g, c, cur.setIfInBounds i u, rfl, hb, blk_set hg i u, hn, hm, by simpa using hs, ?_⟩
    rw [← ht]
    simp [List.take_set]
theorem own_ne_blk {w : World} {base : Nat} {e t : TypeId} {size n : Nat} {v : Value} {xs : List Value} (h : w.ownsRow base e size v n xs) {b : Nat} {cs : Array Value} (hb : w.heap[b]? = some (.cells cs t (0, 0))) (hne : e ≠ t) : v.ownBlock ≠ some b := by
  intro hv
  rcases h.2 with ⟨rfl, _⟩ | ⟨g, cap, cur, rfl, _, hg, _⟩
  · simp [Value.ownBlock] at hv
  · have : g = b := by simpa [Value.ownBlock] using hv
    subst this
    rw [hg] at hb; injection hb with hb; injection hb with _ ht; exact hne ht

theorem own_cell {w : World} {base : Nat} {e : TypeId} {g n c m : Nat} {k : IntKind} {xs : List Int} (h : w.ownsRow base e 1 (.slice (some ⟨g, 0, none⟩) n c) m (iv k xs)) {j : Nat} (hj : j < xs.length) : w.cell? ⟨g, j, none⟩ = some (.int k (rd xs j)) := by
  have hc := h.cells (g := g) rfl j _ (iv_get k xs hj)
  rw [Addr.add_lit, Nat.zero_add] at hc
  exact hc
theorem heap_alloc_if (w : World) (o : Obj) (k : Nat) : (w.alloc o).heap[k]? = if k = w.heap.size then some o else w.heap[k]? := by
  show (w.heap.push o)[k]? = _
  rw [Array.getElem?_push]
theorem own_heap {w w' : World} {base : Nat} {e : TypeId} {size g n c m : Nat} {xs : List Value} (h : w.ownsRow base e size (.slice (some ⟨g, 0, none⟩) n c) m xs) (hh : w'.heap[g]? = w.heap[g]?) : w'.ownsRow base e size (.slice (some ⟨g, 0, none⟩) n c) m xs := by
  refine ⟨h.1, ?_⟩
  rcases h.2 with hn | ⟨g', cap, cur, hv, hb, hgg, rest⟩
  · exact .inl hn
  · cases hv; exact .inr ⟨g, c, cur, rfl, hb, hh.trans hgg, rest⟩
theorem own_rd {w : World} {base : Nat} {e : TypeId} {a : Option Addr} {n c m : Nat} {k : IntKind} {xs : List Int} (h : w.ownsRow base e 1 (.slice a n c) m (iv k xs)) : IR k w a xs := by
  rcases h.2 with ⟨hv, h0⟩ | ⟨g, cap, cur, hv, hb, hg, hn, hm, hs, ht⟩
  · have := h.1; simp at this; intro j hj; omega
  · cases hv
    exact IR.mk fun j hj => by rw [Nat.zero_add]; exact own_cell h hj
theorem own_frozen {w : World} {base : Nat} {e : TypeId} {size g n c m : Nat} {xs : List Value} (h : w.ownsRow base e size (.slice (some ⟨g, 0, none⟩) n c) m xs) (j : Nat) : w.frozen? ⟨g, j, none⟩ = false := by
  rcases h.2 with ⟨h0, _⟩ | ⟨g', cap, cur, hv, _, hgg, _⟩
  · cases h0
  · cases hv; exact blk_frozen hgg j
/-! ### make([]int, n) -/
theorem madeCells_ints (k : IntKind) (m : Nat) : madeCells #[.int k 0] m = (iv k (List.replicate m 0)).toArray := by
  apply Array.ext'
  simp only [madeCells, iv]
  apply List.ext_getElem
  · simp
  · intro i h1 h2
    simp [Nat.mod_one]
theorem run_mk {P : Program} (t e : TypeId) (k : IntKind) (bytes : Nat) (ht : P.underlying t = some (.slice e)) (hinfo : (P.info? e).map (fun i => (i.zero, i.size, i.bytes)) = some (some (.int k 0), 1, bytes)) (hb0 : 0 < bytes)
    (m : Nat) (hn : m * bytes ≤ 281474976710656) :
    ∀ W : World, (Instr.makeSlice t (.int .i64 (m : Int)) (.int .i64 (m : Int))).run P W = .ok (.slice (some ⟨W.heap.size, 0, none⟩) m m) (W.alloc (.cells (iv k (List.replicate m 0)).toArray e)) := by
  intro W
  have hm : m ≤ 281474976710656 := Nat.le_trans (Nat.le_mul_of_pos_right _ hb0) hn
  rw [← madeCells_ints]
  exact run_make_row' t e (.int k 0) bytes ht hinfo rfl .i64 .i64 m (by rw [Nat.mul_comm]; exact hn) (by omega) W
theorem own_of_blk {w : World} {g : Nat} {e : TypeId} {xs : List Value} (h : w.heap[g]? = some (.cells xs.toArray e (0, 0))) (hm : xs.length ≤ 9223372036854775807) : w.ownsRow 0 e 1 (.slice (some ⟨g, 0, none⟩) xs.length xs.length) xs.length xs :=
  ⟨by simp, .inr ⟨g, xs.length, xs.toArray, rfl, Nat.zero_le _, h, Nat.le_refl _, by simp only [maxLen]; omega, by simp, by simp⟩⟩
theorem IR_of_blk {k : IntKind} {w : World} {g : Nat} {e : TypeId} {xs : List Int} {f : Nat × Nat} (h : w.heap[g]? = some (.cells (iv k xs).toArray e f)) : IR k w (some ⟨g, 0, none⟩) xs :=
  IR.mk fun j hj => by rw [blk_cell h, Nat.zero_add]; simpa using iv_get k xs hj
theorem iv_set (k : IntKind) (xs : List Int) (i : Nat) (x : Int) : (iv k xs).toArray.setIfInBounds i (.int k x) = (iv k (xs.set i x)).toArray := by
  simp [iv, List.map_set]
theorem rd_set (xs : List Int) (i j : Nat) (x : Int) (hi : i < xs.length) : rd (xs.set i x) j = if i = j then x else rd xs j := by
  simp only [rd_eq, List.getElem?_set]
  split <;> simp_all
theorem ext_rd {xs ys : List Int} (hl : xs.length = ys.length) (h : ∀ j, j < xs.length → rd xs j = rd ys j) : xs = ys := by
  apply List.ext_getElem hl
  intro j h1 h2
  have := h j h1
  simpa [rd_eq, List.getElem?_eq_getElem h1, List.getElem?_eq_getElem h2] using this
theorem rd_map_range (f : Nat → Int) (n j : Nat) (h : j < n) : rd ((List.range n).map f) j = f j := by simp [rd_eq, h]
theorem rd_nil (xs : List Int) (j : Nat) (h : xs.length ≤ j) : rd xs j = 0 := by simp [rd_eq, List.getElem?_eq_none h]
end Go.Proofs.Ytbofjdckmkifaaa
