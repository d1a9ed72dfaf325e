/-
  A map[int]bool of one's own as a set of numbers. Condition: what is in it is at most a million.
-/
import Derived.Test.YtbofjdckmkifaaaMem
import Derived.Maps.Own
import Derived.Maps.OwnSet
import Derived.Maps.Views
import Derived.Maps.Keyed
namespace Go.Proofs.Ytbofjdckmkifaaa
open Go.RowKit Go.Maps

theorem keyI : Keyed Try.prog 3 := int_keyed Try.underlying3
theorem plain_bool_inv {H : Type} {P : Program} {e : TypeId} (he : P.underlying e = some .bool) {v : Value} {z : DataW H × List MemPlace} (h : plainElem P e v = some z) : ∃ x, v = .bool x ∧ z = (.lit (.bool x), []) := by
  unfold plainElem at h
  rw [he] at h
  cases v <;> simp at h
  exact ⟨_, rfl, h.symm⟩

/-- block b of W is the set S -/
def BS (W : World) (b : Nat) (S : List Int) : Prop := ∃ (D : DataW Unit) (n : Nat), W.ownsMap Try.prog 3 (plainElem Try.prog 4) b n D ∧ n ≤ S.length ∧
  ∀ x : Int, D.atKey (.int .i64 x) (.lit (.bool false)) = .lit (.bool (decide (x ∈ S)))
theorem BS.made (w : World) : BS (w.alloc (.map #[] 0)) w.heap.size [] :=
  ⟨.map [], 0, World.ownsMap_made w _ _ _, Nat.le_refl _, fun x => by simp [DataW.atKey]⟩
theorem BS.lt {W : World} {b : Nat} {S : List Int} (h : BS W b S) : b < W.heap.size := by
  obtain ⟨D, n, h, _⟩ := h; exact h.lt
theorem BS.heap {W W' : World} {b : Nat} {S : List Int} (h : BS W b S) (hb : W'.heap[b]? = W.heap[b]?) : BS W' b S := by
  obtain ⟨D, n, ⟨es, clock, h1, h2⟩, hr⟩ := h
  exact ⟨D, n, ⟨es, clock, hb.trans h1, h2⟩, hr⟩
theorem BS.kp {T : Nat → Prop} {W W' : World} {b : Nat} {S : List Int} (h : BS W b S) (hk : Kp T W W') (hb : ¬ T b) : BS W' b S := h.heap (hk.block b h.lt hb)
theorem BS.nc {W : World} {b : Nat} {S : List Int} (h : BS W b S) {cs : Array Value} {t : TypeId} {f : Nat × Nat} : W.heap[b]? ≠ some (.cells cs t f) := by
  obtain ⟨D, n, ⟨es, clock, h1, h2⟩, hr⟩ := h
  rw [h1]; intro e; cases e
theorem BS.look {W : World} {b : Nat} {S : List Int} (h : BS W b S) (x : Int) (hx : (Lit.int .i64 x).wf = true) :
    (Instr.lookup 90 (.map (some b)) (.int .i64 x) false).run Try.prog W = .ok (.bool (decide (x ∈ S))) W := by
  obtain ⟨D, n, h, _, ha⟩ := h
  obtain ⟨v, ps, hrun, hv⟩ := h.lookup keyI Try.underlying90 (z := .bool false) (by kernel_rfl) (zd := .lit (.bool false)) (zp := []) (plainElem_bool Try.underlying4 false) (keyOf_int_mk Try.underlying3 hx)
  obtain ⟨y, rfl, hy⟩ := plain_bool_inv Try.underlying4 hv
  rw [ha x] at hy
  simp at hy
  rw [hrun, ← hy.1]
theorem BS.put {W : World} {b : Nat} {S : List Int} (h : BS W b S) (x : Int) (hx : (Lit.int .i64 x).wf = true) (hS : S.length ≤ 1000000) :
    ∃ W', (Instr.mapUpdate 90 (.map (some b)) (.int .i64 x) (.bool true)).run Try.prog W = .ok () W' ∧ BS W' b (S ++ [x]) ∧ Kp (fun k => k = b) W W' := by
  obtain ⟨D, n, h, hn, ha⟩ := h
  obtain ⟨W', hrun, h2, hg⟩ := h.update keyI Try.underlying90 (Nat.lt_of_le_of_lt (Nat.le_trans hn hS) (by decide)) (keyOf_int_mk Try.underlying3 hx) (plainElem_bool Try.underlying4 true)
  refine ⟨W', hrun, ⟨_, n + 1, h2, by simp; exact hn, fun y => ?_⟩, (kp_of_grown hg).mono (fun k hk _ => by cases hk; rfl)⟩
  by_cases e : y = x
  · subst e
    rw [atKey_put_same h.isMap (by simp [WideAt.IsKeyLit])]; simp
  · rw [atKey_put_other (by simp; exact e), ha]
    simp [e]
end Go.Proofs.Ytbofjdckmkifaaa
