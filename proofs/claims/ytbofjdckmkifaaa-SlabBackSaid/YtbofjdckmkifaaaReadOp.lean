/-
  A call, and what is grown back, that came in by value. No condition.
-/
import Derived.Test.YtbofjdckmkifaaaReadOps
namespace Go.Proofs.Ytbofjdckmkifaaa
open Go.RowKit Go.ChangeShapes Go.WideShapes Go.Deep Go.Joins

def opVal (v : OpV) : Value := .agg #[.int .i64 v.kind, .int .i64 v.at_, .int .i64 v.i, .int .i64 v.n, .slice v.al v.low.length v.cl, .slice v.ah v.high.length v.ch]
structure OpIs (w : World) (v : OpV) : Prop where
  rl : IR .i64 w v.al v.low
  rh : IR .i64 w v.ah v.high
  n_ : (Lit.int .i64 v.n).wf = true
  l1 : v.low.length ≤ 9223372036854775807
  l2 : v.high.length ≤ 9223372036854775807
section
variable {H : Type} {enc : TypeId × Value → H} {w : World} {sp : Nat → Bool}
theorem array6 {cs : Array Value} {c0 c1 c2 c3 c4 c5 : Value} (hs : cs.size = 6) (h0 : cs[0]? = some c0) (h1 : cs[1]? = some c1) (h2 : cs[2]? = some c2) (h3 : cs[3]? = some c3) (h4 : cs[4]? = some c4) (h5 : cs[5]? = some c5) : cs = #[c0, c1, c2, c3, c4, c5] := by
  apply Array.ext'
  apply List.ext_getElem?
  intro i
  rw [Array.getElem?_toList]
  match i with
  | 0 => simpa using h0
  | 1 => simpa using h1
  | 2 => simpa using h2
  | 3 => simpa using h3
  | 4 => simpa using h4
  | 5 => simpa using h5
  | n + 6 => rw [Array.getElem?_eq_none (by omega)]; simp
set_option maxRecDepth 100000 in
theorem open_op {r : Reach} {b0 : Nat} {v : Value} {d : DataW H} {p : List MemPlace} (hv : Value.okWide Try.prog w r b0 34 v) (h : DataW.Trod enc Try.prog w 0 sp true 34 v d p) :
    ∃ x : OpV, v = opVal x ∧ OpIs w x := by
  obtain ⟨fs, hfs, hone, hC, h6, hty⟩ := oneOp
  obtain ⟨cs, rfl, hsz, hi⟩ := open_agg_any hfs hone hC hv h
  have G : ∀ j (hj : j < 6) (T : TypeId), (fs.toList.map (·.type))[j]? = some T → ∃ (c : Value) (y : DataW H × List MemPlace) (n : Nat), cs[j]? = some c ∧ DataW.trod enc Try.prog w 0 sp true n T [c] = some y := fun j hj T hT => by
    rw [List.getElem?_map, Array.getElem?_toList, Array.getElem?_eq_getElem (by omega)] at hT
    cases hT
    exact hi j _ (Array.getElem?_eq_getElem (by omega))
  rw [hty] at G
  obtain ⟨c0, y0, n0, k0, t0⟩ := G 0 (by omega) _ rfl
  obtain ⟨c1, y1, n1, k1, t1⟩ := G 1 (by omega) _ rfl
  obtain ⟨c2, y2, n2, k2, t2⟩ := G 2 (by omega) _ rfl
  obtain ⟨c3, y3, n3, k3, t3⟩ := G 3 (by omega) _ rfl
  obtain ⟨c4, y4, n4, k4, t4⟩ := G 4 (by omega) _ rfl
  obtain ⟨c5, y5, n5, k5, t5⟩ := G 5 (by omega) _ rfl
  obtain ⟨v0, rfl, w0⟩ := read_int Try.underlying3 t0
  obtain ⟨v1, rfl, w1⟩ := read_int Try.underlying3 t1
  obtain ⟨v2, rfl, w2⟩ := read_int Try.underlying3 t2
  obtain ⟨v3, rfl, w3⟩ := read_int Try.underlying3 t3
  obtain ⟨al, cl, low, rfl, ll, rl, -⟩ := read_i t4
  obtain ⟨ah, ch, high, rfl, lh, rh, -⟩ := read_i t5
  refine ⟨⟨v0, v1, v2, v3, low, high, al, cl, ah, ch⟩, ?_, rl, rh, w3, ll, lh⟩
  rw [array6 (hsz.trans h6) k0 k1 k2 k3 k4 k5]; rfl
end
end Go.Proofs.Ytbofjdckmkifaaa
