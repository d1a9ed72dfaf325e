/-
  The law SlabBack, its argument opened. No condition.
-/
import Derived.Test.YtbofjdckmkifaaaL6
import Derived.Test.YtbofjdckmkifaaaReadOp
namespace Go.Proofs.Ytbofjdckmkifaaa
open Go.RowKit Go.ChangeShapes Go.WideShapes Go.Deep Go.Joins
structure BackV where
  d : Int
  a : Option Addr
  len : Nat
  cap : Nat
  x : Int
  i : Int
def backVal (v : BackV) : Value := .agg #[.int .i64 v.d, .slice v.a v.len v.cap, .int .i64 v.x, .int .i64 v.i]
def BackIs (w : World) (v : BackV) : Prop := v.len ≤ 9223372036854775807 ∧ Script w v.a v.len
section
variable {H : Type} {enc : TypeId × Value → H} {w : World} {sp : Nat → Bool}
theorem array4 {cs : Array Value} {c0 c1 c2 c3 : Value} (hs : cs.size = 4) (h0 : cs[0]? = some c0) (h1 : cs[1]? = some c1) (h2 : cs[2]? = some c2) (h3 : cs[3]? = some c3) : cs = #[c0, c1, c2, c3] := by
  apply Array.ext'
  apply List.ext_getElem?
  intro i
  rw [Array.getElem?_toList]
  match i with
  | 0 => simpa using h0
  | 1 => simpa using h1
  | 2 => simpa using h2
  | 3 => simpa using h3
  | n + 4 => rw [Array.getElem?_eq_none (by omega)]; simp
theorem oneBack : ∃ fs, Try.prog.underlying 49 = some (.struct fs) ∧ oneCellFields Try.prog fs = true ∧ Try.prog.cellsOf 49 = fs.size ∧ fs.size = 4 ∧
    (fs.toList.map (·.type)) = [3, 22, 3, 3] :=
  ⟨_, Try.underlying49, by kernel_rfl, by kernel_rfl, rfl, rfl⟩
set_option maxRecDepth 100000 in
theorem open_back {r : Reach} {b0 : Nat} {v : Value} {d : DataW H} {p : List MemPlace} (hv : Value.okWide Try.prog w r b0 49 v) (h : DataW.Trod enc Try.prog w 0 sp true 49 v d p) :
    ∃ x : BackV, v = backVal x ∧ BackIs w x := by
  obtain ⟨fs, hfs, hone, hC, h6, hty⟩ := oneBack
  obtain ⟨cs, rfl, hsz, hi⟩ := open_agg_any hfs hone hC hv h
  have G : ∀ j (hj : j < 4) (T : TypeId), (fs.toList.map (·.type))[j]? = some T → ∃ (c : Value) (y : DataW H × List MemPlace) (n : Nat), cs[j]? = some c ∧ DataW.trod enc Try.prog w 0 sp true n T [c] = some y := fun j hj T hT => by
    rw [List.getElem?_map, Array.getElem?_toList, Array.getElem?_eq_getElem (by omega)] at hT
    cases hT
    exact hi j _ (Array.getElem?_eq_getElem (by omega))
  rw [hty] at G
  obtain ⟨c0, y0, n0, k0, t0⟩ := G 0 (by omega) _ rfl
  obtain ⟨c1, y1, n1, k1, t1⟩ := G 1 (by omega) _ rfl
  obtain ⟨c2, y2, n2, k2, t2⟩ := G 2 (by omega) _ rfl
  obtain ⟨c3, y3, n3, k3, t3⟩ := G 3 (by omega) _ rfl
  obtain ⟨v0, rfl, w0⟩ := read_int Try.underlying3 t0
  obtain ⟨a, len, cap, rfl, hl, hs⟩ := read_script t1
  obtain ⟨v2, rfl, w2⟩ := read_int Try.underlying3 t2
  obtain ⟨v3, rfl, w3⟩ := read_int Try.underlying3 t3
  refine ⟨⟨v0, a, len, cap, v2, v3⟩, ?_, hl, hs⟩
  rw [array4 (hsz.trans h6) k0 k1 k2 k3]; rfl
end
theorem slabBack_all (w : World) (v : BackV) (o : BackIs w v) : Calls Try.prog 6 #[backVal v] w fun e w' => e = .returned (.bool true) ∧ Nw w w' := by
  obtain ⟨d, a, len, cap, x, i⟩ := v
  by_cases hd : d < 1 ∨ 6 < d
  · exact back_none w d a len cap x i hd o.2 o.1
  · obtain ⟨d', rfl⟩ := Int.eq_ofNat_of_zero_le (show 0 ≤ d by omega)
    exact back_go w d' a len cap x i (by omega) (by omega) o.2 o.1
end Go.Proofs.Ytbofjdckmkifaaa
