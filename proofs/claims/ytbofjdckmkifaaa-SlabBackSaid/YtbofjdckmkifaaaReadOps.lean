/-
  A script of calls that came in reads as one. No condition.
-/
import Derived.Test.YtbofjdckmkifaaaFields
import Derived.Test.YtbofjdckmkifaaaOps
namespace Go.Proofs.Ytbofjdckmkifaaa
open Go.RowKit Go.ChangeShapes Go.WideShapes Go.Deep Go.Joins
section
variable {H : Type} {enc : TypeId × Value → H} {w : World} {sp : Nat → Bool}
theorem cellsI : Try.prog.cellsOf 3 = 1 := by kernel_rfl
theorem read_int {t : TypeId} {v : Value} {m : Nat} {x : DataW H × List MemPlace} {k : IntKind} (ht : Try.prog.underlying t = some (.int k)) (h : DataW.trod enc Try.prog w 0 sp true m t [v] = some x) :
    ∃ n, v = .int k n ∧ (Lit.int k n).wf = true := by
  obtain ⟨n, hcs, -, hw⟩ := DataW.trod_int ht h
  cases hcs; exact ⟨n, rfl, hw⟩
theorem read_i {v : Value} {m : Nat} {x : DataW H × List MemPlace} (h : DataW.trod enc Try.prog w 0 sp true m 30 [v] = some x) :
    ∃ (a : Option Addr) (c : Nat) (xs : List Int), v = .slice a xs.length c ∧ xs.length ≤ 9223372036854775807 ∧ IR .i64 w a xs ∧ ∀ k, (Lit.int .i64 (rd xs k)).wf = true :=
  read_ints Try.underlying30 Try.underlying3 cellsI h
theorem oneOp : ∃ fs, Try.prog.underlying 34 = some (.struct fs) ∧ oneCellFields Try.prog fs = true ∧ Try.prog.cellsOf 34 = fs.size ∧ fs.size = 6 ∧
    (fs.toList.map (·.type)) = [3, 3, 3, 3, 30, 30] :=
  ⟨_, Try.underlying34, by kernel_rfl, by kernel_rfl, rfl, rfl⟩
theorem read_script {v : Value} {m : Nat} {x : DataW H × List MemPlace} (h : DataW.trod enc Try.prog w 0 sp true m 22 [v] = some x) :
    ∃ (a : Option Addr) (len cap : Nat), v = .slice a len cap ∧ len ≤ 9223372036854775807 ∧ Script w a len := by
  obtain ⟨fs, hfs, hone, hC, h6, hty⟩ := oneOp
  rcases open_slice_fields Try.underlying22 hfs hone hC h with hcs | ⟨a, len, cap, hcs, hl, hm, hi⟩
  · cases hcs; exact ⟨none, 0, 0, rfl, by omega, fun j hj => by omega⟩
  · cases hcs
    refine ⟨some a, len, cap, rfl, by unfold maxLen at hm; omega, fun i hil => ?_⟩
    have F : ∀ j (hj : j < 6), ∃ f : Field, fs[j]? = some f ∧ (fs.toList.map (·.type))[j]? = some f.type := fun j hj => by
      refine ⟨fs[j]'(by omega), Array.getElem?_eq_getElem (by omega), ?_⟩
      rw [List.getElem?_map, Array.getElem?_toList, Array.getElem?_eq_getElem (by omega)]; rfl
    have G : ∀ j (hj : j < 6) (T : TypeId), (fs.toList.map (·.type))[j]? = some T → ∃ (c : Value) (y : DataW H × List MemPlace) (n : Nat), w.cell? (a.add (i * 6 + j)) = some c ∧ DataW.trod enc Try.prog w 0 sp true n T [c] = some y := fun j hj T hT => by
      obtain ⟨f, hf, hft⟩ := F j hj
      rw [hft] at hT; cases hT
      have := hi i hil j f hf
      rwa [h6] at this
    rw [hty] at G
    obtain ⟨c0, y0, n0, k0, t0⟩ := G 0 (by omega) _ rfl
    obtain ⟨c1, y1, n1, k1, t1⟩ := G 1 (by omega) _ rfl
    obtain ⟨c2, y2, n2, k2, t2⟩ := G 2 (by omega) _ rfl
    obtain ⟨c3, y3, n3, k3, t3⟩ := G 3 (by omega) _ rfl
    obtain ⟨c4, y4, n4, k4, t4⟩ := G 4 (by omega) _ rfl
    obtain ⟨c5, y5, n5, k5, t5⟩ := G 5 (by omega) _ rfl
    obtain ⟨v0, rfl, w0⟩ := read_int Try.underlying3 t0
    obtain ⟨v1, rfl, w1⟩ := read_int Try.underlying3 t1
    obtain ⟨v2, rfl, w2⟩ := read_int Try.underlying3 t2
    obtain ⟨v3, rfl, w3⟩ := read_int Try.underlying3 t3
    obtain ⟨al, cl, low, rfl, ll, rl, -⟩ := read_i t4
    obtain ⟨ah, ch, high, rfl, lh, rh, -⟩ := read_i t5
    have hs : a.spot = none := by
      have := World.cell?_spot k0
      unfold Addr.add at this
      split at this
      · exact this
      · rename_i hne
        obtain ⟨c, y, n, kk, -⟩ := hi 0 (by omega) 0 (fs[0]'(by omega)) (Array.getElem?_eq_getElem (by omega))
        have := World.cell?_spot kk
        simpa [Addr.add] using this
    have hb : a = ⟨a.block, a.off, none⟩ := by
      obtain ⟨b, o, s⟩ := a
      simpa using hs
    rw [hb] at k0 k1 k2 k3 k4 k5
    rw [Addr.add_lit] at k0 k1 k2 k3 k4 k5
    exact ⟨a.block, a.off, ⟨v0, v1, v2, v3, low, high, al, cl, ah, ch⟩, by rw [← hb], ⟨k0, k1, k2, k3, k4, k5, rl, rh, w3, ll, lh⟩⟩
end
end Go.Proofs.Ytbofjdckmkifaaa
