/-
  What a law that is true and turns nothing owes; what its arguments read as. No condition.
-/
import Derived.Test.YtbofjdckmkifaaaRows
import Derived.Test.YtbofjdckmkifaaaMem2
import Derived.ProofKit
import Derived.OpenShut
import Derived.Carry
import Derived.Deep.Fields
import Derived.Deep.Slices
namespace Go.Proofs.Ytbofjdckmkifaaa
open Go.RowKit Go.ChangeShapes Go.WideShapes Go.ChangeAt Go.Deep

theorem own0 : ownKnob Try.prog.godebug = none := by kernel_rfl
theorem laidT : laidOutB Try.prog = true := by kernel_rfl
section
variable {H : Type} {enc : TypeId × Value → H} {W W' : World}
theorem trodAll_stays {sp : Nat → Bool} : ∀ (ts : List TypeId) (vs : List Value) (ds : List (DataW H)) (p : List MemPlace), (∀ t ∈ ts, Try.prog.readableRec t = true ∧ t < Try.prog.types.size) →
    DataW.TrodAll enc Try.prog W 0 (fun _ => true) true ts vs ds p → Nw W W' → (∀ x ∈ p, x.block < W.heap.size) → (∀ x ∈ p, sp x.block = true) → DataW.TrodAll enc Try.prog W' 0 sp true ts vs ds p := by
  intro ts
  induction ts with
  | nil => intro vs ds p _ h _ _ _; obtain ⟨rfl, rfl, rfl⟩ := trodAll_nil h; exact trodAll_mk0
  | cons t ts ih =>
    intro vs ds p hr h hb hlt hs
    obtain ⟨v, vs', d, ds', p1, p2, rfl, rfl, rfl, h1, h2⟩ := trodAll_cons h
    have hr1 := hr t (by simp)
    exact trodAll_cons_mk (WideElems.Trod_stays laidT hr1.1 hr1.2 h1 (fun x hx => hb.same (hlt x (by simp [hx]))) (fun x hx => hs x (by simp [hx])))
      (ih vs' ds' p2 (fun t ht => hr t (by simp [ht])) h2 hb (fun x hx => hlt x (by simp [hx])) (fun x hx => hs x (by simp [hx])))
set_option maxRecDepth 100000 in
/-- a law's post -/
theorem law_post {f : Func} {s : ChangeSpec} {args : Array Value} {ds gs : List (DataW H)} {before : List MemPlace}
    (hW : DataW.Whole enc Try.prog f.params.toList s.vars false W args.toList ds gs before) (hr : f.resultTypes = #[4]) (hv : s.vars = [])
    (hp : ∀ t ∈ f.params.toList, Try.prog.readableRec t = true ∧ t < Try.prog.types.size)
    (hs1 : (s.fn H (ds ++ gs)).results = [.lit (.bool true)]) (hs2 : (s.fn H (ds ++ gs)).args = ds) (hs3 : (s.fn H (ds ++ gs)).vars = []) (hb : Nw W W') :
    s.post enc Try.prog f false true false false W args (.bool true) W' := by
  have hlt : ∀ p ∈ before, p.block < W.heap.size := fun p hp => hW.lt p hp
  have hW0 := hW
  obtain ⟨p, q, hA, hV, rfl, hz, hn⟩ := hW
  rw [hv] at hV
  obtain ⟨rfl, rfl⟩ := trodVars_none hV
  simp only [List.append_nil] at hlt hW0 hz
  have hargs : ∀ sp : Nat → Bool, (∀ x ∈ p, sp x.block = true) → DataW.TrodAll enc Try.prog W' 0 sp true f.params.toList args.toList (s.fn H (ds ++ [])).args p := fun sp h => by
    rw [hs2]; exact trodAll_stays _ _ _ _ hp hA hb hlt h
  have hres : ∀ (b : Nat) (sp : Nat → Bool) (hd : Bool), DataW.TrodAll enc Try.prog W' b sp hd f.resultTypes.toList ((Value.bool true).resultList f.resultTypes.size) (s.fn H (ds ++ [])).results [] := fun b sp hd => by
    rw [hs1, hr]; exact trodAll_cons_mk (shut_bool Try.underlying4 _) trodAll_mk0
  have hvars : ∀ sp : Nat → Bool, DataW.TrodVars enc Try.prog W' sp s.vars (s.fn H (ds ++ [])).vars [] := fun sp => by rw [hv, hs3]; rfl
  have hok : ∀ (j : Nat) (t : TypeId) (r : Value), f.resultTypes[j]? = some t → ((Value.bool true).resultList f.resultTypes.size)[j]? = some r → Value.okWide Try.prog W' .any 0 t r :=
    ok_one hr (by simp [Value.resultList]) (okWide_bool_mk Try.underlying4 _)
  refine ⟨ds, [], p, [], p, [], hW0, hres _ _ _, hargs _ (fun x hx => by simpa using hlt x hx), hvars _, World.keptBut_mono (fun x hx => ⟨hx, ?_⟩) (hb.frame (· ∈ p)), fun _ => ?_⟩
  · exact Or.inr (Or.inl hx)
  · refine ⟨hok, _, _, ([] ++ p) ++ [], ⟨[] ++ p, [], trodAll_append (hargs _ (fun _ _ => rfl)) (hres _ _ _), hvars _, rfl, ?_, ?_⟩, ?_⟩
    · intro b off hp
      have hin : MemPlace.cell b off ∈ p := by simpa using hp
      rw [hb.frozen (hlt _ hin)]
      exact hz b off hin
    · intro ha; cases ha
    · intro x hx _; simpa using hx

/-! ### what an argument reads as -/
variable {w : World} {sp : Nat → Bool}
/-- a []int that came in -/
theorem read_ints {t e : TypeId} {v : Value} {m : Nat} {x : DataW H × List MemPlace} (ht : Try.prog.underlying t = some (.slice e)) (he : Try.prog.underlying e = some (.int .i64)) (hc : Try.prog.cellsOf e = 1)
    (h : DataW.trod enc Try.prog w 0 sp true m t [v] = some x) :
    ∃ (a : Option Addr) (c : Nat) (xs : List Int), v = .slice a xs.length c ∧ xs.length ≤ 9223372036854775807 ∧ IR .i64 w a xs ∧ ∀ k, (Lit.int .i64 (rd xs k)).wf = true := by
  have w0 : (Lit.int .i64 0).wf = true := by decide
  rcases open_ints ht he hc h with ⟨hcs, hx⟩ | ⟨a, len, cap, zs, hcs, -, hl, hm, hz, hx, hcell, hwz⟩
  · cases hcs
    exact ⟨none, 0, [], rfl, by simp, IR_nil _ _ _, fun k => by rw [rd_nil _ _ (by simp)]; exact w0⟩
  · cases hcs
    have hlz : len ≤ zs.length := by rw [hz]; split <;> omega
    refine ⟨some a, cap, zs.take len, by simp [hlz], by unfold maxLen at hm; simp; omega, fun j hj => ?_, fun k => ?_⟩
    · have hj' : j < len ∧ j < zs.length := by simp at hj; omega
      have hs := World.cell?_spot (hcell 0 (by omega))
      have hb : a = ⟨a.block, a.off, none⟩ := by
        obtain ⟨b, o, s⟩ := a
        simp [Addr.add] at hs ⊢; exact hs
      refine ⟨a.block, a.off, by rw [← hb], ?_⟩
      have hh := hcell j hj'.2
      rw [hb, Addr.add_lit] at hh
      rw [hh]
      simp [rd_eq, hj'.1, List.getD_eq_getElem?_getD]
    · by_cases hk : k < (zs.take len).length
      · rw [rd_eq, List.getElem?_eq_getElem hk]
        exact hwz _ (List.mem_of_mem_take (List.getElem_mem hk))
      · rw [rd_nil _ _ (by omega)]; exact w0
end
end Go.Proofs.Ytbofjdckmkifaaa
