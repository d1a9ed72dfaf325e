/-
  append of one number as an equation on its run. Condition: the slice is not long.
-/
import Derived.Test.YtbofjdckmkifaaaApp
import Derived.Maps.OwnIn
import Derived.OwnWalkIn
namespace Go.Proofs.Ytbofjdckmkifaaa
open Go.RowKit

theorem infoI' : (Try.prog.info? 3).map (fun i => (i.zero, i.size, i.bytes)) = some (some (.int .i64 0), 1, 8) := by kernel_rfl
theorem app1run (W : World) (v : Value) (xs : List Int) (y : Int) (HO : W.ownsRow 0 3 1 v xs.length (iv .i64 xs)) (hl : xs.length ≤ 1000000) :
    ∃ (g c : Nat) (w1 : World), (Builtin.append_ #[30, 30] 30 #[v, .slice (some ⟨W.heap.size, 0, none⟩) 1 1]).run Try.prog (W.alloc (.cells #[.int .i64 y] 3)) = .ok (.slice (some ⟨g, 0, none⟩) (xs ++ [y]).length c) w1 ∧
      w1.ownsRow 0 3 1 (.slice (some ⟨g, 0, none⟩) (xs ++ [y]).length c) (xs ++ [y]).length (iv .i64 (xs ++ [y])) ∧ Kp (fun b => v.ownBlock = some b) W w1 ∧ (v.ownBlock = some g ∨ W.heap.size ≤ g) := by
  obtain ⟨i0, hi, hzz⟩ := Option.map_eq_some_iff.1 infoI'
  simp only [Prod.mk.injEq] at hzz
  obtain ⟨hz0, hz1, hz2⟩ := hzz
  have HO2 := HO
  obtain ⟨v', w', hr, hown, hg, _, hat⟩ := run_append_own_at (P := Try.prog) (W.alloc (.cells #[.int .i64 y] 3)) 0 30 30 3 i0 (.int .i64 0) 1 8 Try.underlying30 hi hz0 hz1 hz2 rfl (by omega)
    v xs.length (iv .i64 xs) (HO.alloc _) ⟨W.heap.size, 0, none⟩ 1 1 [.int .i64 y] rfl (fun j u hu => by rw [Addr.add_lit, Nat.zero_add, blk_cell (heap_alloc_new W _)]; simpa using hu)
    (by simp [Value.oneCell']) (by simp only [maxLen]; omega) (by omega) (by simp)
  obtain ⟨g, c, rfl, hc⟩ := own_slice hown (by omega)
  refine ⟨g, c, w', by simpa using hr, by simpa [iv] using hown, ((Kp.refl _ W).alloc _).grown hg (fun k hk _ => hk), ?_⟩
  rcases hat with hat | hat
  · exact .inl (hat.symm.trans rfl)
  · refine .inr ?_
    simp [Value.ownBlock] at hat
    omega
theorem wpListIn_append_run {F : Fence} {nF : Nat} {P : Program} {Q : Exit → Act → World → Prop} {a : Act} {w : World} {ops : Array Oper} {rest : List Oper} {o : Oper} (hgd : o.guard = none) (s x : Operand) (t : TypeId)
    (ho : o.op = .call { callee := .builtin .append, args := #[s, x], argTypes := #[t, t] }) (v y : Value) (hs : a.eval s = v) (hx : a.eval x = y) (v' : Value) (w' : World)
    (hr : (Builtin.append_ #[t, t] o.type #[v, y]).run P w = .ok v' w') (h : wpListIn F nF P ops Q rest (a.put o.dst v') w') : wpListIn F nF P ops Q (o :: rest) a w := by
  refine wpListIn_plain hgd fun K hK => ?_
  unfold Oper.wpIn
  refine ⟨by simp [Oper.about, ho, resolve, Target.leads, Sem.run_pure], ?_⟩
  rw [Oper.semAt_plain F _ _ (by rw [ho]; intro c hc'; cases hc')]
  simp [execOp, ho, resolve, invoke, builtin, hs, hx, hr, Result.andThen]
  exact hK _ _ h
end Go.Proofs.Ytbofjdckmkifaaa
