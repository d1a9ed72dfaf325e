/-
  The walks of slices.Grow of no slice and of slices.Concat of slices of numbers. Conditions: not too many.
-/
import Derived.Test.YtbofjdckmkifaaaP13a
import Derived.Test.YtbofjdckmkifaaaApp
namespace Go.Proofs.Ytbofjdckmkifaaa
open Go.RowKit
section
variable {P : Program} (w : World)
theorem run_append_zeros (t t2 ty e : TypeId) (k : IntKind) (ht : P.underlying t = some (.slice e)) (h2 : P.underlying t2 = some (.int .i64)) (hinfo : (P.info? e).map (fun i => (i.zero, i.size, i.bytes)) = some (some (.int k 0), 1, 8))
    (n : Nat) (h1 : 1 ≤ n) (hn : n ≤ 1000000000) :
    (Builtin.append_ #[t, t2] ty #[.slice none 0 0, .int .i64 (n : Int)]).run P w =
      .ok (.slice (some ⟨w.heap.size, 0, none⟩) n (grownCap w n 0 e)) (w.drew.alloc (.cells (Builtin.zeroCells #[.int k 0] n ++ Builtin.zeroCells #[.int k 0] (grownCap w n 0 e - n)) e)) := by
  obtain ⟨i, hi, hzz⟩ := Option.map_eq_some_iff.1 hinfo
  simp only [Prod.mk.injEq] at hzz
  obtain ⟨hz0, hz1, hz2⟩ := hzz
  have hw : IntKind.i64.wrap (n : Int) = (n : Int) := IntWalk.i64_in _ (by omega)
  have e0 : ¬ (n = 0) := by omega
  have e1 : ¬ ((n : Int) < 0) := by omega
  have e2 : ¬ ((n : Int) * 8 > 2 ^ 48) := by omega
  have e3 : ¬ (9223372036854775807 < (n : Int)) := by omega
  have e4 : ¬ (281474976710656 < Builtin.nextslicecap n 0 * 8) := by rw [nextslicecap_zero h1]; omega
  have e5 : ¬ (281474976710656 < (n : Int) * 8) := by omega
  have e6 : ¬ ((n : Int) ≤ 0) := by omega
  have e7 : max (n : Int) 0 = (n : Int) := by omega
  simp [Builtin.append_, run_underlying ht, run_underlying h2, sizeOf, typeInfo, zeroValue, hi, hz0, hz1, hz2, Builtin.firstCells, e0, e1, e3, e4, e5, e6, e7, asInt, asIntOf, hw, Question.forced, newRow, grownCap]
  rfl
end
theorem zeroCells_size (z : Value) (n : Nat) : (Builtin.zeroCells #[z] n).size = n := by simp [Builtin.zeroCells]
/-- 'append(nil, make([]int, n)...)' -/
theorem wpList_append_zeros {P : Program} (w : World) {ops : Array Oper} {rest : List Oper} {o : Oper} {a : Act} {Q : Exit → Act → World → Prop} (hgd : o.guard = none) (s x : Operand) (t t2 e : TypeId) (k : IntKind)
    (ho : o.op = .call { callee := .builtin .append, args := #[s, x], argTypes := #[t, t2] }) (ht : P.underlying t = some (.slice e)) (h2 : P.underlying t2 = some (.int .i64)) (hinfo : (P.info? e).map (fun i => (i.zero, i.size, i.bytes)) = some (some (.int k 0), 1, 8))
    (n : Nat) (h1 : 1 ≤ n) (hn : n ≤ 1000000000) (hs : a.eval s = .slice none 0 0) (hx : a.eval x = .int .i64 (n : Int))
    (h : ∀ (g c : Nat) (w' : World), n ≤ c → c ≤ 9223372036854775807 → w.heap.size ≤ g → w'.ownsRow 0 e 1 (.slice (some ⟨g, 0, none⟩) 0 c) 0 [] → Nw w w' → wpList P ops Q rest (a.put o.dst (.slice (some ⟨g, 0, none⟩) n c)) w') :
    wpList P ops Q (o :: rest) a w := by
  refine wpList_plain hgd fun K hK => ?_
  have hrun := run_append_zeros (P := P) w t t2 o.type e k ht h2 hinfo n h1 hn
  have hc := grownCap_ge w n 0 e
  have hc2 := grownCap_le_maxLen w n 0 e (by simp only [maxLen]; omega)
  unfold Oper.wp
  simp [execOp, ho, resolve, invoke, builtin, hs, hx, hrun, Result.andThen]
  refine hK _ _ (h w.heap.size _ _ hc (by simp only [maxLen] at hc2; omega) (Nat.le_refl _) ⟨rfl, .inr ⟨w.heap.size, _, _, rfl, Nat.zero_le _, blk_new _ _, Nat.zero_le _, hc2, ?_, ?_⟩⟩ ?_)
  · simp [zeroCells_size]; omega
  · simp
  · exact Below.alloc (Below.drew (Below.refl _ w)) (by simp) _

set_option maxRecDepth 100000 in
set_option maxHeartbeats 1000000 in
theorem growI (w : World) (n : Nat) (hn : n ≤ 1000000000) :
    Calls Try.prog 72 #[.slice none 0 0, .int .i64 (n : Int)] w fun e w' => ∃ a c, e = .returned (.slice a 0 c) ∧ w'.ownsRow 0 3 1 (.slice a 0 c) 0 [] ∧ (∀ d, a = some d → w.heap.size ≤ d.block) ∧ Nw w w' := by
  have q1 : decide ((n : Int) < 0) = false := by simp
  by_cases h0 : n = 0
  · subst h0
    go_enter Try.func72, Try.ntmps72
    go_wp2
    go_ret
    exact ⟨none, 0, rfl, World.ownsRow_nil _ _ _ _, fun d hd => by (cases hd), Below.refl _ _⟩
  · have q2 : decide ((n : Int) > 0) = true := by simp; omega
    go_enter Try.func72, Try.ntmps72
    go_wp2_with (at_builtin; refine wpList_append_zeros _ rfl (.tmp 20) (.tmp 21) 30 3 3 .i64 rfl Try.underlying30 Try.underlying3 infoI n (by omega) hn rfl rfl ?_)
    intro g c w1 hc hcm hg ho hN
    have HO := Lib.hid ho; have HN := Lib.hid hN
    clear ho hN q1 q2
    go_wp2
    go_ret
    exact ⟨some ⟨g, 0, none⟩, c, rfl, HO.out, fun d hd => by (cases hd; exact hg), HN.out⟩
end Go.Proofs.Ytbofjdckmkifaaa
