/-
  'for x := range f { .. }' over a function, in the widest fence: plain lemmas for this seat's walks. No condition.
-/
import Derived.Test.YtbofjdckmkifaaaMem
import Derived.RangeFuncFrom
import Derived.RangeFuncLeaves
import Derived.RangeFuncCalls
import Derived.RangeFuncBox
import Derived.Shelf.Abstract
import Derived.Shelf.RegionOpen
import Derived.OwnWalkIn
import Derived.TacticsInMore
import Derived.LoopNIn
import Derived.LoopIn
namespace Go.Proofs.Ytbofjdckmkifaaa
open Go.RowKit

/-- the loop's record -/
def LRec (fn : FuncId) (tmps : Array Value) (ps : Array Tmp) (assign body : Code) (D : Nat) (st : LoopState) (pe : Option Code) : Loop := { state := st, pending := pe, fn, tmps, params := ps, assign, body, defers := D }

theorem kp_putObj (w : World) (l : Nat) (o : Obj) : Kp (fun k => k = l) w (w.putObj l o) :=
  ⟨rfl, rfl, rfl, by simp, fun k _ h => World.putObj_heap_other h⟩

/-- the statement is entered: the iterator is called in a world with the record behind the block of deferred calls -/
theorem rf_enter {P : Program} {n : Nat} {g : Operand} {ps : Array Tmp} {assign body : Code} {Q : Exit → Act → World → Prop} {a : Act} {w : World} {gf : Nat} {lb : Array Value}
    (hg : a.eval g = .func (.func gf) #[] lb) (eg : ∀ args w, (callFunc gf args).run P w = .ok (.enter gf args) w)
    (h : ∀ (fn : FuncId) (W1 : World), Nw w W1 → W1.heap.size = w.heap.size + 2 → W1.heap[w.heap.size + 1]? = some (.loop (LRec fn a.tmps ps assign body w.heap.size .ready none)) → W1.heap[w.heap.size]? = some (.deferred (some [])) →
      CallsIn Fence.wide (n - 1) P gf (#[.func (.yield (w.heap.size + 1)) #[] #[]] ++ lb) W1 (rangePost Fence.wide n P (w.heap.size + 1) Q { a with defers := [{ target := .collected w.heap.size, args := #[] }] ++ a.defers })) :
    (Code.rangeFunc g ps assign body).wpIn Fence.wide n P Q a w := by
  refine wpIn_rangeFunc ?_
  intro fn hfn
  obtain ⟨W1, hW1⟩ : ∃ W1, (w.alloc (.deferred (some []))).alloc (.loop (LRec fn a.tmps ps assign body w.heap.size .ready none)) = W1 := ⟨_, rfl⟩
  refine ⟨w.heap.size + 1, [{ target := .collected w.heap.size, args := #[] }], W1, { target := .fn (.func gf) lb, args := #[.func (.yield (w.heap.size + 1)) #[] #[]] }, W1, gf,
    #[.func (.yield (w.heap.size + 1)) #[] #[]] ++ lb, W1, ?_, ?_, ?_, ?_, fun h => by simp [Fence.wide] at h, ?_⟩
  · rw [← hW1]; exact run_enterLoop_outer _ _ _ _ _
  · simp only [resolve, hg]; simp [go_sem]
  · intro f' _; trivial
  · simp [invoke, go_sem, eg]
  · refine h fn W1 ?_ ?_ ?_ ?_
    · rw [← hW1]; exact nw_trans (nw_alloc _ _) (nw_alloc _ _)
    · rw [← hW1]; simp
    · rw [← hW1]; have := World.alloc_heap_new (w.alloc (.deferred (some []))) (.loop (LRec fn a.tmps ps assign body w.heap.size .ready none)); rwa [World.size_alloc] at this
    · rw [← hW1]; exact (Below.heap_alloc _ _ _ (by simp)).trans (World.alloc_heap_new w _)

/-- how a round's body is left -/
def rfPost (P : Program) (l : Nat) (r : LoopState → Option Code → Loop) (R : Ending → World → Prop) : Exit → Act → World → Prop
  | .normal, _, W => W.heap[l]? = some (.loop (r .busy none)) ∧ R (.returned (.bool true)) (W.putObj l (.loop (r .ready none)))
  | .ret, _, W => W.heap[l]? = some (.loop (r .busy none)) ∧ R (.returned (.bool false)) (W.putObj l (.loop (r .done (some .ret))))
  | .exit id, _, W => W.heap[l]? = some (.loop (r .busy none)) ∧ R (.returned (.bool false)) (W.putObj l (.loop (r .done (some (.exit id)))))
  | _, _, _ => False

/-- the round has begun -/
def RBegun (P : Program) (m l : Nat) (r : LoopState → Option Code → Loop) (body : Code) (R : Ending → World → Prop) (W : World) (a₁ : Act) (W' : World) : Prop :=
  W' = W ∧ ∀ o, o = Obj.loop (r .busy none) → body.wpIn (Fence.wide.inRound l) m P (rfPost P l r R) a₁ (W.putObj l o)
/-- one round, out of its body's walk -/
theorem rf_round {P : Program} {m l D : Nat} {fn : FuncId} {tmps : Array Value} {ps : Array Tmp} {assign body : Code} {args : Array Value} {W : World} {R : Ending → World → Prop}
    (hl : W.heap[l]? = some (.loop (LRec fn tmps ps assign body D .ready none))) (hps : args.size = ps.size)
    (h : assign.wpIn (Fence.wide.inRound l) m P (Exit.then (RBegun P m l (LRec fn tmps ps assign body D) body R W) (fun _ _ _ => False))
      { tmps := (ps.zip args).foldl (fun t (p, v) => t.setIfInBounds p v) tmps, defers := [] } W) :
    YieldAt Fence.wide m P l args W R := by
  have hy := run_yield (P := P) (args := args) hl hps
  refine ⟨fn, _, assign, body, hy, roundIn_of_wpIn trivial (wpIn_mono h ?_)⟩
  intro e a₁ W' hq
  cases e <;> first | exact hq.elim | skip
  obtain ⟨rfl, hbody⟩ := hq
  refine ⟨_, run_beginRound hl rfl, wpIn_mono (hbody _ rfl) ?_⟩
  intro e a3 W3 hp
  cases e with
  | normal => exact ⟨_, _, run_endRound (P := P) none hp.1, hp.2⟩
  | ret => exact ⟨_, _, run_endRound (P := P) (some .ret) hp.1, hp.2⟩
  | exit id => exact ⟨_, _, run_endRound (P := P) (some (.exit id)) hp.1, hp.2⟩
  | goto t => exact hp.elim
  | panic ch => exact hp.elim
  | outgrown => exact hp.elim

/-- behind the iterator: all have come -/
theorem rf_done {P : Program} {n l D : Nat} {fn : FuncId} {tmps : Array Value} {ps : Array Tmp} {assign body : Code} {Q : Exit → Act → World → Prop} {a : Act} {W : World} {v : Value}
    (hl : W.heap[l]? = some (.loop (LRec fn tmps ps assign body D .ready none))) (h : ∀ o', Q .normal a (W.putObj l o')) :
    rangePost Fence.wide n P l Q a (.returned v) W :=
  ⟨none, _, run_endLoop (P := P) hl (by simp [LRec]), h _⟩
/-- behind the iterator: a round has returned -/
theorem rf_ret {P : Program} {n l D : Nat} {fn : FuncId} {tmps : Array Value} {ps : Array Tmp} {assign body : Code} {Q : Exit → Act → World → Prop} {a : Act} {W : World} {v : Value}
    (hl : W.heap[l]? = some (.loop (LRec fn tmps ps assign body D .done (some .ret)))) (h : ∀ o', Q .ret a (W.putObj l o')) :
    rangePost Fence.wide n P l Q a (.returned v) W :=
  ⟨some .ret, _, run_endLoop (P := P) hl (by simp [LRec]), wpIn_ret (h _)⟩

/-- the function returns with the loop's mark among its deferred calls -/
theorem rf_leave {P : Program} {n D : Nat} {fn : Func} {R : Ending → World → Prop} {a : Act} {W : World} {v : Value} (hd : a.defers = [{ target := .collected D, args := #[] }]) (hD : W.heap[D]? = some (.deferred (some [])))
    (hr : (results fn a.tmps).run P (W.putObj D (.deferred none)) = .ok v (W.putObj D (.deferred none))) (hR : R (.returned v) (W.putObj D (.deferred none))) : bodyPostM Fence.wide n P fn R .ret a W := by
  show LeavesInM Fence.wide n P fn a.tmps R a.defers .returning W
  rw [hd]
  exact ⟨by simp, .inl ⟨_, _, rfl, run_takeDeferred hD, ⟨_, hr, hR⟩⟩⟩
theorem rf_leave0 {P : Program} {n : Nat} {fn : Func} {R : Ending → World → Prop} {a : Act} {W : World} {v : Value} (hd : a.defers = [])
    (hr : (results fn a.tmps).run P W = .ok v W) (hR : R (.returned v) W) : bodyPostM Fence.wide n P fn R .ret a W := by
  show LeavesInM Fence.wide n P fn a.tmps R a.defers .returning W
  rw [hd]
  exact ⟨_, hr, hR⟩
/-- a contract of a function whose body holds such a loop -/
theorem rf_calls {P : Program} {f : FuncId} {fn : Func} {c : Code} {args : Array Value} {w : World} {R : Ending → World → Prop} (n : Nat) (hf : P.funcs[f]? = some fn) (hb : fn.body = some c)
    (h : c.wp P (bodyPostM Fence.wide n P fn R) { tmps := args ++ Array.replicate (fn.ntmps - args.size) undef, defers := [] } w) : Calls P f args w R :=
  (callsIn_wide (n := n)).1 (callsIn_of_wp_marks hf hb trivial ((wpIn_wide (n := n)).2 h) rfl)
end Go.Proofs.Ytbofjdckmkifaaa
