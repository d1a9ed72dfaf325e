/-
  A region of a round's body walked as one of a plain frame: plain lemmas for this seat's walks. No condition.
-/
import Derived.Test.YtbofjdckmkifaaaRF
import Derived.StillTailTactics
import Derived.OrdersIn
namespace Go.Proofs.Ytbofjdckmkifaaa
open Go.RowKit

def isDefer : Op → Bool
  | .defer _ => true
  | _ => false
theorem rows_in {l m : Nat} {P : Program} {row : String} {args : Array Value} {w : World} {R : Value → World → Prop} (h : Rows P row args w R) : RowsIn (Fence.wide.inRound l) m P row args w R :=
  fun c cs _ => let ⟨v, w', r, s⟩ := h c cs; ⟨v, w', r, stepsIn_wide.2 s⟩
theorem calls_in {l m : Nat} {P : Program} {f : FuncId} {args : Array Value} {w : World} {R : Ending → World → Prop} (h : Calls P f args w R) : CallsIn (Fence.wide.inRound l) m P f args w R :=
  CallsIn.inRound l (callsIn_wide.2 h)
theorem oper_in {l m : Nat} {P : Program} {o : Oper} {a : Act} {w : World} {K : Act → World → Prop} {Q : Exit → Act → World → Prop} (hd : isDefer o.op = false) (h : o.wp P a w K Q) : o.wpIn (Fence.wide.inRound l) m P a w K Q := by
  refine ⟨fun _ _ => trivial, ?_⟩
  have e : o.semAt (Fence.wide.inRound l).round a.eval = execOp a.eval o := Oper.semAt_some l _ o (fun c hc => by rw [hc] at hd; cases hd)
  rw [e]
  unfold Oper.wp at h
  generalize (execOp a.eval o).run P w = r at h ⊢
  cases r with
  | ok x w' =>
    cases x with
    | value v => exact h
    | skip => exact h
    | defer d => exact h
    | enter f args => exact ⟨fun hh => by simp [Fence.wide, Fence.inRound] at hh, calls_in h⟩
    | row row args => exact ⟨fun hh => by simp [Fence.wide, Fence.inRound] at hh, rows_in h⟩
    | round l f tmps assign body => exact h.elim
    | _ => exact h.elim
  | halt x w' => cases x <;> first | exact h | exact h.elim
theorem any_in {l m : Nat} {P : Program} {md : Region.Mode} {ops : Array Oper} {Q : Exit → Act → World → Prop} (hd : ∀ (i : Nat) (o : Oper), ops[i]? = some o → isDefer o.op = false) (hout : ¬ LetsOut Q) :
    ∀ (f : Nat) (listed : Array Bool) (a : Act) (w : World), wpAny P md ops Q f listed a w → wpAnyIn (Fence.wide.inRound l) m P md ops Q f listed a w
  | 0, _, _, _, h => h
  | f + 1, listed, a, w, h => by
    refine ⟨h.1, fun i hi => ?_⟩
    have h2 := h.2 i hi
    unfold wpOp at h2
    unfold wpOpIn
    cases ho : ops[i]? with
    | none => simp only [ho] at h2 ⊢; exact any_in hd hout f _ a w h2
    | some o =>
      simp only [ho] at h2 ⊢
      by_cases hw : Region.wanted o (yielded ops a.tmps) = true
      · rw [if_pos hw] at h2 ⊢
        rcases h2 with h2 | h2
        · exact Oper.wpIn_mono (fun a' w' h' => any_in hd hout f _ a' w' h') (oper_in (hd i o ho) h2)
        · exact absurd h2.2 hout
      · rw [if_neg hw] at h2 ⊢
        exact ⟨fun _ _ => trivial, any_in hd hout f _ _ w h2⟩
theorem list_in {l m : Nat} {P : Program} {ops : Array Oper} {Q : Exit → Act → World → Prop} (hout : ¬ LetsOut Q) :
    ∀ (L : List Oper), (∀ o ∈ L, isDefer o.op = false) → ∀ (a : Act) (w : World), wpList P ops Q L a w → wpListIn (Fence.wide.inRound l) m P ops Q L a w
  | [], _, _, _, h => h
  | o :: L, hd, a, w, h => by
    unfold wpList at h
    unfold wpListIn
    by_cases hw : Region.wanted o (yielded ops a.tmps) = true
    · rw [if_pos hw] at h ⊢
      rcases h with h | h
      · exact Oper.wpIn_mono (fun a' w' h' => list_in hout L (fun o ho => hd o (by simp [ho])) a' w' h') (oper_in (hd o (by simp)) h)
      · exact absurd h.2 hout
    · rw [if_neg hw] at h ⊢
      exact ⟨fun _ _ => trivial, list_in hout L (fun o ho => hd o (by simp [ho])) _ w h⟩
/-- a region in a round -/
theorem rf_region {l m id : Nat} {P : Program} {L : List Oper} {Q : Exit → Act → World → Prop} {a : Act} {w : World} (hd : L.all (fun o => !isDefer o.op) = true) (hout : ¬ LetsOut Q) (h : wpList P L.toArray Q L a w) :
    (Code.region id L.toArray false).wpIn (Fence.wide.inRound l) m P Q a w :=
  wpIn_region_list (by simpa using list_in hout L (fun o ho => by simpa using List.all_eq_true.1 hd o ho) a w h)
/-- a region in a round that draws its order: all but a tail leave the world alone -/
theorem rf_tail {l m id : Nat} {P : Program} {L : List Oper} {Q : Exit → Act → World → Prop} {a : Act} {w : World} (n : Nat) (hm : P.follows .mixedOrders = true) (hB : Region.lexTailB .any L.toArray n = true)
    (hd : L.all (fun o => !isDefer o.op) = true) (hout : ¬ LetsOut Q) (h : wpStill P L.toArray w.drew (fun a' => wpList P L.toArray Q (L.drop n) a' w.drew) (L.take n) a) :
    (Code.region id L.toArray true).wpIn (Fence.wide.inRound l) m P Q a w := by
  refine wpIn_region_any hm (any_in (fun i o ho => ?_) hout _ _ _ _ ?_)
  · have : o ∈ L := by have := Array.mem_of_getElem? ho; simpa using this
    simpa using List.all_eq_true.1 hd o this
  · simp only [Region.lexTailB, Bool.and_eq_true, decide_eq_true_eq] at hB
    obtain ⟨⟨⟨⟨hsel, hn⟩, hs⟩, hc⟩, hlex⟩ := hB
    have hn' : n < L.length := by simpa using hn
    have hl1 : (L.take n).length = n := by simp; omega
    have hl2 : (L.drop n).length = L.toArray.size - n := by simp
    have inv : HeadInv .any L.toArray n (Array.replicate L.toArray.size false) :=
      ⟨by simp, fun _ _ _ hl => (by rw [getD_replicate_false] at hl; cases hl), fun t _ ht => getD_in (by simpa using ht) (getD_replicate_false _ _)⟩
    have H := wpAnyL_lex (md := .any) (g := L.toArray.size - n) hsel hs hc hn (L.take n) 0 _ a (fun j hj => by rw [hl1] at hj; simp [hj]) (by simpa using hl1) inv (by rw [hl1]; exact hlex) h
    have H2 := wpAny_of_head (Q' := Q) (g := L.toArray.size - n) (fun listed a' hL => by
      have := wpAny_of_seq (md := .any) (Q' := Q) (L.drop n) n listed a' w.drew (fun j => by simp [List.getElem?_drop]) (by rw [hl2]; exact hL.1) hL.2
      rwa [hl2] at this) _ _ _ H
    rw [hl1, show n + (L.toArray.size - n) = L.toArray.size by omega] at H2
    exact H2
theorem rfPost_out {P : Program} {l : Nat} {r : LoopState → Option Code → Loop} {R : Ending → World → Prop} : ¬ LetsOut (rfPost P l r R) := fun ⟨_, _, h⟩ => h
theorem inBlock_out {id : Nat} {Q : Exit → Act → World → Prop} (h : ¬ LetsOut Q) : ¬ LetsOut (Exit.inBlock id Q) := fun ⟨a, w, hh⟩ => h ⟨a, w, hh⟩
theorem then_out {K : Act → World → Prop} {Q : Exit → Act → World → Prop} (h : ¬ LetsOut Q) : ¬ LetsOut (Exit.then K Q) := fun ⟨a, w, hh⟩ => h ⟨a, w, hh⟩
end Go.Proofs.Ytbofjdckmkifaaa
