/-
  The abstract machine: an evaluator of the program's functions, sound over the model. No condition beside those that each theorem states.
-/
import Derived.Test.YtilmhjojbolbeaaPA4
import Derived.Test.YtilmhjojbolbeaaRows
import Derived.ProofKit
import Derived.OpenShut
import Derived.Carry
import Derived.Deep.Fields
import Derived.Deep.Slices
set_option linter.all false

namespace Go.Proofs.Ytilmhjojbolbeaa.AM
open Go
/-- a mark in a context -/
inductive Mark : Prop
  | mk
/-- a statement, shut -/
structure Bx (Q : Prop) : Prop where
  o : Q
def wrapX (k : IntKind) (n : Int) : Int := k.wrap n
theorem wrapXX (k : IntKind) (n : Int) : k.wrap n = wrapX k n := rfl
theorem knownI {a b : Int} {G : Int → Prop} (d : a = b) (k : G b) : ∀ v, a = v → G v := fun _ e => e ▸ d ▸ k
theorem litI {n : Nat} {G : Int → Prop} (k : G (OfNat.ofNat n)) : ∀ v, (OfNat.ofNat n : Int) = v → G v := fun _ e => e ▸ k
theorem litM {n : Nat} {G : Int → Prop} (k : G (-(OfNat.ofNat n))) : ∀ v, (-(OfNat.ofNat n) : Int) = v → G v := fun _ e => e ▸ k
theorem castI {n : Nat} {G : Int → Prop} (k : ∀ v : Int, (v = (n : Int) ∧ v.toNat = n ∧ 0 ≤ v) → G v) : ∀ v, NatCast.natCast n = v → G v := fun _ e => k _ (castN e.symm)
/-- names for what is shut, and what is sure -/
theorem nm {P Q : Prop} (k : Q) (h : Bx Q → P := by
    intro q
    refine (fun (_ : Mark) => ?_) Mark.mk
    try cbv
    repeat (first
      | (generalize e : H Int _ = v
         (fail_if_success (clear e; clear v))
         try simp (disch := omega) only [hH, zeroS, IntWalk.i64_in, IntWalk.u8_in, IntWalk.u32_in, IntWalk.u64_in, IntWalk.i32_in] at e
         try ((fail_if_success (fail_if_success (have _ : cond _ _ _ = v := e)))
              first
              | (simp only [AM.hd, eq_self, decide_true, cond_true] at e; (fail_if_success (have _ : cond _ _ _ = v := e)))
              | (simp [AM.hd] at e; (fail_if_success (have _ : ite _ _ _ = v := e)))
              | simp only [AM.hd, eq_self, decide_true, cond_true] at e
              | simp at e)
         (fail_if_success (rw [wrapXX] at e))
         revert e; revert v
         first
         | with_reducible refine litI ?_
         | with_reducible refine litM ?_
         | (intro v e; (fail_if_success (have _ : (_ : _ → Int) _ = v := e)); subst e)
         | with_reducible refine knownI ‹_› ?_
         | (with_reducible refine castI ?_; rintro _ ⟨_, _, _⟩)
         | intro _ _)
      | (generalize e : H (List UInt8) _ = v
         (fail_if_success (clear e; clear v))
         simp only [hH, zeroS] at e
         first
         | ((fail_if_success (have _ : (_ : _ → List UInt8) _ = v := e)); subst e)
         | (revert e; revert v; intro _ _))
      | (generalize e : H Bool _ = b
         (fail_if_success (clear e; clear b))
         simp only [hH] at e
         cases b
         first
         | ((case false => exfalso; first | (replace e := of_decide_eq_false e; omega) | (simp at e; done) | (simp at e; omega)); clear e)
         | ((case true => exfalso; first | (replace e := of_decide_eq_true e; omega) | (simp at e; done) | (simp at e; omega)); clear e)
         try cbv)
      | (refine ⟨?_, ?_⟩
         (case' left => first | rfl | trivial | omega | (rw [hH]; simp; done) | (rw [hH]; simp; omega) | (rw [hH]; exact decide_eq_true ⟨by omega, by omega⟩) | (rw [hH]; exact decide_eq_true (by omega)))
         try cbv)
      | (refine Or.inl ?_
         try cbv))
    repeat (rename_i x; (fail_if_success (have _ : Mark := x)); revert x)
    exact q.o) : P := h ⟨k⟩
/-- a test that may go either way -/
theorem ts {P Q1 Q2 : Prop} (k1 : Q1) (k2 : Q2) (h : Bx Q1 → Bx Q2 → P := by
    intro q1 q2
    generalize e : H Bool _ = b
    simp only [hH] at e
    cases b
    · try simp only [decide_eq_false_iff_not, Int.not_lt, Int.not_le, Bool.and_eq_false_iff] at e
      refine nm ?_
      revert e
      exact q2.o
    · try simp only [decide_eq_true_eq, Bool.and_eq_true] at e
      refine nm ?_
      revert e
      exact q1.o) : P := h ⟨k1⟩ ⟨k2⟩
/-- a call -/
theorem ca {P : Program} {f : FuncId} {A : List Nat → Prop} {X : List Nat → List V → Prop} {Y : List Nat → Sto → Prop} {T : List V → Sto → (V → Sto → Prop) → Prop} {K : List Nat → (V → Sto → Prop) → Prop} (ids : List Nat) {xs : List V} {σ : Sto} {R : V → Sto → Prop}
    (x : X ids xs := by cbv <;> rfl) (y : Y ids σ := by cbv <;> rfl) (t : TriS P f xs σ R) (k : K ids R) (w : TriS P f xs σ R → T xs σ R := by exact hTri _ _ _ _) (a : A ids := by exact ⟨⟨rfl, rfl⟩, rfl⟩) : ∃ ids, A ids ∧ ∃ xs σ, X ids xs ∧ Y ids σ ∧ ∃ R, T xs σ R ∧ K ids R :=
  ⟨ids, a, xs, σ, x, y, R, w t, k⟩
theorem aS {p : Prop} (h : p := by assumption) : p := h
theorem oS {p : Prop} (h : p := by omega) : p := h
theorem dS {p : Prop} (h : p := by intros; subst_vars; simp [AM.hd]; done) : p := h
theorem jS {p : Prop} (h : p := by (intro j _ _; subst_vars; simp only [hH, AM.hd, Int.zero_add, Bool.cond_decide]; grind)) : p := h
theorem eS {p : Prop} (h : p := by exact ⟨by omega, by omega⟩) : p := h
theorem iS {p : Prop} (h : p := by simp; done) : p := h
theorem iO {p : Prop} (h : p := by simp; omega) : p := h
theorem iA {p : Prop} (h : p := by simp_all; done) : p := h
theorem vS {p : Prop} (h : p := by (subst_vars; assumption)) : p := h
theorem gS {p : Prop} (h : p := by grind) : p := h
/-- an answer -/
theorem fi {R C T : V → Sto → Prop} {r : V} {σ : Sto} (h : R r σ) (s : T r σ := by cbv <;> repeat' first | exact rfl | exact trivial | exact Or.inr trivial | exact Or.inl rfl | apply And.intro | omega | (split <;> first | exact trivial | (exfalso; simp_all; done)) | (subst_vars; simp [o0]; done) | refine Or.inr ?_) (c : C r σ := by rfl) : ∃ r σ, R r σ ∧ C r σ ∧ T r σ := ⟨r, σ, h, c, s⟩
/-- a round's end -/
theorem rn {α : Type} {I M T : α → Prop} (y : α) (s : T y := by cbv <;> repeat' first | exact rfl | exact trivial | exact Or.inr trivial | exact Or.inl rfl | apply And.intro | omega | (split <;> first | exact trivial | (exfalso; simp_all; done)) | (subst_vars; simp [o0]; done) | refine Or.inr ?_) (h : I y) (m : M y := by first | (simp; omega) | (intros; subst_vars; simp [AM.hd]; done)) : ∃ y, I y ∧ M y ∧ T y := ⟨y, h, m, s⟩
def pickN {β : Type} : List Nat → List (Nat × β) → List (Nat × β)
  | [], _ => []
  | k :: ks, l => match look k l with
    | some v => (k, v) :: pickN ks l
    | none => pickN ks l
def lpS (s : S) (ks ko : List Nat) (nx : Nat) (q : List (Nat × V) × Sto × Prop × Nat) : S := ⟨q.1 ++ pickN ks s.A, q.2.1 ++ pickN ko s.σ, nx⟩
/-- a loop -/
theorem lp (α : Type) {C : (α : Type) → (α → S) → (α → Prop) → (α → Nat) → α → Prop} {s : S} (ks ko : List Nat) (nx : Nat) (q : α → List (Nat × V) × Sto × Prop × Nat) (x0 : α) (h0 : (q x0).2.2.1)
    (k : ∀ x, (q x).2.2.1 → C α (fun x => lpS s ks ko nx (q x)) (fun x => (q x).2.2.1) (fun x => (q x).2.2.2) x) (hs : sub s (lpS s ks ko nx (q x0)) := by cbv <;> repeat' first | exact rfl | exact trivial | exact Or.inr trivial | exact Or.inl rfl | apply And.intro | omega | (split <;> first | exact trivial | (exfalso; simp_all; done)) | (subst_vars; simp [o0]; done) | refine Or.inr ?_) :
    ∃ (α : Type) (st : α → S) (I : α → Prop) (μ : α → Nat), (∃ x, I x ∧ sub s (st x)) ∧ ∀ x, I x → C α st I μ x :=
  ⟨α, _, _, _, ⟨x0, h0, hs⟩, k⟩
/-- the opening of a walk -/
theorem trio {TT : Nat → TS} {f : FuncId} {xs : List V} {σ : Sto} {R : V → Sto → Prop} {P : Program} (fn : Func) (OR : Nat → List (Nat × List Nat))
    (hv : ∀ (H : (α : Type) → α → α) (Tri : Spec), (∀ α x, H α x = x) → (∀ f xs σ R, TriS P f xs σ R → Tri f xs σ R) → vfunc H TT Tri (fun _ _ _ _ => False) (fun _ _ _ _ _ _ => False) OR (body fn) fn.results xs σ R)
    (hT : TTok P TT := by exact TT_ok) (hm : P.follows .mixedOrders = true := by exact mixed) (hf : P.funcs[f]? = some fn := by kernel_rfl) (hb : fn.body = some (body fn) := by kernel_rfl) (hF : okF P f = true := by kernel_rfl) (hC : okC TT fn.ntmps OR (body fn) = true := by kernel_rfl) (hn : xs.length ≤ fn.ntmps := by exact Nat.le_of_ble_eq_true rfl) : TriS P f xs σ R :=
  tri_of hT hm hf hb hF hC hn hv
theorem trio2 {TT : Nat → TS} {f : FuncId} {xs : List V} {σ : Sto} {R : V → Sto → Prop} {P : Program} (fn : Func) (OR : Nat → List (Nat × List Nat))
    (hv : ∀ (H : (α : Type) → α → α) (Tri : Spec) (TrI : Nat → YSp → Spec), (∀ α x, H α x = x) → (∀ f xs σ R, TriS P f xs σ R → Tri f xs σ R) → (∀ l J f xs σ R, okF P f = true → TriIS P l J f xs σ R → TrI l J f xs σ R) → vfunc H TT Tri (fun _ _ _ _ => False) TrI OR (body fn) fn.results xs σ R)
    (hT : TTok P TT := by exact TT_ok) (hm : P.follows .mixedOrders = true := by exact mixed) (hf : P.funcs[f]? = some fn := by kernel_rfl) (hb : fn.body = some (body fn) := by kernel_rfl) (hF : okF P f = true := by kernel_rfl) (hC : okC TT fn.ntmps OR (body fn) = true := by kernel_rfl) (hn : xs.length ≤ fn.ntmps := by exact Nat.le_of_ble_eq_true rfl) : TriS P f xs σ R :=
  tri_of2 hT hm hf hb hF hC hn hv
theorem trioI {TT : Nat → TS} {f : FuncId} {xs : List V} {σ : Sto} {R : V → Sto → Prop} {P : Program} {l : Nat} {J : YSp} (fn : Func) (OR : Nat → List (Nat × List Nat))
    (hv : ∀ (H : (α : Type) → α → α) (Tri : Spec) (Yl : Nat → YSp), (∀ α x, H α x = x) → (∀ f xs σ R, TriS P f xs σ R → Tri f xs σ R) → (∀ xs σ R, J xs σ R → Yl l xs σ R) → vfunc H TT Tri Yl (fun _ _ _ _ _ _ => False) OR (body fn) fn.results xs σ R)
    (hT : TTok P TT := by exact TT_ok) (hm : P.follows .mixedOrders = true := by exact mixed) (hf : P.funcs[f]? = some fn := by kernel_rfl) (hb : fn.body = some (body fn) := by kernel_rfl) (hF : okF P f = true := by kernel_rfl) (hC : okC TT fn.ntmps OR (body fn) = true := by kernel_rfl) (hn : xs.length ≤ fn.ntmps := by exact Nat.le_of_ble_eq_true rfl) : TriIS P l J f xs σ R :=
  tri_it hT hm hf hb hF hC hn hv
end Go.Proofs.Ytilmhjojbolbeaa.AM

namespace Go.Proofs.Ytilmhjojbolbeaa.AM
open Go

def g00 : G := fun _ => ⟨0, 0, true, 0, 0⟩
theorem calls_of_tri {P : Program} {f : FuncId} {xs : List V} {R : V → Sto → Prop} (h : TriS P f xs [] R) {w : World} {vs : Array Value} (hvs : RVs g00 w (fun _ => False) xs vs.toList) :
    Calls P f vs w fun e w' => ∃ r σ' v g' ow, R r σ' ∧ e = .returned v ∧ Nw w w' ∧ RV g' w' ow r v := by
  have hm : ∀ b, ¬ mine [] g00 b := by rintro b ⟨i, h1, -⟩; simp [look] at h1
  have hob : Ob ⟨mine [] g00, fun _ => False, g00⟩ g00 w [] := ⟨fun i o hi => by simp [look] at hi, fun i j hi => by simp [look] at hi⟩
  have := h.2 (fun _ => False) g00 w vs.toList (fun b hb => hb.elim) hob (RVs_weak (fun b _ hb => by
    rcases hb with hb | hb
    · exact hb
    · exact hm b hb) _ _ hvs)
  simp only [Array.toArray_toList] at this
  refine this.mono ?_
  rintro e w' ⟨r, σ', g', v, h1, rfl, h2, -, h3, -⟩
  exact ⟨r, σ', v, g', _, h1, rfl, (h3.mono (fun b hb _ => hm b hb)).nw, h2⟩
/-- a law that answers true -/
theorem law_of_tri {P : Program} {f : FuncId} {xs : List V} (h : TriS P f xs [] fun r _ => r = .b true) {w : World} {vs : Array Value} (hvs : RVs g00 w (fun _ => False) xs vs.toList) :
    Calls P f vs w fun e w' => e = .returned (.bool true) ∧ Nw w w' :=
  (calls_of_tri h hvs).mono (by rintro e w' ⟨r, σ', v, g', ow, rfl, rfl, h1, h2⟩; obtain rfl : v = _ := h2; exact ⟨rfl, h1⟩)
end Go.Proofs.Ytilmhjojbolbeaa.AM

namespace Go.Proofs.Ytilmhjojbolbeaa.AM
open Go Go.RowKit Go.ChangeShapes Go.WideShapes Go.ChangeAt Go.Deep

/-- shapes of cells -/
inductive Sh where
  | int (k : IntKind)
  | bool
  | str
  | list (es : List Sh)
mutual
def Rd (w : World) : Sh → Value → Prop
  | .int k, v => ∃ n, v = .int k n ∧ (Lit.int k n).wf = true
  | .bool, v => ∃ x, v = .bool x
  | .str, v => ∃ x : ByteArray, v = .string x ∧ x.size ≤ maxLen
  | .list es, v => ∃ a len cap, v = .slice a len cap ∧ len ≤ cap ∧ cap ≤ maxLen ∧ (len = 0 ∨ 0 < es.length ∧ ∃ b o, a = some ⟨b, o, none⟩ ∧ b < w.heap.size ∧ ∀ j, j < len → Rds w es b (o + j * es.length))
def Rds (w : World) : List Sh → Nat → Nat → Prop
  | [], _, _ => True
  | s :: ss, b, o => (∃ v, w.cell? ⟨b, o, none⟩ = some v ∧ Rd w s v) ∧ Rds w ss b (o + 1)
end
theorem Rds_iff {w : World} : ∀ (ss : List Sh) (b o : Nat), Rds w ss b o ↔ ∀ k s, ss[k]? = some s → ∃ v, w.cell? ⟨b, o + k, none⟩ = some v ∧ Rd w s v
  | [], b, o => by simp [Rds]
  | s :: ss, b, o => by
    rw [Rds, Rds_iff ss b (o + 1)]
    constructor
    · rintro ⟨h1, h2⟩ k s' hk
      cases k with
      | zero => obtain rfl : s = s' := by simpa using hk
                exact h1
      | succ k => have := h2 k s' (by simpa using hk); rwa [show o + 1 + k = o + (k + 1) by omega] at this
    · intro h
      refine ⟨h 0 s rfl, fun k s' hk => ?_⟩
      have := h (k + 1) s' (by simpa using hk)
      rwa [show o + (k + 1) = o + 1 + k by omega] at this
def Rdl (w : World) : List Sh → List Value → Prop
  | [], [] => True
  | s :: ss, v :: vs => Rd w s v ∧ Rdl w ss vs
  | _, _ => False
theorem Rdl_len {w : World} : ∀ {ss : List Sh} {vs : List Value}, Rdl w ss vs → vs.length = ss.length
  | [], [], _ => rfl
  | s :: ss, v :: vs, h => by rw [List.length_cons, List.length_cons, Rdl_len h.2]
theorem Rdl_at {w : World} : ∀ {ss : List Sh} {vs : List Value}, Rdl w ss vs → ∀ (k : Nat) (s : Sh), ss[k]? = some s → ∃ v, vs[k]? = some v ∧ Rd w s v
  | [], [], _, k, s, h => by simp at h
  | s :: ss, v :: vs, h, 0, s', hk => by obtain rfl : s = s' := by simpa using hk
                                         exact ⟨v, rfl, h.1⟩
  | s :: ss, v :: vs, h, k + 1, s', hk => by simpa using Rdl_at h.2 k s' (by simpa using hk)
theorem Rdl_app {w : World} : ∀ {ss ss' : List Sh} {vs vs' : List Value}, Rdl w ss vs → Rdl w ss' vs' → Rdl w (ss ++ ss') (vs ++ vs')
  | [], _, [], _, _, h => h
  | s :: ss, _, v :: vs, _, h, h' => ⟨h.1, Rdl_app h.2 h'⟩

/-- the shapes of a type's cells -/
def shFs (P : Program) (of : TypeId → Option (List Sh)) : List Field → Nat → Option (List Sh)
  | [], _ => some []
  | f :: r, k => match of f.type with
    | some a => match f.offset == k && a.length == P.cellsOf f.type with
      | true => (shFs P of r (k + a.length)).map (a ++ ·)
      | false => none
    | none => none
def shOf (P : Program) : Nat → TypeId → Option (List Sh)
  | 0, _ => none
  | n + 1, t => match P.underlying t with
    | some (.int k) => some [.int k]
    | some .bool => some [.bool]
    | some .string => some [.str]
    | some (.slice e) => match shOf P n e with
      | some es => match es.length == P.cellsOf e && es.length != 0 with
        | true => some [.list es]
        | false => none
      | none => none
    | some (.struct fs) => match shFs P (shOf P n) fs.toList 0 with
      | some ss => match ss.length == P.cellsOf t with
        | true => some ss
        | false => none
      | none => none
    | _ => none
section
variable {H : Type} {enc : TypeId × Value → H} {P : Program} {w : World} {sp : Nat → Bool} {held : Bool}
theorem rdl_fields {of : TypeId → Option (List Sh)} (hof : ∀ t ss cs x m, of t = some ss → DataW.trod enc P w 0 sp held m t cs = some x → Rdl w ss cs) :
    ∀ (fs : List Field) (k : Nat) (ss : List Sh) (cs : List Value), shFs P of fs k = some ss → (∀ f ∈ fs, ∃ m x, DataW.trod enc P w 0 sp held m f.type ((cs.drop f.offset).take (P.cellsOf f.type)) = some x) → ss.length + k = cs.length → Rdl w ss (cs.drop k)
  | [], k, ss, cs, h, _, hl => by
    obtain rfl : [] = ss := by simpa [shFs] using h
    rw [List.drop_eq_nil_of_le (by simp at hl; omega)]
    trivial
  | f :: r, k, ss, cs, h, hf, hl => by
    unfold shFs at h
    split at h
    · rename_i a ha
      split at h
      · rename_i hb
        simp only [Bool.and_eq_true, beq_iff_eq] at hb
        obtain ⟨b, hb', rfl⟩ := Option.map_eq_some_iff.1 h
        obtain ⟨m, x, hx⟩ := hf f (by simp)
        have h1 := hof _ _ _ _ _ ha hx
        have h2 := rdl_fields hof r (k + a.length) b cs hb' (fun f hf' => hf f (by simp [hf'])) (by simp at hl; omega)
        rw [hb.1] at h1
        have := Rdl_app h1 h2
        rwa [← hb.2, ← List.drop_drop, List.take_append_drop] at this
      · cases h
    · cases h
theorem rdl_of_trod : ∀ (n : Nat) (t : TypeId) (ss : List Sh) (cs : List Value) (x : DataW H × List MemPlace) (m : Nat), shOf P n t = some ss → DataW.trod enc P w 0 sp held m t cs = some x → Rdl w ss cs
  | 0, t, ss, cs, x, m, h, _ => by simp [shOf] at h
  | n + 1, t, ss, cs, x, m, h, hx => by
    unfold shOf at h
    split at h
    · rename_i k ht
      obtain rfl : [Sh.int k] = ss := by simpa using h
      obtain ⟨q, rfl, -, hw⟩ := DataW.trod_int ht hx
      exact ⟨⟨q, rfl, hw⟩, trivial⟩
    · rename_i ht
      obtain rfl : [Sh.bool] = ss := by simpa using h
      obtain ⟨q, rfl, -⟩ := DataW.trod_bool ht hx
      exact ⟨⟨q, rfl⟩, trivial⟩
    · rename_i ht
      obtain rfl : [Sh.str] = ss := by simpa using h
      obtain ⟨q, rfl, -, hw⟩ := DataW.trod_string ht hx
      exact ⟨⟨q, rfl, hw⟩, trivial⟩
    · rename_i e ht
      split at h
      · rename_i es he
        split at h
        · rename_i hb
          simp only [Bool.and_eq_true, beq_iff_eq, bne_iff_ne] at hb
          obtain rfl : [Sh.list es] = ss := by simpa using h
          rcases open_slice ht hx with ⟨rfl, -⟩ | ⟨a, len, cap, m', n', D, Pl, rfl, -, hl, hm, hmm, -, hi⟩
          · exact ⟨⟨none, 0, 0, rfl, Nat.le_refl _, Nat.zero_le _, .inl rfl⟩, trivial⟩
          · refine ⟨⟨some a, len, cap, rfl, hl, hm, ?_⟩, trivial⟩
            rcases Nat.eq_zero_or_pos len with h0 | h0
            · exact .inl h0
            refine .inr ⟨by omega, ?_⟩
            have hmlen : len ≤ m' := by rw [hmm]; split <;> omega
            have key : ∀ j, j < len → ∀ k s, es[k]? = some s → ∃ v, w.cell? (a.add (j * es.length + k)) = some v ∧ Rd w s v := fun j hj k s hk => by
              obtain ⟨cs', hc, ht'⟩ := hi j (by omega)
              have hr := rdl_of_trod n e es cs' _ _ he ht'
              obtain ⟨v, hv, hR⟩ := Rdl_at hr k s hk
              obtain ⟨-, hcl, hat⟩ := World.cells?_some hc
              have hkl : k < es.length := (List.getElem?_eq_some_iff.1 hk).1
              have := hat k (by omega)
              rw [Go.Deep.add_add, ← hb.1, hv] at this
              exact ⟨v, this, hR⟩
            have hs : a.spot = none := by
              obtain ⟨v, hv, -⟩ := key 0 h0 0 (es[0]'(by omega)) (List.getElem?_eq_getElem (by omega))
              have := World.cell?_spot hv
              simpa [Addr.add] using this
            have ha : a = ⟨a.block, a.off, none⟩ := by
              obtain ⟨b, o, s⟩ := a
              simpa using hs
            rw [ha] at key
            refine ⟨a.block, a.off, by rw [← ha], ?_, fun j hj => ?_⟩
            · obtain ⟨v, hv, -⟩ := key 0 h0 0 (es[0]'(by omega)) (List.getElem?_eq_getElem (by omega))
              rw [Addr.add_lit] at hv
              exact World.block_lt_of_cell? w ⟨a.block, a.off + (0 * es.length + 0), none⟩ hv
            · rw [Rds_iff]
              intro k s hk
              obtain ⟨v, hv, hR⟩ := key j hj k s hk
              rw [Addr.add_lit] at hv
              exact ⟨v, by rw [Nat.add_assoc]; exact hv, hR⟩
        · cases h
      · cases h
    · rename_i fs ht
      split at h
      · rename_i ss' hss
        split at h
        · rename_i hb
          obtain rfl : ss' = ss := by simpa using h
          simp only [beq_iff_eq] at hb
          obtain ⟨xs, n', -, -, hlen, hxl, hf⟩ := DataW.trod_struct ht hx
          have := rdl_fields (fun t ss cs x m h1 h2 => rdl_of_trod n t ss cs x m h1 h2) fs.toList 0 ss' cs hss (fun f hf' => ?_) (by omega)
          · simpa using this
          · obtain ⟨i, hi, rfl⟩ := List.getElem_of_mem hf'
            have hi' : i < fs.size := by simpa using hi
            have h1 := hf i _ (Array.getElem?_eq_getElem hi')
            rw [List.getElem?_eq_getElem (by omega)] at h1
            exact ⟨n', _, by simpa using h1⟩
        · cases h
      · cases h
    · cases h
end

/-! ### columns and values of a shape -/
mutual
def COk : Sh → C → Prop
  | .int k, c => ∃ f, c = .i k f ∧ ∀ ix, (Lit.int k (f ix)).wf = true
  | .bool, c => ∃ f, c = .b f
  | .str, c => ∃ f, c = .s f ∧ ∀ ix, (f ix).length ≤ maxLen
  | .list es, c => ∃ n cs, c = .l n cs ∧ (∀ ix, 0 ≤ n ix ∧ n ix ≤ (maxLen : Int)) ∧ COks es cs
def COks : List Sh → List C → Prop
  | [], [] => True
  | s :: ss, c :: cs => COk s c ∧ COks ss cs
  | _, _ => False
end
theorem COks_len : ∀ {ss : List Sh} {cs : List C}, COks ss cs → cs.length = ss.length
  | [], [], _ => rfl
  | s :: ss, c :: cs, h => by rw [List.length_cons, List.length_cons, COks_len h.2]
theorem wf0 (k : IntKind) : (Lit.int k 0).wf = true := by cases k <;> decide
open Classical in
/-- a choice that is fit everywhere -/
theorem choose_all {α : Type} {D : Ix → Prop} {p : α → Prop} {q : Ix → α → Prop} (d : α) (hd : p d) (h : ∀ ix, D ix → ∃ a, q ix a ∧ p a) : ∃ f : Ix → α, (∀ ix, p (f ix)) ∧ ∀ ix, D ix → q ix (f ix) := by
  refine ⟨fun ix => if hx : D ix then (h ix hx).choose else d, fun ix => ?_, fun ix hx => ?_⟩
  · by_cases hx : D ix
    · simp only [dif_pos hx]; exact (h ix hx).choose_spec.2
    · simp only [dif_neg hx]; exact hd
  · simp only [dif_pos hx]; exact (h ix hx).choose_spec.1
abbrev none0 : Nat → Prop := fun _ => False
mutual
theorem col_of (w : World) : ∀ (s : Sh) (D : Ix → Prop) (u : Ix → Value), (∀ ix, D ix → Rd w s (u ix)) → ∃ c, COk s c ∧ ∀ ix, D ix → RC w none0 c ix (u ix)
  | .int k, D, u, h => by
    obtain ⟨f, h1, h2⟩ := choose_all (D := D) (p := fun n => (Lit.int k n).wf = true) (q := fun ix n => u ix = .int k n) 0 (wf0 k) h
    exact ⟨.i k f, ⟨f, rfl, h1⟩, h2⟩
  | .bool, D, u, h => by
    obtain ⟨f, h1, h2⟩ := choose_all (D := D) (p := fun _ => True) (q := fun ix n => u ix = .bool n) false trivial (fun ix hx => by obtain ⟨x, hx'⟩ := h ix hx; exact ⟨x, hx', trivial⟩)
    exact ⟨.b f, ⟨f, rfl⟩, h2⟩
  | .str, D, u, h => by
    obtain ⟨f, h1, h2⟩ := choose_all (D := D) (p := fun n : Str => n.length ≤ maxLen) (q := fun ix n => u ix = .string ⟨n.toArray⟩) [] (by simp) (fun ix hx => by
      obtain ⟨x, hx', hs⟩ := h ix hx
      exact ⟨x.data.toList, by rw [hx'], by simpa using hs⟩)
    exact ⟨.s f, ⟨f, rfl, h1⟩, h2⟩
  | .list es, D, u, h => by
    obtain ⟨t, -, h2⟩ := choose_all (α := Option Addr × Nat × Nat) (D := D) (p := fun _ => True) (q := fun ix t => u ix = .slice t.1 t.2.1 t.2.2 ∧ t.2.1 ≤ t.2.2 ∧ t.2.2 ≤ maxLen ∧ (t.2.1 = 0 ∨ 0 < es.length ∧ ∃ b o, t.1 = some ⟨b, o, none⟩ ∧ b < w.heap.size ∧ ∀ j, j < t.2.1 → Rds w es b (o + j * es.length))) (none, 0, 0) trivial (fun ix hx => by
      obtain ⟨a, len, cap, h1, h2, h3, h4⟩ := h ix hx
      exact ⟨(a, len, cap), ⟨h1, h2, h3, h4⟩, trivial⟩)
    obtain ⟨A, hA⟩ : ∃ A : Ix → Nat × Nat, A = fun ix => match (t ix).1 with | some a => (a.block, a.off) | none => (0, 0) := ⟨_, rfl⟩
    obtain ⟨n, hn⟩ : ∃ n : Ix → Nat, ∀ ix, (D ix → n ix = (t ix).2.1) ∧ n ix ≤ maxLen := by
      refine ⟨fun ix => min (t ix).2.1 maxLen, fun ix => ⟨fun hd => ?_, Nat.min_le_right _ _⟩⟩
      obtain ⟨-, a, b, -⟩ := h2 ix hd
      show min (t ix).2.1 maxLen = _
      omega
    obtain ⟨cs, hcs, hcs2⟩ := cols_of w es (fun ix => ∃ (ix' : Ix) (j : Nat), ix = ix' ++ [(j : Int)] ∧ D ix' ∧ j < n ix') (fun ix => (A ix.dropLast).1) (fun ix => (A ix.dropLast).2 + (ix.getLast?.getD 0).toNat * es.length) (by
      rintro _ ⟨ix', j, rfl, hd, hj⟩
      rw [(hn ix').1 hd] at hj
      obtain ⟨-, -, -, h4⟩ := h2 ix' hd
      rcases h4 with h4 | ⟨-, b, o, ha, -, hr⟩
      · omega
      · have hAx : A ix' = (b, o) := by rw [hA]; simp only [ha]
        simpa [hAx] using hr j hj)
    have hl := COks_len hcs
    refine ⟨.l (fun ix => (n ix : Int)) cs, ⟨_, cs, rfl, fun ix => ⟨by omega, Int.ofNat_le.2 (hn ix).2⟩, hcs⟩, fun ix hd => ?_⟩
    obtain ⟨hu, h3, h4, h5⟩ := h2 ix hd
    refine ⟨(t ix).1, (t ix).2.1, (t ix).2.2, hu, by show (n ix : Int) = _; rw [(hn ix).1 hd], h3, ?_⟩
    rcases h5 with h5 | ⟨h6, b, o, ha, hb, hr⟩
    · exact .inl h5
    · refine .inr ⟨by omega, b, o, ha, id, hb, fun j hj => ?_⟩
      have hAx : A ix = (b, o) := by rw [hA]; simp only [ha]
      have := hcs2 (ix ++ [(j : Int)]) ⟨ix, j, rfl, hd, by rw [(hn ix).1 hd]; exact hj⟩
      simpa [hAx, hl] using this
theorem cols_of (w : World) : ∀ (ss : List Sh) (D : Ix → Prop) (b o : Ix → Nat), (∀ ix, D ix → Rds w ss (b ix) (o ix)) → ∃ cs, COks ss cs ∧ ∀ ix, D ix → RCs w none0 cs ix (b ix) (o ix)
  | [], D, b, o, h => ⟨[], trivial, fun _ _ => trivial⟩
  | s :: ss, D, b, o, h => by
    obtain ⟨u, -, hu⟩ := choose_all (D := D) (p := fun _ => True) (q := fun ix v => w.cell? ⟨b ix, o ix, none⟩ = some v ∧ Rd w s v) (.bool false) trivial (fun ix hx => by
      obtain ⟨v, hv⟩ := (h ix hx).1
      exact ⟨v, hv, trivial⟩)
    obtain ⟨c, hc, hc2⟩ := col_of w s D u (fun ix hx => (hu ix hx).2)
    obtain ⟨cs, hcs, hcs2⟩ := cols_of w ss D b (fun ix => o ix + 1) (fun ix hx => (h ix hx).2)
    exact ⟨c :: cs, ⟨hc, hcs⟩, fun ix hx => ⟨⟨u ix, (hu ix hx).1, hc2 ix hx⟩, hcs2 ix hx⟩⟩
end
def VOk : Sh → V → Prop
  | .int k, x => ∃ n, x = .i k n ∧ (Lit.int k n).wf = true
  | .bool, x => ∃ b, x = .b b
  | .str, x => ∃ s : Str, x = .s s ∧ s.length ≤ maxLen
  | .list es, x => ∃ n cs, x = .l n cs false ∧ (0 ≤ n ∧ n ≤ (maxLen : Int)) ∧ COks es cs
def VOks : List Sh → List V → Prop
  | [], [] => True
  | s :: ss, x :: xs => VOk s x ∧ VOks ss xs
  | _, _ => False
theorem val_of {g : G} {w : World} : ∀ {s : Sh} {v : Value}, Rd w s v → ∃ x, VOk s x ∧ RV g w none0 x v
  | .int k, _, ⟨n, e, hw⟩ => ⟨.i k n, ⟨n, rfl, hw⟩, e⟩
  | .bool, _, ⟨b, e⟩ => ⟨.b b, ⟨b, rfl⟩, e⟩
  | .str, _, ⟨x, e, hs⟩ => ⟨.s x.data.toList, ⟨_, rfl, by simpa using hs⟩, by rw [e]; rfl⟩
  | .list es, _, ⟨a, len, cap, e, h1, h2, h3⟩ => by
    rcases h3 with h3 | ⟨h4, b, o, ha, hb, hr⟩
    · obtain ⟨cs, hcs, -⟩ := cols_of w es (fun _ => False) (fun _ => 0) (fun _ => 0) (fun _ h => h.elim)
      exact ⟨.l len cs false, ⟨len, cs, rfl, ⟨by omega, by omega⟩, hcs⟩, a, len, cap, e, rfl, ⟨h1, fun h => by cases h⟩, .inl h3⟩
    · obtain ⟨cs, hcs, hcs2⟩ := cols_of w es (fun ix => ∃ j : Nat, ix = [(j : Int)] ∧ j < len) (fun _ => b) (fun ix => o + (ix.getLast?.getD 0).toNat * es.length) (by
        rintro _ ⟨j, rfl, hj⟩
        simpa using hr j hj)
      have hl := COks_len hcs
      refine ⟨.l len cs false, ⟨len, cs, rfl, ⟨by omega, by omega⟩, hcs⟩, a, len, cap, e, rfl, ⟨h1, fun h => by cases h⟩, .inr ⟨by omega, b, o, ha, id, hb, fun j hj => ?_⟩⟩
      have := hcs2 [(j : Int)] ⟨j, rfl, hj⟩
      simpa [hl] using this
theorem vals_of {g : G} {w : World} : ∀ {ss : List Sh} {vs : List Value}, Rdl w ss vs → ∃ xs, VOks ss xs ∧ RVs g w none0 xs vs
  | [], [], _ => ⟨[], trivial, trivial⟩
  | s :: ss, v :: vs, h => by
    obtain ⟨x, h1, h2⟩ := val_of (g := g) h.1
    obtain ⟨xs, h3, h4⟩ := vals_of (g := g) h.2
    exact ⟨x :: xs, ⟨h1, h3⟩, h2, h4⟩
/-- a parameter: one cell, or a struct -/
inductive Par where
  | one (s : Sh)
  | agg (ss : List Sh)
def parOf (P : Program) (t : TypeId) : Option Par :=
  match P.underlying t, shOf P 9 t with
  | some (.struct _), some ss => some (.agg ss)
  | some (.int _), some [s] => some (.one s)
  | some .bool, some [s] => some (.one s)
  | some .string, some [s] => some (.one s)
  | some (.slice _), some [s] => some (.one s)
  | _, _ => none
def POk : Par → V → Prop
  | .one s, x => VOk s x
  | .agg ss, x => ∃ xs, x = .ag xs ∧ VOks ss xs
def POks : List Par → List V → Prop
  | [], [] => True
  | p :: ps, x :: xs => POk p x ∧ POks ps xs
  | _, _ => False
def parsOf (P : Program) : List TypeId → Option (List Par)
  | [] => some []
  | t :: ts => match parOf P t, parsOf P ts with
    | some p, some ps => some (p :: ps)
    | _, _ => none
section
variable {H : Type} {enc : TypeId × Value → H} {P : Program} {W : World} {sp : Nat → Bool} {held : Bool} {base : Nat}
theorem par_of {t : TypeId} {p : Par} {v : Value} {d : DataW H} {q : List MemPlace} (hp : parOf P t = some p) (hv : Value.okWide P W .any base t v) (h : DataW.Trod enc P W 0 sp held t v d q) : ∃ x, POk p x ∧ RV g00 W none0 x v := by
  obtain ⟨m, hm⟩ := h
  unfold parOf at hp
  have one : ∀ {s : Sh}, shOf P 9 t = some [s] → v.cells.toList = [v] → ∃ x, POk (.one s) x ∧ RV g00 W none0 x v := fun hs hc => by
    rw [hc] at hm
    exact val_of (rdl_of_trod _ _ _ _ _ _ hs hm).1
  split at hp
  · rename_i fs ss ht hs
    obtain rfl : Par.agg ss = p := by simpa using hp
    obtain ⟨cs, rfl, -⟩ := okWide_struct ht hv
    obtain ⟨xs, h1, h2⟩ := vals_of (g := g00) (rdl_of_trod _ _ _ _ _ _ hs hm)
    exact ⟨.ag xs, ⟨xs, rfl, h1⟩, cs, rfl, h2⟩
  · rename_i k s ht hs
    obtain rfl : Par.one s = p := by simpa using hp
    obtain ⟨n, rfl⟩ := okWide_int ht hv
    exact one hs rfl
  · rename_i s ht hs
    obtain rfl : Par.one s = p := by simpa using hp
    obtain ⟨n, rfl⟩ := okWide_bool ht hv
    exact one hs rfl
  · rename_i s ht hs
    obtain rfl : Par.one s = p := by simpa using hp
    obtain ⟨n, rfl⟩ := okWide_string ht hv
    exact one hs rfl
  · rename_i e s ht hs
    obtain rfl : Par.one s = p := by simpa using hp
    obtain ⟨a, len, cap, rfl⟩ := okWide_slice ht hv
    exact one hs rfl
  · cases hp
theorem pars_of : ∀ (ts : List TypeId) (ps : List Par) (vs : List Value) (ds : List (DataW H)) (q : List MemPlace), parsOf P ts = some ps → DataW.TrodAll enc P W 0 sp held ts vs ds q →
    (∀ (j : Nat) t v, ts[j]? = some t → vs[j]? = some v → Value.okWide P W .any base t v) → ∃ xs, POks ps xs ∧ RVs g00 W none0 xs vs
  | [], ps, vs, ds, q, hp, h, _ => by
    obtain rfl : [] = ps := by simpa [parsOf] using hp
    obtain ⟨rfl, -, -⟩ := trodAll_nil h
    exact ⟨[], trivial, trivial⟩
  | t :: ts, ps, vs, ds, q, hp, h, hv => by
    unfold parsOf at hp
    split at hp
    · rename_i p ps' h1 h2
      obtain rfl : p :: ps' = ps := by simpa using hp
      obtain ⟨v, vs', d, ds', p1, p2, rfl, rfl, rfl, h3, h4⟩ := trodAll_cons h
      obtain ⟨x, h5, h6⟩ := par_of h1 (hv 0 t v rfl rfl) h3
      obtain ⟨xs, h7, h8⟩ := pars_of ts ps' vs' ds' p2 h2 h4 (fun j t' v' ht hv' => hv (j + 1) t' v' (by simpa using ht) (by simpa using hv'))
      exact ⟨x :: xs, ⟨h5, h7⟩, h6, h8⟩
    · cases hp
end

section
variable {H : Type} {enc : TypeId × Value → H} {P : Program} {W : World} {sp : Nat → Bool} {held : Bool}
theorem pars_len : ∀ (ts : List TypeId) (ps : List Par) (vs : List Value) (ds : List (DataW H)) (q : List MemPlace), parsOf P ts = some ps → DataW.TrodAll enc P W 0 sp held ts vs ds q → ds.length = ps.length
  | [], ps, vs, ds, q, hp, h => by
    obtain rfl : [] = ps := by simpa [parsOf] using hp
    obtain ⟨-, rfl, -⟩ := trodAll_nil h
    rfl
  | t :: ts, ps, vs, ds, q, hp, h => by
    unfold parsOf at hp
    split at hp
    · rename_i p ps' h1 h2
      obtain rfl : p :: ps' = ps := by simpa using hp
      obtain ⟨v, vs', d, ds', p1, p2, rfl, rfl, rfl, h3, h4⟩ := trodAll_cons h
      rw [List.length_cons, List.length_cons, pars_len ts ps' vs' ds' p2 h2 h4]
    · cases hp
end
theorem POks_cons {p : Par} {ps : List Par} {xs : List V} (h : POks (p :: ps) xs) : ∃ x r, xs = x :: r ∧ POk p x ∧ POks ps r := by
  cases xs with
  | nil => exact h.elim
  | cons x r => exact ⟨x, r, rfl, h⟩
theorem POks_nil {xs : List V} (h : POks [] xs) : xs = [] := by
  cases xs with
  | nil => rfl
  | cons x r => exact h.elim
theorem VOks_cons {p : Sh} {ps : List Sh} {xs : List V} (h : VOks (p :: ps) xs) : ∃ x r, xs = x :: r ∧ VOk p x ∧ VOks ps r := by
  cases xs with
  | nil => exact h.elim
  | cons x r => exact ⟨x, r, rfl, h⟩
theorem VOks_nil {xs : List V} (h : VOks [] xs) : xs = [] := by
  cases xs with
  | nil => rfl
  | cons x r => exact h.elim
theorem COks_cons {p : Sh} {ps : List Sh} {xs : List C} (h : COks (p :: ps) xs) : ∃ x r, xs = x :: r ∧ COk p x ∧ COks ps r := by
  cases xs with
  | nil => exact h.elim
  | cons x r => exact ⟨x, r, rfl, h⟩
theorem COks_nil {xs : List C} (h : COks [] xs) : xs = [] := by
  cases xs with
  | nil => rfl
  | cons x r => exact h.elim

/-! ### what a law owes -/
set_option maxRecDepth 100000 in
theorem own0 : ownKnob Try.prog.godebug = none := by kernel_rfl
set_option maxRecDepth 100000 in
theorem laidT : laidOutB Try.prog = true := by kernel_rfl
section
variable {H : Type} {enc : TypeId × Value → H} {W W' : World}
theorem trodAll_stays {sp : Nat → Bool} : ∀ (ts : List TypeId) (vs : List Value) (ds : List (DataW H)) (p : List MemPlace), (∀ t ∈ ts, Try.prog.readableRec t = true ∧ t < Try.prog.types.size) →
    DataW.TrodAll enc Try.prog W 0 (fun _ => true) true ts vs ds p → Nw W W' → (∀ x ∈ p, x.block < W.heap.size) → (∀ x ∈ p, sp x.block = true) → DataW.TrodAll enc Try.prog W' 0 sp true ts vs ds p := by
  intro ts
  induction ts with
  | nil => intro vs ds p _ h _ _ _; obtain ⟨rfl, rfl, rfl⟩ := trodAll_nil h; exact trodAll_mk0
  | cons t ts ih =>
    intro vs ds p hr h hb hlt hs
    obtain ⟨v, vs', d, ds', p1, p2, rfl, rfl, rfl, h1, h2⟩ := trodAll_cons h
    have hr1 := hr t (by simp)
    exact trodAll_cons_mk (WideElems.Trod_stays laidT hr1.1 hr1.2 h1 (fun x hx => hb.same (hlt x (by simp [hx]))) (fun x hx => hs x (by simp [hx])))
      (ih vs' ds' p2 (fun t ht => hr t (by simp [ht])) h2 hb (fun x hx => hlt x (by simp [hx])) (fun x hx => hs x (by simp [hx])))
set_option maxRecDepth 100000 in
/-- a law's post -/
theorem law_post {f : Func} {s : ChangeSpec} {args : Array Value} {ds gs : List (DataW H)} {before : List MemPlace} {tb : TypeId} (htb : Try.prog.underlying tb = some .bool)
    (hW : DataW.Whole enc Try.prog f.params.toList s.vars false W args.toList ds gs before) (hr : f.resultTypes = #[tb]) (hv : s.vars = [])
    (hp : ∀ t ∈ f.params.toList, Try.prog.readableRec t = true ∧ t < Try.prog.types.size)
    (hs1 : (s.fn H (ds ++ gs)).results = [.lit (.bool true)]) (hs2 : (s.fn H (ds ++ gs)).args = ds) (hs3 : (s.fn H (ds ++ gs)).vars = []) (hb : Nw W W') :
    s.post enc Try.prog f false true false false W args (.bool true) W' := by
  have hlt : ∀ p ∈ before, p.block < W.heap.size := fun p hp => hW.lt p hp
  have hW0 := hW
  obtain ⟨p, q, hA, hV, rfl, hz, hn⟩ := hW
  rw [hv] at hV
  obtain ⟨rfl, rfl⟩ := trodVars_none hV
  simp only [List.append_nil] at hlt hW0 hz
  have hargs : ∀ sp : Nat → Bool, (∀ x ∈ p, sp x.block = true) → DataW.TrodAll enc Try.prog W' 0 sp true f.params.toList args.toList (s.fn H (ds ++ [])).args p := fun sp h => by
    rw [hs2]; exact trodAll_stays _ _ _ _ hp hA hb hlt h
  have hres : ∀ (b : Nat) (sp : Nat → Bool) (hd : Bool), DataW.TrodAll enc Try.prog W' b sp hd f.resultTypes.toList ((Value.bool true).resultList f.resultTypes.size) (s.fn H (ds ++ [])).results [] := fun b sp hd => by
    rw [hs1, hr]; exact trodAll_cons_mk (shut_bool htb _) trodAll_mk0
  have hvars : ∀ sp : Nat → Bool, DataW.TrodVars enc Try.prog W' sp s.vars (s.fn H (ds ++ [])).vars [] := fun sp => by rw [hv, hs3]; rfl
  have hok : ∀ (j : Nat) (t : TypeId) (r : Value), f.resultTypes[j]? = some t → ((Value.bool true).resultList f.resultTypes.size)[j]? = some r → Value.okWide Try.prog W' .any 0 t r :=
    ok_one hr (by simp [Value.resultList]) (okWide_bool_mk htb _)
  refine ⟨ds, [], p, [], p, [], hW0, hres _ _ _, hargs _ (fun x hx => by simpa using hlt x hx), hvars _, World.keptBut_mono (fun x hx => ⟨hx, ?_⟩) (hb.frame (· ∈ p)), fun _ => ?_⟩
  · exact Or.inr (Or.inl hx)
  · refine ⟨hok, _, _, ([] ++ p) ++ [], ⟨[] ++ p, [], trodAll_append (hargs _ (fun _ _ => rfl)) (hres _ _ _), hvars _, rfl, ?_, ?_⟩, ?_⟩
    · intro b off hp
      have hin : MemPlace.cell b off ∈ p := by simpa using hp
      rw [hb.frozen (hlt _ hin)]
      exact hz b off hin
    · intro ha; cases ha
    · intro x hx _; simpa using hx
set_option maxRecDepth 100000 in
/-- a law's contract, out of its walk on values of the shapes of its parameters -/
theorem law_contract {fi : FuncId} {f : Func} {s : ChangeSpec} {ps : List Par} (hps : parsOf Try.prog f.params.toList = some ps) (hall : ∀ xs, POks ps xs → TriS Try.prog fi xs [] fun r _ => r = .b true) {tb : TypeId} (htb : Try.prog.underlying tb = some .bool)
    (hr : f.resultTypes = #[tb]) (hv : s.vars = []) (hp : f.params.toList.all (fun t => Try.prog.readableRec t && decide (t < Try.prog.types.size)) = true)
    (hs : ∀ (H : Type) (ds : List (DataW H)), ds.length = ps.length → (s.fn H (ds ++ [])).results = [.lit (.bool true)] ∧ (s.fn H (ds ++ [])).args = ds ∧ (s.fn H (ds ++ [])).vars = [])
    {base : Nat} {args : Array Value} {ds gs : List (DataW H)} {before : List MemPlace}
    (hval : ∀ (j : Nat) t v, f.params[j]? = some t → args[j]? = some v → Value.okWide Try.prog W .any base t v)
    (hW : DataW.Whole enc Try.prog f.params.toList s.vars false W args.toList ds gs before) :
    Calls Try.prog fi args W fun e W' => ∃ v, e = .returned v ∧ s.post enc Try.prog f false true false false W args v W' := by
  have hW' := hW
  obtain ⟨p, q, hA, hV, rfl, hfz, hnd⟩ := hW
  rw [hv] at hV
  obtain ⟨rfl, rfl⟩ := trodVars_none hV
  obtain ⟨xs, hx, hR⟩ := pars_of _ _ _ _ _ hps hA (fun j t v ht hv => hval j t v (by simpa using ht) (by simpa using hv))
  refine (law_of_tri (hall xs hx) hR).mono ?_
  rintro e W1 ⟨rfl, hg⟩
  obtain ⟨h1, h2, h3⟩ := hs H ds (pars_len _ _ _ _ _ hps hA)
  refine ⟨_, rfl, law_post htb hW' hr hv (fun t ht => ?_) h1 h2 h3 hg⟩
  have := List.all_eq_true.1 hp t ht
  simpa using this
end
end Go.Proofs.Ytilmhjojbolbeaa.AM

