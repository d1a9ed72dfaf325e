/-
  The abstract machine: an evaluator of the program's functions, sound over the model. No condition beside those that each theorem states.
-/
import Derived.Test.YtilmhjojbolbeaaPA1
import Derived.Laws.StructEq
import Derived.Laws.CopyRow
import Derived.Great.BuildSlice
import Derived.Deep.AppendSrc
import Derived.Deep.Upon
set_option linter.all false

namespace Go.Proofs.Ytilmhjojbolbeaa.AM
open Go

section
variable {P : Program} {H : (α : Type) → α → α} {TT : Nat → TS} {g : G} {w : World} {ow : Nat → Prop}
theorem arith_ok (hH : ∀ α x, H α x = x) {op : BinOp} {k : IntKind} {m n : Int} {K : V → Prop} (h : arith H op k m n K) (t : TypeId) :
    ∃ r val, K r ∧ RV g w ow r val ∧ (binOp op t (.int k m) (.int k n)).run P w = .ok val w := by
  cases op <;> simp only [arith, ob, hH, decide_eq_true_eq] at h
  case add => exact ⟨_, _, h, rfl, by simp [binOp, Op.intArith]⟩
  case sub => exact ⟨_, _, h, rfl, by simp [binOp, Op.intArith]⟩
  case mul => exact ⟨_, _, h, rfl, by simp [binOp, Op.intArith]⟩
  case quo => exact ⟨_, _, h.2, rfl, by simp [binOp, Op.intDiv, h.1]⟩
  case rem => exact ⟨_, _, h.2, rfl, by simp [binOp, Op.intDiv, h.1]⟩
  case and => exact ⟨_, _, h, rfl, by simp [binOp, Op.intBits]⟩
  case or => exact ⟨_, _, h, rfl, by simp [binOp, Op.intBits]⟩
  case xor => exact ⟨_, _, h, rfl, by simp [binOp, Op.intBits]⟩
  case eql => exact ⟨_, _, h, rfl, by simp [binOp, Op.intCmp, BEq.beq]⟩
  case neq => exact ⟨_, _, h, rfl, by simp [binOp, Op.intCmp, bne, BEq.beq]⟩
  case lss => exact ⟨_, _, h, rfl, by simp [binOp, Op.intCmp]⟩
  case leq => exact ⟨_, _, h, rfl, by simp [binOp, Op.intCmp]⟩
  case gtr => exact ⟨_, _, h, rfl, by simp [binOp, Op.intCmp]⟩
  case geq => exact ⟨_, _, h, rfl, by simp [binOp, Op.intCmp]⟩
theorem eqGuard_plain {op : BinOp} {t : TypeId} {x y : Operand} {u v : Value} (h1 : ∀ cs, u ≠ .agg cs) (h2 : u ≠ .nilIface) : (eqGuard op t x y u v).run P w = .ok () w := by
  unfold eqGuard
  cases op <;> simp <;> (cases u <;> first | exact absurd rfl (h1 _) | exact absurd rfl h2 | (cases v <;> simp))
theorem eq_ptr {t e : TypeId} (p : Option Addr) (h : P.underlying t = some (.pointer e)) : (Op.equal t (.pointer p) (.pointer none)).run P w = .ok p.isNone w := by
  show (Op.equalIn (9999 + 1) t _ _).run P w = _
  rw [Op.equalIn]
  simp only [Sem.run_bind, run_underlying h w, Result.andThen_ok]
  cases p <;> rfl
theorem eq_fun {t : TypeId} {a b : Array TypeId} {c : Bool} (v : Value) (h : P.underlying t = some (.func a b c)) (hv : v = .nilFunc ∨ ∃ f x y, v = .func f x y) : (Op.equal t v .nilFunc).run P w = .ok (match v with | .nilFunc => true | _ => false) w := by
  show (Op.equalIn (9999 + 1) t _ _).run P w = _
  rw [Op.equalIn]
  simp only [Sem.run_bind, run_underlying h w, Result.andThen_ok]
  rcases hv with rfl | ⟨f, x, y, rfl⟩ <;> rfl
theorem eq_sli {t e : TypeId} (p : Option Addr) (n c : Nat) (h : P.underlying t = some (.slice e)) : (Op.equal t (.slice p n c) (.slice none 0 0)).run P w = .ok p.isNone w := by
  show (Op.equalIn (9999 + 1) t _ _).run P w = _
  rw [Op.equalIn]
  simp only [Sem.run_bind, run_underlying h w, Result.andThen_ok]
  cases p <;> rfl
theorem eq_boo {t : TypeId} (x y : Bool) (h : P.underlying t = some .bool) : (Op.equal t (.bool x) (.bool y)).run P w = .ok (x == y) w := by
  show (Op.equalIn (9999 + 1) t _ _).run P w = _
  rw [Op.equalIn]
  simp only [Sem.run_bind, run_underlying h w, Result.andThen_ok]
  rfl
def Odd (u : Value) : Prop := (∀ cs, u ≠ .agg cs) ∧ u ≠ .nilIface ∧ (∀ k n, u ≠ .int k n) ∧ (∀ s, u ≠ .string s) ∧ (∀ k b, u ≠ .float k b) ∧ (∀ k a b, u ≠ .complex k a b)
theorem odd_ptr (p : Option Addr) : Odd (.pointer p) := ⟨by simp, by simp, by simp, by simp, by simp, by simp⟩
theorem odd_sli (p : Option Addr) (n c : Nat) : Odd (.slice p n c) := ⟨by simp, by simp, by simp, by simp, by simp, by simp⟩
theorem odd_boo (x : Bool) : Odd (.bool x) := ⟨by simp, by simp, by simp, by simp, by simp, by simp⟩
theorem odd_nil : Odd .nilFunc := ⟨by simp, by simp, by simp, by simp, by simp, by simp⟩
theorem odd_fun (f : Fn) (x y : Array Value) : Odd (.func f x y) := ⟨by simp, by simp, by simp, by simp, by simp, by simp⟩
/-- a value beside the constant nil (or a bool beside a bool) -/
theorem nilEq_ok (hH : ∀ α x, H α x = x) {σ : Sto} (hob : ∀ i o, look i σ = some o → RO (g i) (RVs g w ow) w ow o) {t : Nat} {T : TS} (hc : chkB P t T = true) {x y : V} {u v : Value} {K : Bool → Prop} (hx : RV g w ow x u) (hy : RV g w ow y v) {cy : Bool} (hny : cy = true → T.nk = 2 → y = .l 0 [] true → v = .slice none 0 0) (h : nilEq H σ T.nk cy x y K) :
    ∃ b, K b ∧ (Op.equal t u v).run P w = .ok b w ∧ Odd u := by
  obtain ⟨d, hd, hn⟩ := chk_nk hc
  rw [← hn] at h hny
  unfold nilEq at h
  split at h
  · rename_i hk
    obtain ⟨e, rfl⟩ : ∃ e, d = .pointer e := by cases d <;> simp [nkB] at hk; exact ⟨_, rfl⟩
    split at h
    · obtain rfl : u = _ := hx
      obtain rfl : v = _ := hy
      exact ⟨_, h, eq_ptr none hd, odd_ptr _⟩
    · obtain ⟨b, o, rfl, -⟩ := hx
      obtain rfl : v = _ := hy
      exact ⟨_, h, eq_ptr (some _) hd, odd_ptr _⟩
    · obtain ⟨rfl, -⟩ := hx
      obtain rfl : v = _ := hy
      exact ⟨_, h, eq_ptr (some _) hd, odd_ptr _⟩
    · obtain ⟨_, _, rfl, -⟩ := hx
      obtain rfl : v = _ := hy
      exact ⟨_, h, eq_ptr (some _) hd, odd_ptr _⟩
    · exact h.elim
  · rename_i hk
    obtain ⟨e, rfl⟩ : ∃ e, d = .slice e := by cases d <;> simp [nkB] at hk; exact ⟨_, rfl⟩
    cases cy
    · exact h.elim
    · simp only at h
      split at h
      · obtain rfl := hny rfl rfl rfl
        obtain ⟨a, len, cap, rfl, hl, -, hr⟩ := hx
        refine ⟨_, h a.isNone (fun ha => ?_), eq_sli _ _ _ hd, odd_sli _ _ _⟩
        rcases hr with h0 | ⟨_, b, o, rfl, _⟩
        · omega
        · cases ha
      · rename_i o lo n sz full
        obtain rfl := hny rfl rfl rfl
        obtain ⟨a, len, cap, rfl, hl, hr⟩ := hx
        have hz : a.isNone = true → n = 0 ∧ (g o).vi = true := fun ha => by
          rcases hr with ⟨h0, _, h1⟩ | ⟨_, l, _, rfl, _⟩
          · refine ⟨by omega, ?_⟩
            cases hv : (g o).vi with
            | true => rfl
            | false => have := h1 hv; rw [Option.isNone_iff_eq_none] at ha; rw [ha] at this; cases this
          · cases ha
        split at h
        · rename_i N cs e hlk
          refine ⟨_, h a.isNone (fun ha => ⟨(hz ha).1, ?_⟩), eq_sli _ _ _ hd, odd_sli _ _ _⟩
          rcases (hob _ _ hlk).2.2 with h3 | ⟨h3, -⟩
          · exact h3.2
          · rw [(hz ha).2] at h3; cases h3
        · exact ⟨_, h a.isNone (fun ha => (hz ha).1), eq_sli _ _ _ hd, odd_sli _ _ _⟩
      · obtain rfl : u = _ := hx
        obtain rfl := hny rfl rfl rfl
        exact ⟨_, h, eq_sli (some _) _ _ hd, odd_sli _ _ _⟩
      · exact h.elim
  · rename_i hk
    obtain ⟨e, e', e'', rfl⟩ : ∃ e e' e'', d = .func e e' e'' := by cases d <;> simp [nkB] at hk; exact ⟨_, _, _, rfl⟩
    split at h
    · obtain rfl : u = _ := hx
      obtain rfl : v = _ := hy
      exact ⟨_, h, eq_fun _ hd (.inl rfl), odd_nil⟩
    · obtain ⟨_, rfl, -⟩ := hx
      obtain rfl : v = _ := hy
      exact ⟨_, h, eq_fun _ hd (.inr ⟨_, _, _, rfl⟩), odd_fun _ _ _⟩
    · exact h.elim
  · rename_i hk
    obtain rfl : d = .bool := by cases d <;> simp [nkB] at hk; rfl
    split at h
    · obtain rfl : u = _ := hx
      obtain rfl : v = _ := hy
      rw [hH] at h
      exact ⟨_, h, eq_boo _ _ hd, odd_boo _⟩
    · exact h.elim
  · exact h.elim
theorem binOp_eql {t : TypeId} {u v : Value} (h : Odd u) (b : Bool) (he : (Op.equal t u v).run P w = .ok b w) : (binOp .eql t u v).run P w = .ok (.bool b) w := by
  obtain ⟨h1, h2, h3, h4, h5, h6⟩ := h
  have : binOp .eql t u v = (do pure (.bool (← Op.equal t u v))) := by
    cases u <;> first | rfl | exact absurd rfl (h3 _ _) | exact absurd rfl (h4 _) | exact absurd rfl (h5 _ _) | exact absurd rfl (h6 _ _ _) | skip
  rw [this]; simp [he]
theorem binOp_neq {t : TypeId} {u v : Value} (h : Odd u) (b : Bool) (he : (Op.equal t u v).run P w = .ok b w) : (binOp .neq t u v).run P w = .ok (.bool !b) w := by
  obtain ⟨h1, h2, h3, h4, h5, h6⟩ := h
  have : binOp .neq t u v = (do pure (.bool !(← Op.equal t u v))) := by
    cases u <;> first | rfl | exact absurd rfl (h3 _ _) | exact absurd rfl (h4 _) | exact absurd rfl (h5 _ _) | exact absurd rfl (h6 _ _ _) | skip
  rw [this]; simp [he]
theorem str_beq (a b : Str) : (a == b) = decide (a = b) := by rw [Bool.eq_iff_iff]; simp
theorem str_cat (a b : Str) : (⟨a.toArray⟩ : ByteArray) ++ (⟨b.toArray⟩ : ByteArray) = ⟨(a ++ b).toArray⟩ := by
  apply ByteArray.ext
  simp
theorem notB_ok (hH : ∀ α x, H α x = x) {nk : Nat} {b : Bool} {K : V → Prop} (h : notB H nk b K) : K (.b (!b)) := by
  unfold notB at h
  split at h
  · rw [hH] at h; exact h
  · cases b <;> exact h
/-! ### structs cell by cell -/
def vEq : List Nat → List Value → List Value → Option Bool
  | [], [], [] => some true
  | 10 :: ks, .int k m :: xs, .int k' n :: ys => match decide (k = k'), vEq ks xs ys with
    | true, some b => some (decide (m = n) && b)
    | _, _ => none
  | 9 :: ks, .string a :: xs, .string b :: ys => match vEq ks xs ys with
    | some c => some (a == b && c)
    | _ => none
  | 6 :: ks, .bool a :: xs, .bool b :: ys => match vEq ks xs ys with
    | some c => some (decide (a = b) && c)
    | _ => none
  | _, _, _ => none
theorem vEq_len : ∀ {ks : List Nat} {xs ys : List Value} {b : Bool}, vEq ks xs ys = some b → xs.length = ks.length ∧ ys.length = ks.length := by
  intro ks xs ys b h
  fun_induction vEq ks xs ys generalizing b <;> simp_all
theorem vEq_app : ∀ {ks ls : List Nat} {xs ys xs' ys' : List Value} {b : Bool}, xs.length = ks.length → ys.length = ks.length → vEq (ks ++ ls) (xs ++ xs') (ys ++ ys') = some b → ∃ c d, vEq ks xs ys = some c ∧ vEq ls xs' ys' = some d ∧ b = (c && d) := by
  intro ks ls xs ys xs' ys' b h1 h2 h
  induction ks generalizing xs ys b with
  | nil =>
    obtain rfl : xs = [] := List.eq_nil_of_length_eq_zero (by simpa using h1)
    obtain rfl : ys = [] := List.eq_nil_of_length_eq_zero (by simpa using h2)
    exact ⟨true, b, rfl, by simpa using h, by simp⟩
  | cons k ks ih =>
    match xs, ys, h1, h2 with
    | x :: xs, y :: ys, h1, h2 =>
      have l1 : xs.length = ks.length := by simpa using h1
      have l2 : ys.length = ks.length := by simpa using h2
      clear h1 h2
      simp only [List.cons_append] at h
      unfold vEq at h
      split at h
      · rename_i e _ _; cases e
      · rename_i ks0 k1 m xs0 k2 n ys0 e1 e2 e3
        cases e1; cases e2; cases e3
        split at h
        · rename_i b0 e4 e5
          cases h
          obtain ⟨c, d, h6, h7, rfl⟩ := ih l1 l2 e5
          exact ⟨decide (m = n) && c, d, by simp [vEq, e4, h6], h7, by rw [Bool.and_assoc]⟩
        · cases h
      · rename_i ks0 a xs0 a' ys0 e1 e2 e3
        cases e1; cases e2; cases e3
        split at h
        · rename_i b0 e5
          cases h
          obtain ⟨c, d, h6, h7, rfl⟩ := ih l1 l2 e5
          exact ⟨a == a' && c, d, by simp [vEq, h6], h7, by rw [Bool.and_assoc]⟩
        · cases h
      · rename_i ks0 a xs0 a' ys0 e1 e2 e3
        cases e1; cases e2; cases e3
        split at h
        · rename_i b0 e5
          cases h
          obtain ⟨c, d, h6, h7, rfl⟩ := ih l1 l2 e5
          exact ⟨decide (a = a') && c, d, by simp [vEq, h6], h7, by rw [Bool.and_assoc]⟩
        · cases h
      · cases h
theorem ba_eq (a b : Str) : ((⟨a.toArray⟩ : ByteArray) == ⟨b.toArray⟩) = decide (a = b) := by
  rw [beq_toListBytes, ByteArray.toList_eq, ByteArray.toList_eq]
  simp [str_beq]
theorem eqc_vEq {xs ys : List V} {us vs : List Value} {ks : List Nat} {b : Bool} (hx : RVs g w ow xs us) (hy : RVs g w ow ys vs) (h : eqc ks xs ys = some b) : vEq ks us vs = some b := by
  fun_induction eqc ks xs ys generalizing us vs b with
  | case1 =>
    match us, vs, hx, hy with
    | [], [], _, _ => exact h
  | case2 ks k m xs k' n ys b0 e1 e2 ih =>
    match us, vs, hx, hy with
    | u :: us, v :: vs, hx, hy =>
      obtain rfl : u = _ := hx.1
      obtain rfl : v = _ := hy.1
      simp only [vEq, e2, ih hx.2 hy.2 e1]
      exact h
  | case3 => cases h
  | case4 ks a xs a' ys c e2 ih =>
    match us, vs, hx, hy with
    | u :: us, v :: vs, hx, hy =>
      obtain rfl : u = _ := hx.1
      obtain rfl : v = _ := hy.1
      simp only [vEq, ih hx.2 hy.2 e2, ba_eq]
      exact h
  | case5 => cases h
  | case6 ks a xs a' ys c e2 ih =>
    match us, vs, hx, hy with
    | u :: us, v :: vs, hx, hy =>
      obtain rfl : u = _ := hx.1
      obtain rfl : v = _ := hy.1
      simp only [vEq, ih hx.2 hy.2 e2]
      exact h
  | case7 => cases h
  | case8 => cases h
def EqA (P : Program) (w : World) (d : Nat) (ks : List Nat) (t : TypeId) : Prop := ∀ x y b, (∀ xs, x = .agg xs → ∃ fs, P.underlying t = some (.struct fs)) → (∀ ys, y = .agg ys → ∃ fs, P.underlying t = some (.struct fs)) → ((∃ fs, P.underlying t = some (.struct fs)) → (∃ xs, x = .agg xs) ∧ ∃ ys, y = .agg ys) → vEq ks x.cells.toList y.cells.toList = some b → (Op.equalIn d t x y).run P w = .ok b w
theorem ceL_row {t : TypeId} {m : Nat} {ks : List Nat} (h : ceL P m t = some ks) : ∃ d, P.underlying t = some d ∧ (d = .bool ∨ (∃ k, d = .int k) ∨ d = .string ∨ ∃ fs, d = .struct fs) := by
  cases m with
  | zero => cases h
  | succ m =>
    simp only [ceL] at h
    split at h
    · rename_i e; exact ⟨_, e, .inl rfl⟩
    · rename_i e; exact ⟨_, e, .inr (.inl ⟨_, rfl⟩)⟩
    · rename_i e; exact ⟨_, e, .inr (.inr (.inl rfl))⟩
    · rename_i e; exact ⟨_, e, .inr (.inr (.inr ⟨_, rfl⟩))⟩
    · cases h
theorem part_row {t : TypeId} {ks : List Nat} {m : Nat} {i : TypeInfo} (h : ceL P m t = some ks) (hi : P.info? t = some i) (hs : i.size = ks.length) {xs : Array Value} {off : Nat} (hl : off + ks.length ≤ xs.size) (hk : (∃ fs, P.underlying t = some (.struct fs)) ∨ ks.length = 1) (hone : ∀ v ∈ xs.toList, ∀ us, v ≠ .agg us) :
    ∃ a, (part t xs off).run P w = .ok a w ∧ a.cells.toList = (xs.toList.drop off).take ks.length ∧ (∀ us, a = .agg us → ∃ fs, P.underlying t = some (.struct fs)) ∧ ((∃ fs, P.underlying t = some (.struct fs)) → ∃ us, a = .agg us) := by
  obtain ⟨d, hd, hk'⟩ := ceL_row h
  have leaf : (∀ fs, d ≠ .struct fs) → (isAgg t).run P w = .ok false w → ∃ a, (part t xs off).run P w = .ok a w ∧ a.cells.toList = (xs.toList.drop off).take ks.length ∧ (∀ us, a = .agg us → ∃ fs, P.underlying t = some (.struct fs)) ∧ ((∃ fs, P.underlying t = some (.struct fs)) → ∃ us, a = .agg us) := fun hn ha => by
    have hl1 : ks.length = 1 := hk.resolve_left (fun ⟨fs, e⟩ => by rw [hd] at e; cases e; exact hn fs rfl)
    have hlt : off < xs.size := by omega
    have hmem : xs[off] ∈ xs.toList := by simp
    refine ⟨xs[off], by simp [part, ha, hlt], ?_, fun us e => absurd e (hone _ hmem us), fun ⟨fs, e⟩ => by rw [hd] at e; cases e; exact absurd rfl (hn fs)⟩
    rw [hl1, List.take_one, List.head?_drop]
    have : (xs[off]).cells.toList = [xs[off]] := by
      have := hone _ hmem
      generalize xs[off] = v at this
      cases v <;> first | rfl | exact absurd rfl (this _)
    rw [this]
    simp [hlt]
  rcases hk' with rfl | ⟨k, rfl⟩ | rfl | ⟨fs, rfl⟩
  · exact leaf (by simp) (by simp [isAgg, run_underlying hd])
  · exact leaf (by simp) (by simp [isAgg, run_underlying hd])
  · exact leaf (by simp) (by simp [isAgg, run_underlying hd])
  · refine ⟨.agg (xs.extract off (off + ks.length)), ?_, ?_, fun us e => ⟨fs, hd⟩, fun _ => ⟨_, rfl⟩⟩
    · simp [part, isAgg, run_underlying hd, sizeOf, typeInfo, hi, hs]
    · simp [Value.cells, List.extract]
theorem vEq_one {ks : List Nat} {xs ys : List Value} {b : Bool} (h : vEq ks xs ys = some b) : (∀ v ∈ xs, ∀ us, v ≠ .agg us) ∧ (∀ v ∈ ys, ∀ us, v ≠ .agg us) := by
  fun_induction vEq ks xs ys generalizing b <;> simp_all
theorem eqF_ok {d : Nat} {rec : TypeId → Option (List Nat)} {m : Nat} (hrec : rec = ceL P m) (hA : ∀ t ks, rec t = some ks → EqA P w d ks t) (hone : ∀ t ks, rec t = some ks → (∃ fs, P.underlying t = some (.struct fs)) ∨ ks.length = 1) {xs ys : Array Value} (hx1 : ∀ v ∈ xs.toList, ∀ us, v ≠ .agg us) (hy1 : ∀ v ∈ ys.toList, ∀ us, v ≠ .agg us) :
    ∀ (fs : List Field) (off : Nat) (ks : List Nat) (b : Bool), ceF P rec fs off = some ks → off + ks.length = xs.size → off + ks.length = ys.size → vEq ks (xs.toList.drop off) (ys.toList.drop off) = some b → (Op.eqFields d xs ys fs).run P w = .ok b w
  | [], off, ks, b, hc, hlx, hly, h => by
    simp only [ceF, Option.some.injEq] at hc
    subst hc
    have e1 : xs.toList.drop off = [] := List.drop_eq_nil_of_le (by simp at hlx ⊢; omega)
    have e2 : ys.toList.drop off = [] := List.drop_eq_nil_of_le (by simp at hly ⊢; omega)
    rw [e1, e2] at h
    cases h
    simp [Op.eqFields]
  | f :: fs, off, ks, b, hc, hlx, hly, h => by
    simp only [ceF] at hc
    split at hc
    · rename_i a i hn ho ha hi
      split at hc
      · rename_i q hs hr
        cases hc
        have ho : f.offset = off := by simpa using ho
        have hn : f.name ≠ "_" := of_decide_eq_true hn
        have hs : i.size = a.length := by simpa using hs
        simp only [List.length_append] at hlx hly
        have e1 : xs.toList.drop off = (xs.toList.drop off).take a.length ++ xs.toList.drop (off + a.length) := by rw [← List.drop_drop, List.take_append_drop]
        have e2 : ys.toList.drop off = (ys.toList.drop off).take a.length ++ ys.toList.drop (off + a.length) := by rw [← List.drop_drop, List.take_append_drop]
        rw [e1, e2] at h
        obtain ⟨c, e, h1, h2, rfl⟩ := vEq_app (by simp; omega) (by simp; omega) h
        have hac : ceL P m f.type = some a := by rw [← hrec]; exact ha
        obtain ⟨p, p1, p2, p3, p4⟩ := part_row (w := w) hac hi hs (xs := xs) (off := off) (by omega) (hone _ _ ha) hx1
        obtain ⟨p', q1, q2, q3, q4⟩ := part_row (w := w) hac hi hs (xs := ys) (off := off) (by omega) (hone _ _ ha) hy1
        have h3 := hA _ _ ha p p' c p3 q3 (fun h => ⟨p4 h, q4 h⟩) (by rw [p2, q2]; exact h1)
        have ih := eqF_ok hrec hA hone hx1 hy1 fs (off + a.length) q e hr (by omega) (by omega) h2
        simp only [Op.eqFields, hn, ne_eq, not_false_eq_true, if_true, ho, Sem.run_bind, p1, q1, h3, Result.andThen_ok]
        cases c
        · simp
        · simpa using ih
      · cases hc
    · cases hc
theorem ceL_one {t : TypeId} {m : Nat} {ks : List Nat} (h : ceL P m t = some ks) : (∃ fs, P.underlying t = some (.struct fs)) ∨ ks.length = 1 := by
  cases m with
  | zero => cases h
  | succ m =>
    simp only [ceL] at h
    split at h
    · cases h; exact .inr rfl
    · cases h; exact .inr rfl
    · cases h; exact .inr rfl
    · rename_i e; exact .inl ⟨_, e⟩
    · cases h
theorem eqL_ok (d : Nat) : ∀ (m : Nat) (t : TypeId) (ks : List Nat), ceL P m t = some ks → EqA P w (d + m) ks t
  | 0, _, _, h => by cases h
  | m + 1, t, ks, h => by
    intro x y b hx hy hxy he
    have ih := eqL_ok d m
    simp only [ceL] at h
    have cell : ∀ {v : Value}, (∀ us, v ≠ .agg us) → v.cells.toList = [v] := fun {v} hv => by cases v <;> first | rfl | exact absurd rfl (hv _)
    split at h
    · rename_i hu
      cases h
      have hx' : ∀ us, x ≠ .agg us := fun us e => by obtain ⟨fs, hf⟩ := hx us e; rw [hu] at hf; cases hf
      have hy' : ∀ us, y ≠ .agg us := fun us e => by obtain ⟨fs, hf⟩ := hy us e; rw [hu] at hf; cases hf
      rw [cell hx', cell hy'] at he
      cases x <;> cases y <;> first | (simp [vEq] at he; done) | skip
      simp [vEq] at he
      subst he
      rw [show d + (m + 1) = d + m + 1 from rfl, run_equalIn_bool w _ t _ _ hu]
      rfl
    · rename_i k hu
      cases h
      have hx' : ∀ us, x ≠ .agg us := fun us e => by obtain ⟨fs, hf⟩ := hx us e; rw [hu] at hf; cases hf
      have hy' : ∀ us, y ≠ .agg us := fun us e => by obtain ⟨fs, hf⟩ := hy us e; rw [hu] at hf; cases hf
      rw [cell hx', cell hy'] at he
      cases x <;> cases y <;> first | (simp [vEq] at he; done) | skip
      rename_i k1 a k2 b'
      simp only [vEq] at he
      split at he
      · rename_i b0 h1 h2
        obtain rfl := of_decide_eq_true h1
        cases h2; cases he
        rw [show d + (m + 1) = d + m + 1 from rfl, run_equalIn_int w _ t _ _ _ _ hu]
        simp [BEq.beq]
      · cases he
    · rename_i hu
      cases h
      have hx' : ∀ us, x ≠ .agg us := fun us e => by obtain ⟨fs, hf⟩ := hx us e; rw [hu] at hf; cases hf
      have hy' : ∀ us, y ≠ .agg us := fun us e => by obtain ⟨fs, hf⟩ := hy us e; rw [hu] at hf; cases hf
      rw [cell hx', cell hy'] at he
      cases x <;> cases y <;> first | (simp [vEq] at he; done) | skip
      simp [vEq] at he
      subst he
      rw [show d + (m + 1) = d + m + 1 from rfl, run_equalIn_string w _ t _ _ hu, ← beq_toListBytes]
    · rename_i fs hu
      split at h
      · cases h
      · rename_i hst
        obtain ⟨⟨xs, rfl⟩, ys, rfl⟩ := hxy ⟨fs, hu⟩
        simp only [Value.cells] at he
        obtain ⟨l1, l2⟩ := vEq_len he
        obtain ⟨o1, o2⟩ := vEq_one he
        have hf : P.fieldsOf t = fs := by simp [Program.fieldsOf, hu]
        rw [show d + (m + 1) = d + m + 1 from rfl, run_equalIn_struct w (d + m) t xs ys (by rw [hf]; exact hu) hst, hf]
        exact eqF_ok rfl (fun t ks ht => ih t ks ht) (fun t ks ht => ceL_one ht) o1 o2 fs.toList 0 ks b h (by simp at l1; omega) (by simp at l2; omega) (by simpa using he)
    · cases h
theorem vbin_ok (hH : ∀ α x, H α x = x) (hT : TTok P TT) {σ : Sto} (hob : ∀ i o, look i σ = some o → RO (g i) (RVs g w ow) w ow o) {op : BinOp} {t : Nat} {cy : Bool} {x y : V} {xo yo : Operand} {u v : Value} {K : V → Prop} (hx : RV g w ow x u) (hy : RV g w ow y v) (hny : cy = true → y = .l 0 [] true → v = .slice none 0 0) (h : vbin H TT σ op t cy x y K) :
    ∃ r val, K r ∧ RV g w ow r val ∧ (eqGuard op t xo yo u v).run P w = .ok () w ∧ (binOp op t u v).run P w = .ok val w := by
  unfold vbin at h
  split at h
  · obtain rfl : u = _ := hx
    obtain rfl : v = _ := hy
    split at h
    · simp only [ob, hH, decide_eq_true_eq] at h
      exact ⟨_, _, h.2, rfl, eqGuard_plain (by simp) (by simp), by simp [binOp, Op.shift, Int.not_lt.2 h.1]⟩
    · simp only [ob, hH, decide_eq_true_eq] at h
      exact ⟨_, _, h.2, rfl, eqGuard_plain (by simp) (by simp), by simp [binOp, Op.shift, Int.not_lt.2 h.1]⟩
    · split at h
      · rename_i hk
        obtain rfl := of_decide_eq_true hk
        obtain ⟨r, val, h1, h2, h3⟩ := arith_ok (P := P) (g := g) (w := w) (ow := ow) hH h t
        exact ⟨r, val, h1, h2, eqGuard_plain (by simp) (by simp), h3⟩
      · exact h.elim
  · obtain rfl : u = _ := hx
    obtain rfl : v = _ := hy
    split at h
    · simp only [ob, hH, decide_eq_true_eq] at h
      refine ⟨_, _, h.2, rfl, eqGuard_plain (by simp) (by simp), ?_⟩
      have h1 := h.1
      simp only [binOp, Op.stringOp]
      rw [if_neg (by rw [show IntKind.i64.max = 9223372036854775807 from rfl]; simp [ByteArray.size]; omega), str_cat]
      rfl
    · rw [hH] at h
      exact ⟨_, _, h, rfl, eqGuard_plain (by simp) (by simp), by simp [binOp, Op.stringOp, str_beq]⟩
    · rw [hH] at h
      exact ⟨_, _, h, rfl, eqGuard_plain (by simp) (by simp), by simp [binOp, Op.stringOp, str_beq]⟩
    · exact h.elim
  · rename_i xs ys
    obtain ⟨us, rfl, hus⟩ := hx
    obtain ⟨vs, rfl, hvs⟩ := hy
    obtain ⟨T, -, h, hc⟩ := ty_ok hT h
    split at h
    · exact h.elim
    · rename_i hne
      obtain ⟨c1, c2, c3⟩ := chk_eqk hc hne
      have heq : ∀ b, eqc T.eqk xs ys = some b → (Op.equalIn 10000 t (.agg us) (.agg vs)).run P w = .ok b w := fun b hb => by
        obtain ⟨d, hd, hd2⟩ := ceL_row c1
        obtain ⟨d', i, hd', -, -, hag⟩ := chk_base hc
        rw [hd] at hd'; cases hd'
        rw [c3] at hag
        have hst : ∃ fs, d = .struct fs := by
          rcases hd2 with rfl | ⟨k, rfl⟩ | rfl | h
          · cases hag
          · cases hag
          · cases hag
          · exact h
        obtain ⟨fs, rfl⟩ := hst
        exact eqL_ok (w := w) 9994 6 t _ c1 (.agg us) (.agg vs) b (fun _ _ => ⟨fs, hd⟩) (fun _ _ => ⟨fs, hd⟩) (fun _ => ⟨⟨_, rfl⟩, _, rfl⟩) (eqc_vEq hus hvs hb)
      split at h
      · obtain ⟨b, hb, hk⟩ := need_some h
        rw [hH] at hk
        exact ⟨_, _, hk, rfl, run_eqGuard_agg w _ t _ _ _ _ c2, by rw [run_eql_struct, heq b hb]; rfl⟩
      · obtain ⟨b, hb, hk⟩ := need_some h
        rw [hH] at hk
        exact ⟨_, _, hk, rfl, run_eqGuard_agg w _ t _ _ _ _ c2, by rw [run_neq_struct, heq b hb]; rfl⟩
      · exact h.elim
  · split at h
    · obtain ⟨T, rfl, h, hc⟩ := ty_ok hT h
      obtain ⟨b, h1, h2, h3⟩ := nilEq_ok (P := P) (w := w) hH hob hc hx hy (fun h _ => hny h) h
      exact ⟨_, _, h1, rfl, eqGuard_plain h3.1 h3.2.1, binOp_eql h3 b h2⟩
    · obtain ⟨T, rfl, h, hc⟩ := ty_ok hT h
      obtain ⟨b, h1, h2, h3⟩ := nilEq_ok (P := P) (w := w) hH hob hc hx hy (fun h _ => hny h) h
      have h1 := notB_ok hH h1
      exact ⟨_, _, h1, rfl, eqGuard_plain h3.1 h3.2.1, binOp_neq h3 b h2⟩
    · exact h.elim
end
end Go.Proofs.Ytilmhjojbolbeaa.AM

namespace Go.Proofs.Ytilmhjojbolbeaa.AM
open Go

section
variable {P : Program} {H : (α : Type) → α → α} {TT : Nat → TS} {w0 : World} {S0 : Fr} {N : Nat} {g : G} {s : S} {a : Act} {w : World}
/-- a value and a computation that gives it -/
def Gives (P : Program) (g : G) (w : World) (ow : Nat → Prop) (m : Sem Value) (K : V → Prop) : Prop := ∃ r val, K r ∧ RV g w ow r val ∧ m.run P w = .ok val w
theorem nth_eq {α : Type} : ∀ (l : List α) (i : Nat), nth l i = l[i]?
  | [], i => by simp [nth]
  | x :: _, 0 => by simp [nth]
  | _ :: r, i + 1 => by simpa [nth] using nth_eq r i
theorem fB_at {fs : List (Nat × Bool × Nat)} : ∀ {gs : List Field} {i : Nat} {x : Nat × Bool × Nat}, fB P fs gs = true → nth fs i = some x → ∃ f d t, gs[i]? = some f ∧ f.offset = x.1 ∧ P.underlying f.type = some d ∧ agB d = x.2.1 ∧ P.info? f.type = some t ∧ t.size = x.2.2 ∧ 0 < x.2.2 := by
  induction fs with
  | nil => intro gs i x _ h; simp [nth] at h
  | cons y fs ih =>
    intro gs i x h hx
    obtain ⟨off, ag, sz⟩ := y
    cases gs with
    | nil => simp [fB] at h
    | cons f gs =>
      simp only [fB, Bool.and_eq_true, beq_iff_eq, decide_eq_true_eq] at h
      obtain ⟨⟨⟨h1, h2⟩, h3⟩, h4⟩ := h
      cases i with
      | zero =>
        simp only [nth] at hx; cases hx
        split at h1
        · rename_i d t e1 e2
          simp only [Bool.and_eq_true, beq_iff_eq] at h1
          exact ⟨f, d, t, by simp, h2, e1, h1.1, e2, h1.2, h3⟩
        · cases h1
      | succ i =>
        obtain ⟨f', d, t, e, r⟩ := ih h4 (by simpa [nth] using hx)
        exact ⟨f', d, t, by simpa using e, r⟩
theorem chk_struct {t : Nat} {T : TS} {fs : Array Field} (h : chkB P t T = true) (hu : P.underlying t = some (.struct fs)) : fB P T.fs fs.toList = true ∧ T.arr = none := by
  unfold chkB at h
  rw [hu] at h
  split at h
  · rename_i d i h1 h2
    cases h1
    simp only [Bool.and_eq_true, beq_iff_eq] at h
    refine ⟨h.2.1, ?_⟩
    have := h.2.2
    split at this
    · cases this
    · assumption
  · cases h
/-- a struct's field, in memory -/
theorem field_run {t : Nat} {T : TS} {i : Nat} {x : Nat × Bool × Nat} (hc : chkB P t T = true) {fs : Array Field} (hu : P.underlying t = some (.struct fs)) (hx : nth T.fs i = some x) (b o : Nat) :
    (Instr.fieldAt t (.pointer (some ⟨b, o, none⟩)) i).run P w = .ok (.pointer (some ⟨b, o + x.1, none⟩)) w := by
  obtain ⟨f, d, j, h1, h2, h3, h4, h5, h6, h7⟩ := fB_at (chk_struct hc hu).1 hx
  have h1 : fs[i]? = some f := by simpa using h1
  unfold Instr.fieldAt
  simp only [Sem.run_bind, run_underlying hu w, Result.andThen_ok, h1, Instr.sureAddr, Sem.run_pure, fieldPlace, sizeOf, typeInfo, run_program, h5]
  rw [if_neg (by omega)]
  simp [Addr.add_lit, h2]
theorem fieldAddr_ok (hT : TTok P TT) {t : Nat} {T : TS} {i : Nat} {x : Nat × Bool × Nat} (hc : chkB P t T = true) (hx : nth T.fs i = some x) (hd : ∃ fs, P.underlying t = some (.struct fs)) {v : V} {u : Value} {ow : Nat → Prop} {K : V → Prop} (hv : RV g w ow v u)
    (h : match (generalizing := false) v with
      | .p cs => K (.p (dp x.1 cs))
      | .pt i o' => K (.pt i (o' + x.1))
      | .pe i j sz c => K (.pe i j sz (c + x.1))
      | _ => False) : Gives P g w ow (Instr.fieldAt t u i) K := by
  obtain ⟨fs, hu⟩ := hd
  cases v <;> simp only at h
  case p cs =>
    obtain ⟨b, o, rfl, hb, hl, hr⟩ := hv
    refine ⟨_, _, h, ⟨b, o + x.1, rfl, hb, hl, ?_⟩, field_run hc hu hx b o⟩
    rw [dp_eq]
    exact RCs_drop _ _ _ _ _ hr
  case pt i o' =>
    obtain ⟨rfl, h1⟩ := hv
    exact ⟨_, _, h, ⟨rfl, h1⟩, field_run hc hu hx _ _⟩
  case pe i j sz c =>
    obtain ⟨q, rfl, rfl, h1⟩ := hv
    exact ⟨_, _, h, ⟨q, rfl, by rw [Nat.add_assoc], h1⟩, field_run hc hu hx _ _⟩
theorem index_run {t e : TypeId} {i : TypeInfo} (hu : P.underlying t = some (.slice e)) (hi : P.info? e = some i) (b o len cap j : Nat) (k : IntKind) (hj : j < len) :
    (Instr.indexAt t (.slice (some ⟨b, o, none⟩) len cap) (.int k j)).run P w = .ok (.pointer (some ⟨b, o + j * i.size, none⟩)) w := by
  unfold Instr.indexAt
  simp only [asIntOf, Sem.run_bind, Sem.run_pure, Result.andThen_ok, run_underlying hu w]
  rw [if_pos ⟨by omega, by omega⟩]
  simp [sizeOf, typeInfo, hi, Addr.add_lit]
/-- the place of an element -/
theorem indexAddr_ok (hH : ∀ α x, H α x = x) {t e : Nat} {T : TS} (hc : chkB P t T = true) (hu : P.underlying t = some (.slice e)) {v : V} {u : Value} {ow : Nat → Prop} {K : V → Prop} {k : IntKind} {j : Int} (hv : RV g w ow v u)
    (h : match (generalizing := false) v with
      | .l n cs _ => ob (H Bool (decide (0 ≤ j ∧ j < n))) (Nat.beq cs.length T.esz = true ∧ K (.p (shs j cs)))
      | .sl o lo n sz _ => ob (H Bool (decide (0 ≤ j ∧ j < n))) (Nat.beq sz T.esz = true ∧ K (.pe o (H Int (lo + j)) sz 0))
      | _ => False) : Gives P g w ow (Instr.indexAt t u (.int k j)) K := by
  obtain ⟨-, i, hi, hsz, -, hpos, -, -⟩ := chk_slice hc hu
  cases v <;> simp only [ob, hH, decide_eq_true_eq] at h
  case l n cs f =>
    obtain ⟨a, len, cap, rfl, rfl, -, hr⟩ := hv
    obtain ⟨⟨h0, h1⟩, h2, h3⟩ := h
    have h2 := beq_iff.1 h2
    obtain ⟨q, rfl⟩ := Int.eq_ofNat_of_zero_le h0
    rcases hr with hr | ⟨-, b, o, rfl, hb, hl, hr⟩
    · omega
    · refine ⟨_, _, h3, ⟨b, o + q * cs.length, rfl, hb, hl, RCs_sh _ _ [] _ _ (hr q (by omega))⟩, ?_⟩
      have := index_run (P := P) (w := w) hu hi b o len cap q k (by omega)
      rw [h2, ← hsz]; exact this
  case sl o lo n sz f =>
    obtain ⟨a, len, cap, rfl, rfl, hr⟩ := hv
    obtain ⟨⟨h0, h1⟩, h2, h3⟩ := h
    have h2 := beq_iff.1 h2
    obtain ⟨q, rfl⟩ := Int.eq_ofNat_of_zero_le h0
    rcases hr with ⟨rfl, -⟩ | ⟨hvi, l, rfl, rfl, hcap, hln, rfl, -⟩
    · omega
    · refine ⟨_, _, h3, ⟨l + q, by omega, rfl, hvi, by omega, rfl⟩, ?_⟩
      have := index_run (P := P) (w := w) hu hi (g o).bl (l * (g o).sz) len cap q k (by omega)
      rw [hsz, ← h2] at this
      rw [this]
      congr 4
      rw [Nat.add_mul]; rfl
theorem indexStr_ok (hH : ∀ α x, H α x = x) {t : Nat} (hu : P.underlying t = some .string) {x : Str} {ow : Nat → Prop} {K : V → Prop} {k : IntKind} {j : Int}
    (h : ob (H Bool (decide (0 ≤ j ∧ j < x.length))) (K (.i .u8 (H Int (x.getD j.toNat 0).toNat)))) : Gives P g w ow (Instr.index t (.string ⟨x.toArray⟩) (.int k j)) K := by
  simp only [ob, hH, decide_eq_true_eq] at h
  obtain ⟨⟨h0, h1⟩, h2⟩ := h
  obtain ⟨q, rfl⟩ := Int.eq_ofNat_of_zero_le h0
  refine ⟨_, _, h2, rfl, ?_⟩
  have hq : q < x.length := by omega
  unfold Instr.index
  simp only [asIntOf, Sem.run_bind, Sem.run_pure, Result.andThen_ok, run_underlying hu w]
  have e : (⟨x.toArray⟩ : ByteArray)[q]? = some (x.getD q 0) := by
    rw [getElem?_pos (⟨x.toArray⟩ : ByteArray) q (by simpa [ByteArray.size] using hq)]
    rw [List.getD_eq_getElem?_getD, List.getElem?_eq_getElem hq]
    rfl
  simp [e]
end
end Go.Proofs.Ytilmhjojbolbeaa.AM

namespace Go.Proofs.Ytilmhjojbolbeaa.AM
open Go

section
variable {P : Program} {H : (α : Type) → α → α} {TT : Nat → TS} {g : G} {w : World} {ow : Nat → Prop}
/-- a bound that is given, or none -/
def OI : Option Int → Option Value → Prop
  | none, none => True
  | some n, some v => ∃ k, v = .int k n
  | _, _ => False
theorem bounds_run {isS : Bool} {len cap L U M : Nat} {lo hi mx : Option Value} {l h m : Option Int} (hl : OI l lo) (hh : OI h hi) (hm : OI m mx) (eL : l.getD 0 = (L : Int)) (eU : h.getD (len : Int) = (U : Int)) (eM : m.getD (cap : Int) = (M : Int))
    (hmh : h = none → m = none) (h1 : L ≤ U) (h2 : U ≤ M) (h3 : M ≤ cap) : (Instr.sliceBounds isS len cap lo hi mx).run P w = .ok (L, U, M) w := by
  unfold Instr.sliceBounds
  cases m with
  | none =>
    cases mx with
    | some => exact hm.elim
    | none =>
      obtain rfl : cap = M := by simp at eM; omega
      cases h with
      | none =>
        cases hi with
        | some => exact hh.elim
        | none =>
          obtain rfl : len = U := by simp at eU; omega
          cases l with
          | none => cases lo with | some => exact hl.elim | none => (obtain rfl : L = 0 := by simp at eL; omega); simp
          | some l => cases lo with
            | none => exact hl.elim
            | some lo =>
              obtain ⟨k, rfl⟩ := hl
              obtain rfl : l = L := by simpa using eL
              simp [run_sliceBound, h1]
      | some h => cases hi with
        | none => exact hh.elim
        | some hi =>
          obtain ⟨k, rfl⟩ := hh
          obtain rfl : h = U := by simpa using eU
          cases l with
          | none => cases lo with | some => exact hl.elim | none => (obtain rfl : L = 0 := by simp at eL; omega); simp [run_sliceBound, h2]
          | some l => cases lo with
            | none => exact hl.elim
            | some lo =>
              obtain ⟨k', rfl⟩ := hl
              obtain rfl : l = L := by simpa using eL
              simp [run_sliceBound, h1, h2]
  | some m => cases mx with
    | none => exact hm.elim
    | some mx =>
      obtain ⟨k, rfl⟩ := hm
      obtain rfl : m = M := by simpa using eM
      cases h with
      | none => cases hmh rfl
      | some h => cases hi with
        | none => exact hh.elim
        | some hi =>
          obtain ⟨k', rfl⟩ := hh
          obtain rfl : h = U := by simpa using eU
          cases l with
          | none => cases lo with | some => exact hl.elim | none => (obtain rfl : L = 0 := by simp at eL; omega); simp [run_sliceBound, h2, h3]
          | some l => cases lo with
            | none => exact hl.elim
            | some lo =>
              obtain ⟨k'', rfl⟩ := hl
              obtain rfl : l = L := by simpa using eL
              simp [run_sliceBound, h1, h2, h3]
theorem slice_run {t e : TypeId} {i : TypeInfo} (hu : P.underlying t = some (.slice e)) (hi : P.info? e = some i) {a : Option Addr} {len cap L U M : Nat} {lo hi' mx : Option Value} (hb : (Instr.sliceBounds true len cap lo hi' mx).run P w = .ok (L, U, M) w) :
    (Instr.sliceAt t (.slice a len cap) lo hi' mx).run P w = .ok (.slice (if M = L then a else a.map (·.add (L * i.size))) (U - L) (M - L)) w := by
  unfold Instr.sliceAt Instr.slice
  simp [run_underlying hu w, hb, sizeOf, typeInfo, hi]
theorem str_run {t : TypeId} (hu : P.underlying t = some .string) {x : ByteArray} {L U M : Nat} {lo hi' : Option Value} (hb : (Instr.sliceBounds false x.size x.size lo hi' none).run P w = .ok (L, U, M) w) :
    (Instr.sliceAt t (.string x) lo hi' none).run P w = .ok (.string (x.extract L U)) w := by
  unfold Instr.sliceAt Instr.slice
  simp [run_underlying hu w, hb]
theorem optI_ok {w0 : World} {S0 : Fr} {N : Nat} {s : S} {a : Act} (h : Rel w0 S0 N g s a.tmps w) {x : Option Operand} {r : Option Int} (hx : optI s x = some r) : OI r (x.map a.eval) := by
  cases x with
  | none => simp [optI] at hx; subst hx; trivial
  | some x =>
    simp only [optI] at hx
    split at hx
    · rename_i k n he; cases hx; exact ⟨k, ev_ok h he⟩
    · cases hx
theorem nat_of {z : Int} (h : 0 ≤ z) : ∃ n : Nat, z = n := Int.eq_ofNat_of_zero_le h
/-- of a slice of memory that stays, a slice -/
theorem sliceL_ok {t e : TypeId} {T : TS} (hc : chkB P t T = true) (hu : P.underlying t = some (.slice e)) {n l h m : Int} {cs : List C} {full f' : Bool} {u : Value} {lo hi mx : Option Value} {ol oh om : Option Int} (hv : RV g w ow (.l n cs full) u) (hsz : Nat.beq cs.length T.esz = true)
    (hl : OI ol lo) (hh : OI oh hi) (hm : OI om mx) (el : ol.getD 0 = l) (eh : oh.getD n = h) (em : om = none ∨ om = some h) (hmh : oh = none → om = none) (h0 : 0 ≤ l) (h1 : l ≤ h) (h2 : h ≤ n) (hf : f' = true → om = some h ∨ (full = true ∧ h = n)) :
    ∃ val, RV g w ow (.l (h - l) (frs l cs) f') val ∧ (Instr.sliceAt t u lo hi mx).run P w = .ok val w := by
  obtain ⟨a, len, cap, rfl, rfl, hfull, hr⟩ := hv
  obtain ⟨-, i, hi', hsz', -, hpos, -⟩ := chk_slice hc hu
  have hsz := beq_iff.1 hsz
  obtain ⟨L, rfl⟩ := nat_of h0
  obtain ⟨U, rfl⟩ := nat_of (Int.le_trans h0 h1)
  obtain ⟨hcap, hfull⟩ := hfull
  obtain ⟨M, eM, hUM, hMc, hM⟩ : ∃ M : Nat, om.getD (cap : Int) = (M : Int) ∧ U ≤ M ∧ M ≤ cap ∧ (om = some (U : Int) → M = U) := by
    rcases em with rfl | rfl
    · exact ⟨cap, rfl, by omega, Nat.le_refl _, fun h => by cases h⟩
    · exact ⟨U, rfl, Nat.le_refl _, by omega, fun _ => rfl⟩
  refine ⟨_, ?_, slice_run hu hi' (bounds_run hl hh hm el eh eM hmh (by omega) hUM hMc)⟩
  refine ⟨_, U - L, M - L, rfl, by omega, ⟨by omega, fun h => ?_⟩, ?_⟩
  · rcases hf h with h | ⟨h, h'⟩
    · rw [hM h]
    · have := hfull h
      rcases em with rfl | rfl
      · simp at eM; omega
      · rw [hM rfl]
  · by_cases hz : U - L = 0
    · exact .inl hz
    · rcases hr with hr | ⟨-, b, o, rfl, hb, hlt, hr⟩
      · omega
      · refine .inr ⟨by rw [frs_length, hsz]; exact hpos, b, o + L * cs.length, ?_, hb, hlt, fun j hj => ?_⟩
        · rw [if_neg (by omega)]; simp [Addr.add_lit, hsz', hsz]
        · have := hr (j + L) (by omega)
          rw [frs_length, show o + L * cs.length + j * cs.length = o + (j + L) * cs.length by rw [Nat.add_mul]; omega]
          exact RCs_fr _ _ cs [] _ _ (by simpa using this)
/-- of no elements of a row that has some -/
theorem sliceE_ok {t e : TypeId} {T : TS} (hc : chkB P t T = true) (hu : P.underlying t = some (.slice e)) {n l : Int} {cs : List C} {full : Bool} {u : Value} {lo hi mx : Option Value} {ol oh om : Option Int} (hv : RV g w ow (.l n cs full) u)
    (hl : OI ol lo) (hh : OI oh hi) (hm : OI om mx) (el : ol.getD 0 = l) (eh : oh = some l) (em : om = some l) (h0 : 0 ≤ l) (h2 : l < n) :
    ∃ a : Addr, (Instr.sliceAt t u lo hi mx).run P w = .ok (.slice (some a) 0 0) w := by
  obtain ⟨a, len, cap, rfl, rfl, hfull, hr⟩ := hv
  obtain ⟨-, i, hi', -⟩ := chk_slice hc hu
  obtain ⟨L, rfl⟩ := nat_of h0
  obtain ⟨b, o, rfl⟩ : ∃ b o, a = some ⟨b, o, none⟩ := by
    rcases hr with hr | ⟨-, b, o, h, -⟩
    · omega
    · exact ⟨b, o, h⟩
  subst eh em
  refine ⟨⟨b, o, none⟩, (slice_run hu hi' (bounds_run (L := L) (U := L) (M := L) hl hh hm el rfl rfl (fun h => by cases h) (Nat.le_refl _) (Nat.le_refl _) (by omega))).trans ?_⟩
  simp
/-- of a slice of an object, a slice -/
theorem sliceS_ok {t e : TypeId} {T : TS} (hc : chkB P t T = true) (hu : P.underlying t = some (.slice e)) {o sz : Nat} {l0 n l h : Int} {full f' : Bool} {u : Value} {lo hi mx : Option Value} {ol oh om : Option Int} (hv : RV g w ow (.sl o l0 n sz full) u) (hsz : Nat.beq sz T.esz = true)
    (hl : OI ol lo) (hh : OI oh hi) (hm : OI om mx) (el : ol.getD 0 = l) (eh : oh.getD n = h) (em : om = none ∨ om = some h) (hmh : oh = none → om = none) (h0 : 0 ≤ l) (h1 : l ≤ h) (h2 : h ≤ n)
    (hf : (om = some h ∧ f' = true) ∨ (om = none ∧ full = false ∧ f' = false) ∨ (om = none ∧ full = true ∧ h = n ∧ f' = true)) :
    ∃ val, RV g w ow (.sl o (l0 + l) (h - l) sz f') val ∧ (Instr.sliceAt t u lo hi mx).run P w = .ok val w := by
  obtain ⟨a, len, cap, rfl, rfl, hr⟩ := hv
  obtain ⟨-, i, hi', hsz', -, hpos, -⟩ := chk_slice hc hu
  have hsz := beq_iff.1 hsz
  obtain ⟨L, rfl⟩ := nat_of h0
  obtain ⟨U, rfl⟩ := nat_of (Int.le_trans h0 h1)
  have hcap : len ≤ cap := by rcases hr with ⟨h, h'⟩ | ⟨_, _, _, _, h, _⟩ <;> omega
  obtain ⟨M, eM, hUM, hMc, hM⟩ : ∃ M : Nat, om.getD (cap : Int) = (M : Int) ∧ U ≤ M ∧ M ≤ cap ∧ (om = some (U : Int) → M = U) := by
    rcases em with rfl | rfl
    · exact ⟨cap, rfl, by omega, Nat.le_refl _, fun h => by cases h⟩
    · exact ⟨U, rfl, Nat.le_refl _, by omega, fun _ => rfl⟩
  refine ⟨_, ?_, slice_run hu hi' (bounds_run hl hh hm el eh eM hmh (by omega) hUM hMc)⟩
  refine ⟨_, U - L, M - L, rfl, by omega, ?_⟩
  rcases hr with ⟨rfl, rfl, hsm⟩ | ⟨hv1, q, rfl, rfl, -, hln, rfl, hcp⟩
  · refine .inl ⟨by omega, by omega, fun hv => ?_⟩
    rw [if_pos (by omega)]; exact hsm hv
  · by_cases hML : M = L
    · refine .inl ⟨by omega, by omega, fun hv => ?_⟩
      rw [if_pos hML]; rfl
    · refine .inr ⟨hv1, q + L, by omega, ?_, by omega, by omega, rfl, ?_⟩
      · rw [if_neg hML]
        simp [Addr.add_lit, hsz', hsz, Nat.add_mul]
      · rcases hf with ⟨rfl, rfl⟩ | ⟨rfl, rfl, rfl⟩ | ⟨rfl, rfl, h4, rfl⟩
        · rw [hM rfl]; rfl
        · simp at eM hcp ⊢
          obtain rfl : cap = M := by omega
          rw [← hcp, Nat.add_mul, Nat.sub_mul]
          have := Nat.mul_le_mul_right (g o).sz (show L ≤ cap by omega)
          omega
        · simp at eM hcp ⊢
          omega
theorem take_extract (x : Str) (L U : Nat) (h : U ≤ x.length) : (⟨x.toArray⟩ : ByteArray).extract L U = ⟨((x.take U).drop L).toArray⟩ := by
  apply ByteArray.ext
  simp only [ByteArray.data_extract, List.extract_toArray, List.extract_eq_take_drop]
  rw [List.drop_take]
/-- a slice -/
theorem vslice_ok (hH : ∀ α x, H α x = x) (hT : TTok P TT) {t : Nat} {T : TS} (hc : chkB P t T = true) {x : V} {u : Value} {lo hi mx : Option Value} {ol oh om : Option Int} (hv : RV g w ow x u) (hl : OI ol lo) (hh : OI oh hi) (hm : OI om mx) {K : V → Prop}
    (hk : match (generalizing := false) T.nk with
      | 9 => (match (generalizing := false) x with | .s _ => vslice H x ol oh om K | _ => False)
      | 2 => (match (generalizing := false) x with
        | .l _ cs _ => Nat.beq cs.length T.esz = true ∧ vslice H x ol oh om K
        | .sl _ _ _ sz _ => Nat.beq sz T.esz = true ∧ vslice H x ol oh om K
        | _ => False)
      | _ => False) : Gives P g w ow (Instr.sliceAt t u lo hi mx) K := by
  obtain ⟨d, hd, hn⟩ := chk_nk hc
  rw [← hn] at hk
  have eL : ∀ ol : Option Int, o0 ol = ol.getD 0 := fun ol => by cases ol <;> rfl
  split at hk
  · rename_i hkd
    obtain rfl : d = .string := by cases d <;> simp [nkB] at hkd; rfl
    cases x
    case s x =>
      obtain rfl : u = _ := hv
      simp only [vslice, eL] at hk
      cases om with
      | some => exact hk.elim
      | none => cases mx with
        | some => exact hm.elim
        | none =>
          cases oh with
          | some h =>
            simp only [ob, hH, decide_eq_true_eq] at hk
            obtain ⟨⟨h0, h1, h2⟩, hk⟩ := hk
            obtain ⟨L, eL⟩ := nat_of h0
            obtain ⟨U, rfl⟩ := nat_of (Int.le_trans h0 h1)
            refine ⟨_, _, hk, rfl, ?_⟩
            rw [str_run (L := L) (U := U) (M := x.length) hd (by
              have : (⟨x.toArray⟩ : ByteArray).size = x.length := by simp [ByteArray.size]
              rw [this]
              exact bounds_run hl hh hm eL rfl rfl (fun h => by cases h) (by omega) (by omega) (Nat.le_refl _)), take_extract _ _ _ (by omega), eL]
            simp
          | none =>
            simp only [ob, hH, decide_eq_true_eq] at hk
            obtain ⟨⟨h0, h1⟩, hk⟩ := hk
            obtain ⟨L, eL⟩ := nat_of h0
            refine ⟨_, _, hk, rfl, ?_⟩
            rw [str_run (L := L) (U := x.length) (M := x.length) hd (by
              have : (⟨x.toArray⟩ : ByteArray).size = x.length := by simp [ByteArray.size]
              rw [this]
              exact bounds_run hl hh hm eL rfl rfl (fun h => rfl) (by omega) (by omega) (Nat.le_refl _)), take_extract _ _ _ (by omega), eL]
            simp
    all_goals exact hk.elim
  · rename_i hkd
    obtain ⟨e, rfl⟩ : ∃ e, d = .slice e := by cases d <;> simp [nkB] at hkd; exact ⟨_, rfl⟩
    cases x
    case l n cs full =>
      obtain ⟨hs, hk⟩ := hk
      simp only [vslice, eL] at hk
      cases om with
      | some m => cases oh with
        | none => exact hk.elim
        | some h =>
          simp only [ob, hH, decide_eq_true_eq] at hk
          rcases hk with ⟨⟨h0, h1, h2, rfl⟩, hk⟩ | ⟨⟨h0, h1, h2, rfl⟩, hk⟩
          · obtain ⟨val, h3, h4⟩ := sliceL_ok (P := P) (m := 0) (f' := true) hc hd hv hs hl hh hm rfl rfl (.inr rfl) (fun h => by cases h) h0 h1 h2 (fun _ => .inl rfl)
            exact ⟨_, val, hk, h3, h4⟩
          · obtain ⟨a, h4⟩ := sliceE_ok (P := P) hc hd hv hl hh hm rfl (by rw [h1]) (by rw [h1]) h0 (by omega)
            exact ⟨_, _, hk a, rfl, h4⟩
      | none => cases oh with
        | some h =>
          simp only [ob, hH, decide_eq_true_eq] at hk
          obtain ⟨⟨h0, h1, h2⟩, hk⟩ := hk
          obtain ⟨val, h3, h4⟩ := sliceL_ok (P := P) (m := 0) (f' := false) hc hd hv hs hl hh hm rfl rfl (.inl rfl) (fun h => by cases h) h0 h1 h2 (fun h => by cases h)
          exact ⟨_, val, hk, h3, h4⟩
        | none =>
          simp only [ob, hH, decide_eq_true_eq] at hk
          obtain ⟨⟨h0, h1⟩, hk⟩ := hk
          obtain ⟨val, h3, h4⟩ := sliceL_ok (P := P) (m := 0) (f' := full) hc hd hv hs hl hh hm rfl rfl (.inl rfl) (fun h => rfl) h0 h1 (Int.le_refl _) (fun h => .inr ⟨h, rfl⟩)
          exact ⟨_, val, hk, h3, h4⟩
    case sl o l0 n sz full =>
      obtain ⟨hs, hk⟩ := hk
      simp only [vslice, eL] at hk
      cases om with
      | some m => cases oh with
        | none => exact hk.elim
        | some h =>
          simp only [ob, hH, decide_eq_true_eq] at hk
          obtain ⟨⟨h0, h1, h2, rfl⟩, hk⟩ := hk
          obtain ⟨val, h3, h4⟩ := sliceS_ok (P := P) (f' := true) hc hd hv hs hl hh hm rfl rfl (.inr rfl) (fun h => by cases h) h0 h1 h2 (.inl ⟨rfl, rfl⟩)
          exact ⟨_, val, hk, h3, h4⟩
      | none => cases oh with
        | some h =>
          cases full with
          | false =>
            simp only [ob, hH, decide_eq_true_eq] at hk
            obtain ⟨⟨h0, h1, h2⟩, hk⟩ := hk
            obtain ⟨val, h3, h4⟩ := sliceS_ok (P := P) (f' := false) hc hd hv hs hl hh hm rfl rfl (.inl rfl) (fun h => by cases h) h0 h1 h2 (.inr (.inl ⟨rfl, rfl, rfl⟩))
            exact ⟨_, val, hk, h3, h4⟩
          | true =>
            simp only [ob, hH, decide_eq_true_eq] at hk
            obtain ⟨⟨h0, h1, h2⟩, hk⟩ := hk
            obtain ⟨val, h3, h4⟩ := sliceS_ok (P := P) (f' := true) hc hd hv hs hl hh hm rfl rfl (.inl rfl) (fun h => by cases h) h0 h1 (Int.le_of_eq h2) (.inr (.inr ⟨rfl, rfl, h2, rfl⟩))
            exact ⟨_, val, hk, h3, h4⟩
        | none =>
          simp only [ob, hH, decide_eq_true_eq] at hk
          obtain ⟨⟨h0, h1⟩, hk⟩ := hk
          obtain ⟨val, h3, h4⟩ := sliceS_ok (P := P) (f' := full) hc hd hv hs hl hh hm rfl rfl (.inl rfl) (fun h => rfl) h0 h1 (Int.le_refl _) (by cases full <;> simp)
          exact ⟨_, val, hk, h3, h4⟩
    all_goals exact hk.elim
  · exact hk.elim
end
end Go.Proofs.Ytilmhjojbolbeaa.AM

namespace Go.Proofs.Ytilmhjojbolbeaa.AM
open Go

section
variable {P : Program} {H : (α : Type) → α → α} {TT : Nat → TS} {g : G} {w : World} {ow : Nat → Prop}
theorem isAgg_run {t : TypeId} {d : TypeDesc} (hu : P.underlying t = some d) : (isAgg t).run P w = .ok (agB d) w := by
  unfold isAgg
  rw [Sem.run_bind, run_underlying hu w]
  cases d <;> rfl
/-- a part of a struct's value -/
theorem part_ok {t : TypeId} {d : TypeDesc} {i : TypeInfo} (hu : P.underlying t = some d) (hi : P.info? t = some i) {xs : List V} {vs : Array Value} (h : RVs g w ow xs vs.toList) (off : Nat) {K : V → Prop}
    (hk : match agB d with
      | true => (match (generalizing := false) Nat.ble (off + i.size) xs.length with | true => K (.ag (tk i.size (dp off xs))) | false => False)
      | false => (match (generalizing := false) dp off xs with | x :: _ => K x | [] => False)) : Gives P g w ow (part t vs off) K := by
  cases hd : agB d
  · rw [hd] at hk
    simp only at hk
    split at hk
    · rename_i x r he
      have h1 := RVs_drop off h
      rw [he] at h1
      cases hq : vs.toList.drop off with
      | nil => rw [hq] at h1; exact h1.elim
      | cons v r' =>
        rw [hq] at h1
        have hv : vs[off]? = some v := by
          have : (vs.toList.drop off)[0]? = some v := by rw [hq]; rfl
          simpa using this
        exact ⟨x, v, hk, h1.1, by simp [part, isAgg_run hu, hd, hv]⟩
    · exact hk.elim
  · rw [hd] at hk
    simp only at hk
    split at hk
    · refine ⟨_, .agg (vs.extract off (off + i.size)), hk, ⟨_, rfl, ?_⟩, by simp [part, isAgg_run hu, hd, sizeOf, typeInfo, hi]⟩
      have := RVs_take i.size (RVs_drop off h)
      simpa [Array.toList_extract, List.extract_eq_take_drop] using this
    · exact hk.elim
theorem field_ok {t : Nat} {T : TS} {f : Nat} {x : Nat × Bool × Nat} (hc : chkB P t T = true) {fs : Array Field} (hu : P.underlying t = some (.struct fs)) (hx : nth T.fs f = some x) {xs : List V} {vs : Array Value} (h : RVs g w ow xs vs.toList) {K : V → Prop}
    (hk : match (generalizing := false) x.2.1 with
      | true => (match (generalizing := false) Nat.ble (x.1 + x.2.2) xs.length with | true => K (.ag (tk x.2.2 (dp x.1 xs))) | false => False)
      | false => (match (generalizing := false) dp x.1 xs with | x :: _ => K x | [] => False)) : Gives P g w ow (Instr.field t (.agg vs) f) K := by
  obtain ⟨fl, d, i, h1, h2, h3, h4, h5, h6, h7⟩ := fB_at (chk_struct hc hu).1 hx
  have h1 : fs[f]? = some fl := by simpa using h1
  obtain ⟨r, val, e1, e2, e3⟩ := part_ok (P := P) (K := K) h3 h5 h x.1 (by rw [h4, h6]; exact hk)
  refine ⟨r, val, e1, e2, ?_⟩
  unfold Instr.field
  simp [run_underlying hu w, h1, asAgg, h2, e3]
theorem fold_set : ∀ (vs : List Value) (cells : Array Value) (off k : Nat), off + k + vs.length ≤ cells.size → ((vs.zipIdx k).foldl (fun cs (x : Value × Nat) => cs.setIfInBounds (off + x.2) x.1) cells).toList = cells.toList.take (off + k) ++ vs ++ cells.toList.drop (off + k + vs.length)
  | [], cells, off, k, h => by simp
  | v :: vs, cells, off, k, h => by
    simp only [List.length_cons] at h
    rw [List.zipIdx_cons, List.foldl_cons, fold_set vs _ off (k + 1) (by simp; omega)]
    have hl : off + k < cells.toList.length := by simp; omega
    simp only [Array.toList_setIfInBounds]
    rw [show off + (k + 1) = off + k + 1 by omega, List.take_add_one, List.take_set, List.getElem?_set_self (by simpa using hl)]
    rw [List.set_eq_of_length_le (by simp; omega), List.drop_set_of_lt (by omega)]
    simp [show off + k + 1 + vs.length = off + k + (vs.length + 1) by omega]
theorem over_eq : ∀ (l : List V) (off : Nat) (xs r : List V), over l off xs = some r → r = l.take off ++ xs ++ l.drop (off + xs.length) ∧ off + xs.length ≤ l.length
  | l, 0, [], r, h => by simp [over] at h; subst h; simp
  | y :: l, 0, x :: xs, r, h => by
    simp only [over, Option.map_eq_some_iff] at h
    obtain ⟨r', h, rfl⟩ := h
    obtain ⟨rfl, h2⟩ := over_eq l 0 xs r' h
    simp only [Nat.zero_add] at h2
    refine ⟨by simp, by simp; omega⟩
  | [], 0, x :: xs, r, h => by simp [over] at h
  | y :: l, n + 1, xs, r, h => by
    simp only [over, Option.map_eq_some_iff] at h
    obtain ⟨r', h, rfl⟩ := h
    obtain ⟨rfl, h2⟩ := over_eq l n xs r' h
    refine ⟨by simp [show n + 1 + xs.length = n + xs.length + 1 by omega], by simp; omega⟩
  | [], n + 1, xs, r, h => by cases xs <;> simp [over] at h
theorem RVs_append {xs ys : List V} : ∀ {vs us : List Value}, RVs g w ow xs vs → RVs g w ow ys us → RVs g w ow (xs ++ ys) (vs ++ us) := by
  induction xs with
  | nil => intro vs us h h'; cases vs with | nil => exact h' | cons => exact h.elim
  | cons x xs ih => intro vs us h h'; cases vs with | nil => exact h.elim | cons v vs => exact ⟨h.1, ih h.2 h'⟩
/-- parts laid over cells -/
theorem over_ok {l xs r : List V} {off : Nat} {zs vs : List Value} (ho : over l off xs = some r) (hl : RVs g w ow l zs) (hx : RVs g w ow xs vs) : RVs g w ow r (zs.take off ++ vs ++ zs.drop (off + vs.length)) ∧ off + vs.length ≤ zs.length := by
  obtain ⟨rfl, h⟩ := over_eq _ _ _ _ ho
  rw [RVs_len hx, RVs_len hl] at h
  refine ⟨RVs_append (RVs_append ?_ hx) ?_, h⟩
  · have := RVs_take off hl; rwa [tk_eq] at this
  · have := RVs_drop (off + vs.length) hl
    rw [dp_eq] at this
    rw [RVs_len hx]; exact this
/-- parts that are evaluated -/
def RPs (g : G) (w : World) (ow : Nat → Prop) : List (Nat × V) → List (Nat × Value) → Prop
  | [], [] => True
  | (i, x) :: xs, (j, v) :: vs => i = j ∧ RV g w ow x v ∧ RPs g w ow xs vs
  | _, _ => False
theorem evps_ok {w0 : World} {S0 : Fr} {N : Nat} {s : S} {a : Act} (h : Rel w0 S0 N g s a.tmps w) : ∀ {xs : List (Nat × Operand)} {vs : List (Nat × V)}, evps s xs = some vs → RPs g w (own S0 s.σ g) vs (xs.map fun x => (x.1, a.eval x.2))
  | [], vs, hv => by cases hv; trivial
  | (i, x) :: xs, vs, hv => by
    simp only [evps] at hv
    split at hv <;> cases hv
    rename_i v vs h1 h2
    exact ⟨rfl, ev_ok h h1, evps_ok h h2⟩
theorem fill_ok {place : Nat → Option (Nat × Nat)} {fs : List (Nat × Bool × Nat)} (hp : ∀ i x, nth fs i = some x → place i = some (x.1, x.2.2)) :
    ∀ {ps : List (Nat × V)} {us : List (Nat × Value)} {z cs : List V} {zs : Array Value}, RPs g w ow ps us → places fs z ps = some cs → RVs g w ow z zs.toList → ∃ r, Instr.fill place zs us = some r ∧ RVs g w ow cs r.toList ∧ r.size = zs.size
  | [], [], z, cs, zs, _, h, hz => by simp [places] at h; subst h; exact ⟨zs, by simp [Instr.fill], hz, rfl⟩
  | (i, x) :: ps, (j, v) :: us, z, cs, zs, hps, h, hz => by
    obtain ⟨rfl, hx, hps⟩ := hps
    simp only [places] at h
    split at h
    · rename_i off ag sz hi
      split at h
      · rename_i h1 h2
        split at h
        · rename_i z' ho
          have hc := cells_ok h1 hx
          obtain ⟨h3, h4⟩ := over_ok ho hz hc
          have hsz : v.cells.size = sz := by have := RVs_len hc; have := beq_iff.1 h2; simp at *; omega
          have h4' : off + v.cells.size ≤ zs.size := by simpa using h4
          have hfold : (v.cells.zipIdx.foldl (fun cs x => cs.setIfInBounds (off + x.2) x.1) zs).toList = zs.toList.take off ++ v.cells.toList ++ zs.toList.drop (off + v.cells.toList.length) := by
            have := fold_set v.cells.toList zs off 0 (by simpa using h4')
            rw [← Array.foldl_toList, Array.toList_zipIdx]
            simpa using this
          rw [← hfold] at h3
          obtain ⟨r, e1, e2, e3⟩ := fill_ok hp hps h h3
          refine ⟨r, ?_, e2, ?_⟩
          · simp only [Instr.fill, hp _ _ hi]
            rw [if_neg (by simp only [Bool.not_eq_true, Bool.or_eq_false_iff, decide_eq_false_iff_not]; exact ⟨by simpa using hsz, by show ¬ (off + v.cells.size > zs.size); omega⟩)]
            exact e1
          · rw [e3]
            have := congrArg List.length hfold
            rw [Array.length_toList] at this
            rw [this]
            simp; omega
        · cases h
      · cases h
    · cases h
  | [], _ :: _, _, _, _, h, _, _ => h.elim
  | _ :: _, [], _, _, _, h, _, _ => h.elim
theorem fB_mapM : ∀ {fs : List (Nat × Bool × Nat)} {gs : List Field}, fB P fs gs = true → gs.mapM (fun f => (P.info? f.type).map fun i => (f.offset, i.size)) = some (fs.map fun x => (x.1, x.2.2))
  | [], [], _ => by simp
  | (off, ag, sz) :: fs, f :: gs, h => by
    simp only [fB, Bool.and_eq_true, beq_iff_eq, decide_eq_true_eq] at h
    obtain ⟨⟨⟨h1, h2⟩, h3⟩, h4⟩ := h
    split at h1
    · rename_i d i e1 e2
      simp only [Bool.and_eq_true, beq_iff_eq] at h1
      simp [List.mapM_cons, e2, fB_mapM h4, h1.2, h2]
    · cases h1
  | [], _ :: _, h => by simp [fB] at h
  | _ :: _, [], h => by simp [fB] at h
theorem aB_at {esz : Nat} {ag : Bool} {n : Nat} : ∀ {fs : List (Nat × Bool × Nat)} {j i : Nat} {x : Nat × Bool × Nat}, aB P esz ag n fs j = true → nth fs i = some x → x.1 = (j + i) * esz ∧ x.2.2 = esz
  | [], j, i, x, _, h => by simp [nth] at h
  | (off, ag', sz) :: fs, j, i, x, h, hx => by
    simp only [aB, Bool.and_eq_true, beq_iff_eq] at h
    cases i with
    | zero => simp only [nth] at hx; cases hx; exact ⟨by simpa using h.1.1.1, h.1.2⟩
    | succ i => have := aB_at h.2 (by simpa [nth] using hx); rw [show j + (i + 1) = j + 1 + i by omega]; exact this
/-- a struct or an array that is built -/
theorem build_ok {t : Nat} {T : TS} (hc : chkB P t T = true) (ha : T.arr = none) (hag : T.ag = true) {ps : List (Nat × V)} {us : Array (Nat × Value)} (hps : RPs g w ow ps us.toList) {cs : List V} (h : places T.fs T.z ps = some cs) :
    ∃ r, (Instr.build t us).run P w = .ok (.agg r) w ∧ RVs g w ow cs r.toList := by
  obtain ⟨d, i, hu, hi, hsz, hd⟩ := chk_base hc
  obtain ⟨i', z, hi', hz, hzz, hzl, hzs⟩ := chk_zero hc ha
  rw [hi] at hi'; cases hi'
  rw [hag] at hd
  cases d <;> simp [agB] at hd
  case struct fs =>
    obtain ⟨hf, -⟩ := chk_struct hc hu
    have hm := fB_mapM hf
    obtain ⟨r, e1, e2, e3⟩ := fill_ok (place := ((T.fs.map fun x => (x.1, x.2.2)).toArray[·]?)) (fun i x hx => by rw [nth_eq] at hx; simp [hx]) hps h (RVs_zBs hzz)
    exact ⟨r, run_build w t us r (by simp only [Program.built, hi, hu, hz, hm]; exact e1), e2⟩
  case array n e =>
    have hc' := hc
    unfold chkB at hc'
    rw [hu, hi] at hc'
    simp only [Bool.and_eq_true, ha] at hc'
    obtain ⟨-, he, hb⟩ := hc'
    simp only [eB, Bool.and_eq_true, beq_iff_eq] at he
    obtain ⟨-, he⟩ := he
    split at he
    · rename_i d ie h1 h2
      simp only [Bool.and_eq_true, beq_iff_eq, decide_eq_true_eq] at he
      rw [h1] at hb
      obtain ⟨r, e1, e2, e3⟩ := fill_ok (place := fun i => some (i * ie.size, ie.size)) (fun i x hx => by have := aB_at hb hx; rw [this.1, this.2, he.1.1.1.1]; simp) hps h (RVs_zBs hzz)
      exact ⟨r, run_build w t us r (by simp only [Program.built, hi, hu, hz, h2]; exact e1), e2⟩
    · cases he
end
end Go.Proofs.Ytilmhjojbolbeaa.AM

namespace Go.Proofs.Ytilmhjojbolbeaa.AM
open Go

section
variable {P : Program} {H : (α : Type) → α → α} {TT : Nat → TS} {g : G} {w w' w0 : World} {ow : Nat → Prop} {S0 : Fr} {N : Nat} {s : S} {tmps : Array Value}
theorem look_upd {α : Type} (i k : Nat) (v : α) (l : List (Nat × α)) : look i (upd k v l) = if i = k then (look k l).map (fun _ => v) else look i l := by
  induction l with
  | nil => simp [upd, look]
  | cons p r ih =>
    obtain ⟨j, x⟩ := p
    simp only [upd]
    split
    · rename_i h
      obtain rfl := beq_iff.1 h
      rw [look_cons, look_cons, look_cons]
      by_cases e : j = i
      · subst e; simp
      · simp [e, Ne.symm e]
    · rename_i h
      have h := beq_no h
      rw [look_cons, look_cons, look_cons, ih]
      by_cases e : j = i
      · subst e; simp [h]
      · by_cases e2 : i = k
        · subst e2; simp [e]
        · simp [e, e2]
theorem mine_upd {σ : Sto} {k : Nat} {x : O} {b : Nat} : mine (upd k x σ) g b ↔ mine σ g b := by
  have : ∀ i, (look i (upd k x σ)).isSome = (look i σ).isSome := fun i => by
    rw [look_upd]; split
    · rename_i e; subst e; simp
    · rfl
  simp [mine, this]
theorem own_upd {σ : Sto} {k : Nat} {x : O} {b : Nat} : own S0 (upd k x σ) g b ↔ own S0 σ g b := or_congr Iff.rfl mine_upd
theorem RO_own {k : GI} {x : O} {ow' : Nat → Prop} (h : ∀ b, ow b ↔ ow' b) (hx : RO k (RVs g w ow) w ow x) : RO k (RVs g w ow') w ow' x := by
  obtain rfl : ow = ow' := funext fun b => propext (h b)
  exact hx
/-- an object's content has changed -/
theorem Ob.upd {σ : Sto} (h : Ob S0 g w σ) {o : Nat} {x x' : O} (hl : look o σ = some x) (hv : (g o).vi = false) (hk : Kp (· = (g o).bl) w w') (hx : RO (g o) (RVs g w' (own S0 σ g)) w' (own S0 σ g) x') : Ob S0 g w' (AM.upd o x' σ) := by
  have hown : own S0 σ g (g o).bl := .inr ⟨o, by rw [hl]; rfl, hv, rfl⟩
  have hkb : ∀ b, ¬ own S0 σ g b → b < w.heap.size → w'.heap[b]? = w.heap[b]? := fun b hb hlt => hk.block b hlt (fun e => hb (e ▸ hown))
  refine ⟨fun i y hi => RO_own (fun b => own_upd.symm) ?_, fun i j hi hj => ?_⟩
  · rw [look_upd] at hi
    split at hi
    · rename_i e; subst e
      rw [hl] at hi; cases hi; exact hx
    · rename_i e
      have hR := h.objs i y hi
      have hne : (g i).vi = false → (g i).bl ≠ (g o).bl := fun h1 h2 => e (h.inj i o (by rw [hi]; rfl) (by rw [hl]; rfl) h1 hv h2)
      cases y with
      | st xs e' =>
        obtain ⟨h1, vs, hb, hr⟩ := hR
        exact ⟨h1, vs, hk.blk hb (hne h1), RVs_keep hkb hk.size (fun _ _ h => h) xs _ (fun _ _ => rfl) hr⟩
      | rw l rf st pe xs vs =>
        obtain ⟨h1, h0, hb, hr⟩ := hR
        exact ⟨h1, h0, hk.blk hb (hne h1), RVs_keep hkb hk.size (fun _ _ h => h) xs _ (fun _ _ => rfl) hr⟩
      | ms S => obtain ⟨h1, es, ck, hb, hr⟩ := hR; exact ⟨h1, es, ck, hk.blk hb (hne h1), hr⟩
      | ar n cs e' =>
        obtain ⟨h1, h2, h3⟩ := hR
        refine ⟨h1, h2, h3.imp id fun ⟨a, ⟨c, hb, hc⟩, d⟩ => ⟨a, ⟨c, hk.blk hb (hne a), hc⟩, fun q hq => ?_⟩⟩
        refine RCs_keep' hkb hk.size (fun _ _ h => h) cs _ _ _ (fun r v _ _ hv' => ?_) (d q hq)
        rw [blk_cell (hk.blk hb (hne a))]; rw [blk_cell hb] at hv'; exact hv'
  · have : ∀ i, (look i (AM.upd o x' σ)).isSome = (look i σ).isSome := fun i => by
      rw [look_upd]; split
      · rename_i e; subst e; simp
      · rfl
    rw [this] at hi hj
    exact h.inj i j hi hj
theorem Rel.upd (h : Rel w0 S0 N g s tmps w) {o : Nat} {x x' : O} (hl : look o s.σ = some x) (hv : (g o).vi = false) (hk : Kp (· = (g o).bl) w w') (hx : RO (g o) (RVs g w' (own S0 s.σ g)) w' (own S0 s.σ g) x') : Rel w0 S0 N g { s with σ := AM.upd o x' s.σ } tmps w' := by
  refine h.step (hk.mono (fun b hb _ => by subst hb; exact ⟨o, by rw [hl]; rfl, hv, rfl⟩)) (h.ob.upd hl hv hk hx) (fun b hb => .inl (mine_upd.1 hb)) (Nat.le_refl _) (fun i hi hs => ⟨by simp only [look_upd] at hs; split at hs; (· rename_i e; subst e; rw [hl]; rfl); exact hs, rfl⟩) (fun t x hx => ⟨hx, fun _ _ => rfl⟩)
theorem kp_setRow (w : World) (b : Nat) (c : Array Value) : Kp (· = b) w (w.setRow b c) := ⟨rfl, rfl, rfl, by simp, fun k _ hk => setRow_other w b k c hk⟩
/-- a store into a block of cells -/
theorem store_run {t : Nat} {T : TS} (hc : chkB P t T = true) {b o : Nat} {cur : Array Value} {e : TypeId} {u : Value} (hb : w.heap[b]? = some (.cells cur e (0, 0))) (hu : u.cells.size = T.sz) (h1 : ∀ v ∈ u.cells.toList, v.oneCell' = true) (hle : o + T.sz ≤ cur.size) :
    (Instr.storeAt t (.pointer (some ⟨b, o, none⟩)) u).run P w = .ok () (w.setRow b (cur.toList.take o ++ u.cells.toList ++ cur.toList.drop (o + u.cells.toList.length)).toArray) := by
  obtain ⟨d, i, hd, hi, hsz, -⟩ := chk_base hc
  have := run_storeCells_at P b o e u.cells.toList 0 cur w hb (by simp; omega) h1
  simp [Instr.storeAt, Instr.sureAddr, storeVar, sizeOf, typeInfo, hi, hsz, hu, this]
theorem RCs_iff (cs : List C) (ix : Ix) (b o : Nat) : RCs w ow cs ix b o ↔ ∀ (k : Nat) (c : C), cs[k]? = some c → ∃ v, w.cell? ⟨b, o + k, none⟩ = some v ∧ RC w ow c ix v := by
  induction cs generalizing o with
  | nil => simp [RCs]
  | cons c cs ih =>
    simp only [RCs, ih]
    constructor
    · rintro ⟨h1, h2⟩ k d hk
      cases k with
      | zero => simp at hk; subst hk; simpa using h1
      | succ k => have := h2 k d (by simpa using hk); rwa [show o + 1 + k = o + (k + 1) by omega] at this
    · intro h
      exact ⟨by simpa using h 0 c (by simp), fun k d hk => by have := h (k + 1) d (by simpa using hk); rwa [show o + (k + 1) = o + 1 + k by omega] at this⟩
theorem overC_at {t : Ix → Bool} : ∀ {l : List C} {off : Nat} {xs r : List C}, overC t l off xs = some r → r.length = l.length ∧ off + xs.length ≤ l.length ∧
    (∀ k, k < off ∨ off + xs.length ≤ k → r[k]? = l[k]?) ∧ ∀ k x, xs[k]? = some x → ∃ y z, l[off + k]? = some y ∧ r[off + k]? = some z ∧ mix t (dr x) y = some z
  | l, 0, [], r, h => by simp [overC] at h; subst h; exact ⟨rfl, by simp, fun _ _ => rfl, fun k x hx => by simp at hx⟩
  | y :: l, 0, x :: xs, r, h => by
    simp only [overC] at h
    split at h <;> cases h
    rename_i z r h1 h2
    obtain ⟨e1, e2, e3, e4⟩ := overC_at h2
    simp only [Nat.zero_add] at e2 e3 e4
    refine ⟨by simp [e1], by simp; omega, fun k hk => ?_, fun k x' hx => ?_⟩
    · cases k with
      | zero => simp at hk
      | succ k => simpa using e3 k (.inr (by simp at hk; omega))
    · cases k with
      | zero => simp at hx; subst hx; exact ⟨y, z, by simp, by simp, h1⟩
      | succ k => simpa using e4 k x' (by simpa using hx)
  | [], 0, x :: xs, r, h => by simp [overC] at h
  | y :: l, n + 1, xs, r, h => by
    simp only [overC, Option.map_eq_some_iff] at h
    obtain ⟨r', h, rfl⟩ := h
    obtain ⟨e1, e2, e3, e4⟩ := overC_at h
    refine ⟨by simp [e1], by simp; omega, fun k hk => ?_, fun k x hx => ?_⟩
    · cases k with
      | zero => simp
      | succ k => simpa using e3 k (by omega)
    · obtain ⟨y', z, a1, a2, a3⟩ := e4 k x hx
      exact ⟨y', z, by rw [show n + 1 + k = n + k + 1 by omega]; simpa using a1, by rw [show n + 1 + k = n + k + 1 by omega]; simpa using a2, a3⟩
  | [], n + 1, xs, r, h => by cases xs <;> simp [overC] at h
theorem toCs_at : ∀ {xs : List V} {cs : List C}, toCs xs = some cs → cs.length = xs.length ∧ ∀ (k : Nat) (x : V), xs[k]? = some x → ∃ c, cs[k]? = some c ∧ toC x = some c
  | [], cs, h => by simp [toCs] at h; subst h; exact ⟨rfl, fun k x hx => by simp at hx⟩
  | x :: xs, cs, h => by
    simp only [toCs] at h
    split at h <;> cases h
    rename_i c cs h1 h2
    obtain ⟨e1, e2⟩ := toCs_at h2
    refine ⟨by simp [e1], fun k y hy => ?_⟩
    cases k with
    | zero => simp at hy; subst hy; exact ⟨c, by simp, h1⟩
    | succ k => simpa using e2 k y (by simpa using hy)
/-- an array is stored whole -/
theorem vstoreA_ok {t : Nat} {T : TS} (hc : chkB P t T = true) (h : Rel w0 S0 N g s tmps w) {x : V} {k : IntKind} {n : Nat} {f : Ix → Int} {p u : Value} (hx : RV g w (own S0 s.σ g) x p) (hv : RV g w (own S0 s.σ g) (.av k n f) u) {K : S → Prop} (hk : vstoreA s T x k n f K) :
    ∃ s' w', K s' ∧ Rel w0 S0 N g s' tmps w' ∧ (Instr.storeAt t p u).run P w = .ok () w' := by
  unfold vstoreA at hk
  split at hk
  · rename_i n' k' ha
    split at hk
    · rename_i o off
      split at hk
      · rename_i m k'' f' e hlk
        split at hk
        · rename_i h1 h2 h3 h4
          obtain rfl := beq_iff.1 h1
          obtain rfl := of_decide_eq_true h2
          obtain rfl := of_decide_eq_true h3
          obtain rfl := beq_iff.1 h4
          obtain ⟨rfl, hk⟩ := hk
          obtain ⟨rfl, hvi⟩ := hx
          obtain ⟨us, rfl, hus, huv⟩ := hv
          obtain ⟨hn, hsz, hR⟩ := h.ob.objs o _ hlk
          obtain ⟨e', i', ie, c1, c2, c3, c4, c5, c6⟩ := chk_arr hc ha
          rcases hR with ⟨h3, _⟩ | ⟨_, ⟨cur, hb, hcs, hle⟩, hR⟩
          · rw [hvi] at h3; cases h3
          · have hln : (g o).ln = n := by omega
            by_cases hn0 : n = 0
            · have hsm := store_run (P := P) hc (o := 0) (u := .agg us) hb (by simp [Value.cells]; omega) (fun v hv => by
                have : us = #[] := by rw [← Array.size_eq_zero_iff]; omega
                subst this; simp [Value.cells] at hv) (by omega)
              refine ⟨_, _, hk, h.upd hlk hvi (kp_setRow w _ _) ⟨hn, hsz.imp id id, .inr ⟨hvi, ⟨_, setRow_heap w _ _ _ _ _ hb, ?_, ?_⟩, fun j hj => by omega⟩⟩, hsm⟩
              · have : us.size = 0 := by omega
                simp [Value.cells, this]; omega
              · have : us.size = 0 := by omega
                rw [hln, hn0]; simp
            · have hs1 : (g o).sz = 1 := by
                rcases hsz with h0 | h0
                · omega
                · exact h0.1.symm
              rw [hs1, Nat.mul_one, hln] at hle
              have hsm := store_run (P := P) hc (o := 0) (u := .agg us) hb (by simp [Value.cells]; omega) (fun v hv => by
                simp only [Value.cells] at hv
                obtain ⟨j, hj, rfl⟩ := List.mem_iff_getElem.1 hv
                have := huv j (by simp at hj; omega)
                rw [← Array.getElem?_toList, List.getElem?_eq_getElem hj] at this
                injection this with this
                rw [this]; rfl) (by omega)
              refine ⟨_, _, hk, h.upd hlk hvi (kp_setRow w _ _) ⟨hn, .inr ⟨by rw [hs1]; rfl, by omega⟩, .inr ⟨hvi, ⟨_, setRow_heap w _ _ _ _ _ hb, ?_, ?_⟩, fun j hj => ?_⟩⟩, hsm⟩
              · simp [Value.cells]; omega
              · rw [hs1, hln]; simp [Value.cells]; omega
              · refine ⟨⟨_, ?_, rfl⟩, trivial⟩
                rw [hs1, Nat.mul_one, blk_cell (setRow_heap w _ _ _ _ _ hb)]
                have := huv j (by omega)
                have hj2 : j < us.size := by omega
                simp only [Value.cells, List.take_zero, List.nil_append, Nat.zero_add]
                rw [← Array.getElem?_toList] at this
                simp only [List.getElem?_toArray]
                rw [List.getElem?_append_left (by simpa using hj2)]
                exact this
        · exact hk.elim
      · exact hk.elim
    · exact hk.elim
  · exact hk.elim
/-- a store -/
theorem vstore_ok {t : Nat} {T : TS} (hc : chkB P t T = true) (h : Rel w0 S0 N g s tmps w) {x v : V} {p u : Value} (hx : RV g w (own S0 s.σ g) x p) (hv : RV g w (own S0 s.σ g) v u) (hsz : Nat.beq (cells v).length T.sz = true) {K : S → Prop} (hk : vstore s x v K) :
    ∃ s' w', K s' ∧ Rel w0 S0 N g s' tmps w' ∧ (Instr.storeAt t p u).run P w = .ok () w' := by
  unfold vstore at hk
  split at hk
  · exact hk.elim
  · rename_i hl
    have hcell := cells_ok hl hv
    have hlen := RVs_len hcell
    have hszn := beq_iff.1 hsz
    clear hsz
    have h1 := leaves_one hl hcell
    have hus : u.cells.size = T.sz := by simp at hlen; omega
    cases x <;> simp only at hk
    case pt o off =>
      split at hk
      · rename_i xs e hlk
        obtain ⟨ys, hy, hk⟩ := need_some hk
        obtain ⟨rfl, hvi⟩ := hx
        obtain ⟨-, vs, hb, hr⟩ := h.ob.objs o _ hlk
        obtain ⟨h2, h3⟩ := over_ok hy hr hcell
        refine ⟨_, _, hk, h.upd hlk hvi (kp_setRow w _ _) ⟨hvi, _, setRow_heap w _ _ _ _ _ hb, ?_⟩, store_run hc hb hus h1 (by simp at h3; omega)⟩
        refine RVs_keep (w := w) (fun b hb' hlt => setRow_other w _ b _ (fun e' => hb' (e' ▸ .inr ⟨o, by rw [hlk]; rfl, hvi, rfl⟩))) (by simp) (fun _ _ h => h) _ _ (fun _ _ => rfl) ?_
        simpa using h2
      · exact hk.elim
    case pe o j sz c =>
      split at hk
      · rename_i n cs e hlk
        obtain ⟨ds, hds, hk1⟩ := need_some hk
        obtain ⟨cs', hcs', hk2⟩ := need_some hk1
        obtain ⟨q, rfl, rfl, hvi, hlt, rfl⟩ := hx
        obtain ⟨hn, hsz', hR⟩ := h.ob.objs o _ hlk
        rcases hR with ⟨h3, _⟩ | ⟨_, ⟨cur, hb, hcs, hle⟩, hR⟩
        · rw [hvi] at h3; cases h3
        · obtain ⟨hcl, hpos⟩ := hsz'.resolve_left (by omega)
          obtain ⟨e1, e2, e3, e4⟩ := overC_at hcs'
          obtain ⟨d1, d2⟩ := toCs_at hds
          have hq : (q + 1) * (g o).sz ≤ (g o).ln * (g o).sz := Nat.mul_le_mul_right _ hlt
          rw [Nat.add_mul, Nat.one_mul] at hq
          have hown : own S0 s.σ g (g o).bl := .inr ⟨o, by rw [hlk]; rfl, hvi, rfl⟩
          have hfit : q * (g o).sz + c + T.sz ≤ cur.size := by omega
          have hrow := store_run (P := P) hc hb hus h1 hfit
          have hul : u.cells.toList.length = T.sz := by simpa using hus
          obtain ⟨new, hnew⟩ : ∃ new, new = (cur.toList.take (q * (g o).sz + c) ++ u.cells.toList ++ cur.toList.drop (q * (g o).sz + c + u.cells.toList.length)).toArray := ⟨_, rfl⟩
          rw [← hnew] at hrow
          have hns : new.size = cur.size := by rw [hnew]; simp; omega
          have hin : ∀ k, k < T.sz → new[q * (g o).sz + c + k]? = u.cells.toList[k]? := fun k hk => by
            rw [hnew, List.getElem?_toArray, List.getElem?_append_left (by simp; omega), List.getElem?_append_right (by simp; omega)]
            congr 1; simp; omega
          have hout : ∀ p, p < q * (g o).sz + c ∨ q * (g o).sz + c + T.sz ≤ p → new[p]? = cur[p]? := fun p hp => by
            rw [hnew, List.getElem?_toArray]
            rcases hp with hp | hp
            · rw [List.append_assoc, List.getElem?_append_left (by simp; omega), List.getElem?_take, if_pos hp]; simp
            · rw [List.getElem?_append_right (by simp; omega), List.getElem?_drop]
              simp only [List.length_append, List.length_take, hul, Array.length_toList]
              rw [show q * (g o).sz + c + T.sz + (p - (min (q * (g o).sz + c) cur.size + T.sz)) = p by omega]
              simp
          have hkb : ∀ b, ¬ own S0 s.σ g b → b < w.heap.size → (w.setRow (g o).bl new).heap[b]? = w.heap[b]? := fun b hb' _ => setRow_other w _ b _ (fun e' => hb' (e' ▸ hown))
          refine ⟨_, _, hk2, h.upd hlk hvi (kp_setRow w _ new) ⟨hn, .inr ⟨by omega, hpos⟩, .inr ⟨hvi, ⟨_, setRow_heap w _ _ _ _ _ hb, by omega, by omega⟩, fun r hr => ?_⟩⟩, hrow⟩
          -- the element r
          rw [RCs_iff]
          intro k d hkd
          have hkl : k < cs.length := by have := (List.getElem?_eq_some_iff.1 hkd).1; omega
          have hold := (RCs_iff _ _ _ _).1 (hR r hr)
          rw [blk_cell (setRow_heap w _ _ _ _ _ hb)]
          have hh : Head (fun ix => decide (hd ix = (q : Int))) := fun _ _ _ => rfl
          by_cases hkr : k < c ∨ c + ds.length ≤ k
          · rw [e3 k hkr] at hkd
            obtain ⟨v', hv1, hv2⟩ := hold k d hkd
            rw [blk_cell hb] at hv1
            refine ⟨v', ?_, RC_keep hkb (by simp) (fun _ _ h => h) _ _ _ hv2⟩
            rw [hout _ ?_]
            · exact hv1
            · by_cases hrq : r = q
              · subst hrq; omega
              · rcases Nat.lt_or_gt_of_ne hrq with hlt' | hgt
                · have := Nat.mul_le_mul_right (g o).sz (show r + 1 ≤ q by omega); rw [Nat.add_mul, Nat.one_mul] at this; omega
                · have := Nat.mul_le_mul_right (g o).sz (show q + 1 ≤ r by omega); rw [Nat.add_mul, Nat.one_mul] at this; omega
          · obtain ⟨m, rfl⟩ : ∃ m, k = c + m := ⟨k - c, by omega⟩
            have hmds : m < ds.length := by omega
            obtain ⟨y, z, a1, a2, a3⟩ := e4 m _ (List.getElem?_eq_getElem hmds)
            rw [a2] at hkd; cases hkd
            obtain ⟨v', hv1, hv2⟩ := hold (c + m) y a1
            rw [blk_cell hb] at hv1
            by_cases hrq : r = q
            · subst hrq
              have hmx : m < (cells v).length := by omega
              obtain ⟨c', b1, b2⟩ := d2 m _ (List.getElem?_eq_getElem hmx)
              rw [List.getElem?_eq_getElem hmds] at b1; cases b1
              obtain ⟨v2, b3, b4⟩ := RVs_at hcell m _ (List.getElem?_eq_getElem hmx)
              refine ⟨v2, by rw [← Nat.add_assoc, hin m (by omega)]; exact b3, ?_⟩
              refine RC_mix hh _ _ _ a3 r [] v2 (fun _ => RC_dr _ _ _ _ ?_) (fun hf => by simp [hd] at hf)
              exact RC_keep hkb (by simp) (fun _ _ h => h) _ _ _ (RC_toC b2 b4)
            · refine ⟨v', ?_, RC_mix hh _ _ _ a3 r [] v' (fun ht => absurd (by have := of_decide_eq_true ht; exact Int.ofNat.inj this) hrq) (fun _ => RC_keep hkb (by simp) (fun _ _ h => h) _ _ _ hv2)⟩
              rw [hout _ ?_]
              · exact hv1
              · rcases Nat.lt_or_gt_of_ne hrq with hlt' | hgt
                · have := Nat.mul_le_mul_right (g o).sz (show r + 1 ≤ q by omega); rw [Nat.add_mul, Nat.one_mul] at this; omega
                · have := Nat.mul_le_mul_right (g o).sz (show q + 1 ≤ r by omega); rw [Nat.add_mul, Nat.one_mul] at this; omega
      · exact hk.elim
    all_goals exact hk.elim
end
end Go.Proofs.Ytilmhjojbolbeaa.AM

namespace Go.Proofs.Ytilmhjojbolbeaa.AM
open Go Go.RowKit

section
variable {P : Program} {H : (α : Type) → α → α} {TT : Nat → TS} {g : G} {w w' w0 : World} {ow : Nat → Prop} {S0 : Fr} {N : Nat} {s : S} {tmps : Array Value}
theorem kp_alloc (w : World) (o : Obj) : Kp (fun _ => False) w (w.alloc o) := (Kp.refl _ w).alloc o
theorem zB_refs {x : V} {v : Value} (h : zB x v = true) : refs x = [] := by
  unfold zB at h
  split at h <;> first | rfl | cases h
theorem zBs_refs : ∀ {xs : List V} {vs : List Value}, zBs xs vs = true → refsL xs = []
  | [], [], _ => rfl
  | x :: xs, v :: vs, h => by simp only [zBs, Bool.and_eq_true] at h; simp [refsL, zB_refs h.1, zBs_refs h.2]
  | [], _ :: _, h => by simp [zBs] at h
  | _ :: _, [], h => by simp [zBs] at h
/-- a new struct or variable -/
theorem new_st (h : Rel w0 S0 N g s tmps w) {xs : List V} {e : Nat} {vs : Array Value} {K : Nat → S → Prop} (hf : fresh s (.st xs e) K) (hx : ∀ ow' g', (∀ b, b < w.heap.size → ¬ own S0 s.σ g b → ¬ ow' b) → (∀ q, q ≠ s.nx → g' q = g q) → RVs g' (w.alloc (.cells vs e)) ow' xs vs.toList) :
    ∃ j s' g', K j s' ∧ Rel w0 S0 N g' s' tmps (w.alloc (.cells vs e)) ∧ (g' j).bl = w.heap.size ∧ (g' j).vi = false := by
  obtain ⟨h1, h2, h3, hK⟩ := fresh_mem hf
  refine ⟨_, _, _, hK, h.add (.st xs e) ⟨w.heap.size, 0, false, 0, 0⟩ h1 h2 (kp_alloc w _) (fun _ => Nat.le_refl _) (fun ow' hsub => ⟨rfl, vs, heap_alloc_new w _, hx _ _ (fun b hlt hn hb => ?_) (fun q hq => if_neg hq)⟩), by simp, by simp⟩
  rcases hsub b hb with h | h
  · exact hn h
  · omega
/-- a new row -/
theorem new_ar (h : Rel w0 S0 N g s tmps w) {cs : List C} {e n sz cp : Nat} {c : Array Value} {K : Nat → S → Prop} (hf : fresh s (.ar n cs e) K) (hc : n = 0 ∨ (cs.length = sz ∧ 0 < sz)) (hcp : c.size = cp) (hle : n * sz ≤ c.size)
    (hx : ∀ ow' : Nat → Prop, (∀ b, b < w.heap.size → ¬ own S0 s.σ g b → ¬ ow' b) → ∀ j, j < n → RCs (w.alloc (.cells c e)) ow' cs [(j : Int)] w.heap.size (j * sz)) :
    ∃ j s' g', K j s' ∧ Rel w0 S0 N g' s' tmps (w.alloc (.cells c e)) ∧ g' j = ⟨w.heap.size, cp, false, n, sz⟩ := by
  obtain ⟨h1, h2, h3, hK⟩ := fresh_mem hf
  refine ⟨_, _, _, hK, h.add (.ar n cs e) ⟨w.heap.size, cp, false, n, sz⟩ h1 h2 (kp_alloc w _) (fun _ => Nat.le_refl _) (fun ow' hsub => ⟨rfl, hc.imp (by simp) id, .inr ⟨rfl, ⟨c, heap_alloc_new w _, hcp, hle⟩, hx ow' (fun b hlt hn hb => ?_)⟩⟩), by simp⟩
  rcases hsub b hb with h | h
  · exact hn h
  · omega
theorem alloc_ok (h : Rel w0 S0 N g s tmps w) {t : Nat} {T : TS} (hc : chkB P t T = true) {K : V → S → Prop}
    (hk : match T.arr with
      | some (n, k) => fresh s (.ar (n : Int) [.i k fun _ => 0] t) fun j s => K (.pt j 0) s
      | none => fresh s (.st T.z t) fun j s => K (.pt j 0) s) :
    ∃ r val s' g' w', K r s' ∧ Rel w0 S0 N g' s' tmps w' ∧ RV g' w' (own S0 s'.σ g') r val ∧ (Instr.alloc t true (.tuple #[])).run P w = .ok val w' := by
  split at hk
  · rename_i n k ha
    have hc' := hc
    unfold chkB at hc'
    split at hc'
    · rename_i d i h1 h2
      simp only [Bool.and_eq_true, ha] at hc'
      obtain ⟨⟨-, hz⟩, -⟩ := hc'
      split at hz
      · rename_i z m e hz0
        simp only [Bool.and_eq_true, beq_iff_eq, Array.all_eq_true] at hz
        obtain ⟨⟨⟨⟨⟨hz1, hz2⟩, hz3⟩, -⟩, -⟩, -⟩ := hz
        obtain ⟨j, s', g', h3, h4, h5⟩ := new_ar (e := t) (c := z.cells) (sz := 1) (cp := n) h hk (.inr ⟨rfl, by omega⟩) hz2 (by omega) (fun ow' _ j hj => by
          refine ⟨⟨.int k 0, ?_, rfl⟩, trivial⟩
          rw [blk_cell (heap_alloc_new w _)]
          have := hz3 j (by omega)
          rw [Nat.mul_one, Array.getElem?_eq_getElem (by omega)]
          split at this
          · rename_i k' he; obtain rfl := of_decide_eq_true this; rw [he]
          · cases this)
        exact ⟨_, .pointer (some ⟨w.heap.size, 0, none⟩), s', g', _, h3, h4, ⟨by rw [h5], by rw [h5]⟩, by simp [Instr.alloc, zeroValue, typeInfo, h2, hz0, newVar, newRow]⟩
      · cases hz
    · cases hc'
  · rename_i ha
    obtain ⟨i, z, hi, hz, hzz, hzl, hzs⟩ := chk_zero hc ha
    obtain ⟨j, s', g', h3, h4, h5, h6⟩ := new_st (vs := z.cells) h hk (fun ow' g' _ _ => RVs_zBs hzz)
    exact ⟨_, .pointer (some ⟨w.heap.size, 0, none⟩), s', g', _, h3, h4, ⟨by rw [h5], h6⟩, by simp [Instr.alloc, zeroValue, typeInfo, hi, hz, newVar, newRow]⟩
theorem boxA_ok (h : Rel w0 S0 N g s tmps w) {t n : Nat} {k : IntKind} {f : Ix → Int} {u : Value} (hx : RV g w (own S0 s.σ g) (.av k n f) u) {K : V → S → Prop} (hk : fresh s (.ar (n : Int) [.i k f] t) fun j s => K (.pt j 0) s) :
    ∃ r val s' g' w', K r s' ∧ Rel w0 S0 N g' s' tmps w' ∧ RV g' w' (own S0 s'.σ g') r val ∧ (Instr.box t u).run P w = .ok val w' := by
  obtain ⟨vs, rfl, hn, hv⟩ := hx
  obtain ⟨j, s', g', h3, h4, h5⟩ := new_ar (e := t) (c := vs) (sz := 1) (cp := n) h hk (.inr ⟨rfl, by omega⟩) hn (by omega) (fun ow' _ j hj => by
    refine ⟨⟨.int k (f [(j : Int)]), ?_, rfl⟩, trivial⟩
    rw [blk_cell (heap_alloc_new w _), Nat.mul_one]
    exact hv j hj)
  exact ⟨_, .pointer (some ⟨w.heap.size, 0, none⟩), s', g', _, h3, h4, ⟨by rw [h5], by rw [h5]⟩, by simp [Instr.box, newVar, newRow, Value.cells]⟩
theorem box_ok (h : Rel w0 S0 N g s tmps w) {t : Nat} {x : V} {u : Value} (hx : RV g w (own S0 s.σ g) x u) (hl : leaves (cells x) = true) {K : V → S → Prop} (hk : fresh s (.st (cells x) t) fun j s => K (.pt j 0) s) :
    ∃ r val s' g' w', K r s' ∧ Rel w0 S0 N g' s' tmps w' ∧ RV g' w' (own S0 s'.σ g') r val ∧ (Instr.box t u).run P w = .ok val w' := by
  have hm := (fresh_mem hk).2.2.1
  obtain ⟨j, s', g', h3, h4, h5, h6⟩ := new_st (vs := u.cells) h hk (fun ow' g' ho hg => RVs_keep (w := w) (g := g) (fun b _ hlt => Below.heap_alloc w _ b hlt) (by simp) ho _ _ (fun q hq => hg q (fun e => hm (by simpa [refsO] using e ▸ hq))) (cells_ok hl hx))
  exact ⟨_, .pointer (some ⟨w.heap.size, 0, none⟩), s', g', _, h3, h4, ⟨by rw [h5], h6⟩, by simp [Instr.box, newVar, newRow]⟩
end
end Go.Proofs.Ytilmhjojbolbeaa.AM

namespace Go.Proofs.Ytilmhjojbolbeaa.AM
open Go Go.RowKit

section
variable {P : Program} {H : (α : Type) → α → α} {TT : Nat → TS} {g : G} {w w' w0 : World} {ow : Nat → Prop} {S0 : Fr} {N : Nat} {s : S} {tmps : Array Value}
theorem mixs_at {t : Ix → Bool} : ∀ {cs ds es : List C}, mixs t cs ds = some es → ∀ (k : Nat) (e : C), es[k]? = some e → ∃ c d, cs[k]? = some c ∧ ds[k]? = some d ∧ mix t c d = some e
  | [], [], es, h, k, e, hk => by simp [mixs] at h; subst h; simp at hk
  | c :: cs, d :: ds, es, h, k, e, hk => by
    simp only [mixs] at h
    split at h <;> cases h
    rename_i x xs h1 h2
    cases k with
    | zero => simp at hk; subst hk; exact ⟨c, d, by simp, by simp, h1⟩
    | succ k => simpa using mixs_at h2 k e (by simpa using hk)
  | [], _ :: _, es, h, _, _, _ => by simp [mixs] at h
  | _ :: _, [], es, h, _, _, _ => by simp [mixs] at h
theorem frs_at (lo : Int) : ∀ (cs : List C) (k : Nat), (frs lo cs)[k]? = (cs[k]?).map (fr lo)
  | [], k => by simp [frs]
  | c :: cs, 0 => by simp [frs]
  | c :: cs, k + 1 => by simpa [frs] using frs_at lo cs k
/-- the cells of a list of elements -/
def RL (w : World) (ow : Nat → Prop) (cs : List C) (n sz : Nat) (L : List Value) : Prop := L.length = n * sz ∧ (n = 0 ∨ cs.length = sz) ∧ ∀ q, q < n → ∀ k c, cs[k]? = some c → ∃ v, L[q * sz + k]? = some v ∧ RC w ow c [(q : Int)] v
theorem RC_one {c : C} {ix : Ix} {v : Value} (h : RC w ow c ix v) : v.oneCell' = true := by
  cases c with
  | i => obtain rfl : v = _ := h; rfl
  | b => obtain rfl : v = _ := h; rfl
  | s => obtain rfl : v = _ := h; rfl
  | v u => obtain ⟨rfl, h⟩ := h; exact h
  | l => obtain ⟨_, _, _, rfl, _⟩ := h; rfl
  | p => obtain ⟨_, _, rfl, _⟩ := h; rfl
theorem RL_one {cs : List C} {n sz : Nat} {L : List Value} (h : RL w ow cs n sz L) (hs : 0 < sz) : ∀ u ∈ L, u.oneCell' = true := by
  intro u hu
  obtain ⟨p, hp, rfl⟩ := List.getElem_of_mem hu
  have hlt : p < n * sz := h.1 ▸ hp
  have hq : p / sz < n := Nat.div_lt_of_lt_mul (by rw [Nat.mul_comm]; exact hlt)
  have hk : p % sz < cs.length := by rw [h.2.1.resolve_left (Nat.ne_of_gt (Nat.lt_of_le_of_lt (Nat.zero_le _) hq))]; exact Nat.mod_lt _ hs
  obtain ⟨v, h1, h2⟩ := h.2.2 (p / sz) hq (p % sz) _ (List.getElem?_eq_getElem hk)
  rw [Nat.div_add_mod' p sz, List.getElem?_eq_getElem hp] at h1
  cases h1
  exact RC_one h2
/-- what lies in memory, as a list -/
theorem RL_of {cs : List C} {b o n sz : Nat} (hc : n = 0 ∨ cs.length = sz) (h : ∀ j, j < n → RCs w ow cs [(j : Int)] b (o + j * sz)) : ∃ L, RL w ow cs n sz L ∧ ∀ j u, L[j]? = some u → w.cell? ⟨b, o + j, none⟩ = some u := by
  have key : ∀ p, p < n * sz → ∃ v, w.cell? ⟨b, o + p, none⟩ = some v := fun p hp => by
    have hs : 0 < sz := Nat.pos_of_ne_zero (fun e => by subst e; simp at hp)
    have hq : p / sz < n := Nat.div_lt_of_lt_mul (by rw [Nat.mul_comm]; exact hp)
    have hk : p % sz < cs.length := by rw [hc.resolve_left (Nat.ne_of_gt (Nat.lt_of_le_of_lt (Nat.zero_le _) hq))]; exact Nat.mod_lt _ hs
    obtain ⟨v, h1, -⟩ := (RCs_iff _ _ _ _).1 (h (p / sz) hq) (p % sz) _ (List.getElem?_eq_getElem hk)
    rw [Nat.add_assoc, Nat.div_add_mod' p sz] at h1
    exact ⟨v, h1⟩
  refine ⟨(List.range (n * sz)).map fun p => (w.cell? ⟨b, o + p, none⟩).getD undef, ⟨by simp, hc, fun q hq k c hk => ?_⟩, fun j u hj => ?_⟩
  · have hkl : k < sz := by have := (List.getElem?_eq_some_iff.1 hk).1; rw [hc.resolve_left (by omega)] at this; exact this
    have hlt : q * sz + k < n * sz := by have := Nat.mul_le_mul_right sz (show q + 1 ≤ n by omega); rw [Nat.add_mul, Nat.one_mul] at this; omega
    obtain ⟨v, h1, h2⟩ := (RCs_iff _ _ _ _).1 (h q hq) k c hk
    refine ⟨v, ?_, h2⟩
    rw [Nat.add_assoc] at h1
    simp [hlt, h1]
  · have hj' : j < n * sz := by have := (List.getElem?_eq_some_iff.1 hj).1; simpa using this
    obtain ⟨v, hv⟩ := key j hj'
    simp [hj', hv] at hj
    rw [hv, hj]
/-- one list behind another -/
theorem RL_cat {n m sz : Nat} {cs ds es : List C} {L M : List Value} (hL : RL w ow cs n sz L) (hM : RL w ow ds m sz M) (he : catC (n : Int) cs ds = some es) (hes : n + m = 0 ∨ es.length = sz) (hs : 0 < sz) : RL w ow es (n + m) sz (L ++ M) := by
  refine ⟨by rw [List.length_append, hL.1, hM.1, Nat.add_mul], hes, fun q hq k c hk => ?_⟩
  have hkl : k < sz := by have := (List.getElem?_eq_some_iff.1 hk).1; rw [hes.resolve_left (by omega)] at this; exact this
  have inL : q < n → (L ++ M)[q * sz + k]? = L[q * sz + k]? := fun h => by
    rw [List.getElem?_append_left]
    rw [hL.1]
    have := Nat.mul_le_mul_right sz (show q + 1 ≤ n by omega); rw [Nat.add_mul, Nat.one_mul] at this; omega
  have inM : n ≤ q → (L ++ M)[q * sz + k]? = M[(q - n) * sz + k]? := fun h => by
    have := Nat.mul_le_mul_right sz h
    rw [List.getElem?_append_right (by rw [hL.1]; omega), hL.1, Nat.sub_mul]
    congr 1; omega
  unfold catC at he
  split at he
  · cases he
    have h0 : n = 0 := by
      rcases hL.2.1 with h | h
      · exact h
      · simp at h; omega
    subst h0
    obtain ⟨v, h1, h2⟩ := hM.2.2 q (by omega) k c hk
    exact ⟨v, by rw [inM (by omega)]; simpa using h1, h2⟩
  · cases he
    have h0 : m = 0 := by
      rcases hM.2.1 with h | h
      · exact h
      · simp at h; omega
    subst h0
    obtain ⟨v, h1, h2⟩ := hL.2.2 q (by omega) k c hk
    exact ⟨v, by rw [inL (by omega)]; exact h1, h2⟩
  · obtain ⟨a, d, h1, h2, h3⟩ := mixs_at he k c hk
    rw [frs_at, Option.map_eq_some_iff] at h2
    obtain ⟨d, h2, rfl⟩ := h2
    have hh : Head (fun ix => decide (hd ix < (n : Int))) := fun _ _ _ => rfl
    by_cases hqn : q < n
    · obtain ⟨v, h4, h5⟩ := hL.2.2 q hqn k a h1
      exact ⟨v, by rw [inL hqn]; exact h4, RC_mix hh _ _ _ h3 q [] v (fun _ => h5) (fun hf => by simp [hd] at hf; omega)⟩
    · obtain ⟨v, h4, h5⟩ := hM.2.2 (q - n) (by omega) k d h2
      refine ⟨v, by rw [inM (by omega)]; exact h4, RC_mix hh _ _ _ h3 q [] v (fun ht => by simp [hd] at ht; omega) (fun _ => ?_)⟩
      refine RC_fr (-1 * (n : Int)) q d [] v ?_
      rw [show (q : Int) + -1 * (n : Int) = ((q - n : Nat) : Int) by omega]
      exact h5
/-- a list that lies in memory -/
theorem RCs_of_RL {cs : List C} {n sz b : Nat} {L : List Value} (h : RL w ow cs n sz L) {w' : World} {ow' : Nat → Prop} (hk : ∀ b, ¬ ow b → b < w.heap.size → w'.heap[b]? = w.heap[b]?) (hs : w.heap.size ≤ w'.heap.size) (ho : ∀ b, b < w.heap.size → ¬ ow b → ¬ ow' b)
    (hc : ∀ j u, L[j]? = some u → w'.cell? ⟨b, j, none⟩ = some u) : ∀ j, j < n → RCs w' ow' cs [(j : Int)] b (j * sz) := by
  intro j hj
  rw [RCs_iff]
  intro k c hkc
  obtain ⟨v, h1, h2⟩ := h.2.2 j hj k c hkc
  exact ⟨v, hc _ _ h1, RC_keep hk hs ho _ _ _ h2⟩
/-- what a value holds as a slice -/
def Cont (w : World) (ow : Nat → Prop) (ds : List C) (m : Int) (sz : Nat) (u : Value) (a : Option Addr) (len cap : Nat) : Prop :=
  u = .slice a len cap ∧ m = (len : Nat) ∧ len ≤ cap ∧ (len = 0 ∨ 0 < ds.length) ∧ ∃ L, RL w ow ds len sz L ∧ (len = 0 ∨ ∃ b o, a = some ⟨b, o, none⟩ ∧ ∀ (j : Nat) u, L[j]? = some u → w.cell? ⟨b, o + j, none⟩ = some u)
theorem RL_nil (ds : List C) (sz : Nat) : RL w ow ds 0 sz [] := ⟨by simp, .inl rfl, fun q hq => by omega⟩
theorem cont_l {ds : List C} {m : Int} {f : Bool} {u : Value} {sz : Nat} (hd : ds = [] ∨ ds.length = sz) (h : RV g w ow (.l m ds f) u) : ∃ a len cap, Cont w ow ds m sz u a len cap ∧ (f = true → cap = len) := by
  obtain ⟨a, len, cap, rfl, rfl, ⟨hcap, hf⟩, hr⟩ := h
  refine ⟨a, len, cap, ⟨rfl, rfl, hcap, hr.imp id (fun h => h.1), ?_⟩, hf⟩
  rcases hr with rfl | ⟨h0, b, o, rfl, -, -, hr⟩
  · exact ⟨[], RL_nil _ _, .inl rfl⟩
  · have hd : ds.length = sz := hd.resolve_left (fun e => by subst e; simp at h0)
    subst hd
    obtain ⟨L, h1, h2⟩ := RL_of (.inr rfl) hr
    exact ⟨L, h1, .inr ⟨b, o, rfl, h2⟩⟩
theorem cont_sl {o : Nat} {lo m : Int} {sz : Nat} {f : Bool} {u : Value} {k : Int} {cs : List C} {e : Nat} (hob : RO (g o) (RVs g w ow) w ow (.ar k cs e)) (h : RV g w ow (.sl o lo m sz f) u) : ∃ a len cap, Cont w ow (frs lo cs) m sz u a len cap ∧ (f = true → cap = len) := by
  obtain ⟨a, len, cap, rfl, rfl, hr⟩ := h
  rcases hr with ⟨rfl, rfl, -⟩ | ⟨hv, l, rfl, rfl, hcap, hln, rfl, hf⟩
  · exact ⟨a, 0, 0, ⟨rfl, rfl, Nat.le_refl _, .inl rfl, [], RL_nil _ _, .inl rfl⟩, fun _ => rfl⟩
  · refine ⟨_, len, cap, ⟨rfl, rfl, hcap, ?_⟩, fun h => by rw [if_pos h] at hf; exact hf⟩
    by_cases h0 : len = 0
    · subst h0
      exact ⟨.inl rfl, [], RL_nil _ _, .inl rfl⟩
    · obtain ⟨hk, hsz, hR⟩ := hob
      rcases hR with ⟨h3, _⟩ | ⟨_, _, hR⟩
      · rw [hv] at h3; cases h3
      · obtain ⟨hcs, hps⟩ := hsz.resolve_left (by omega)
        obtain ⟨L, h1, h2⟩ := RL_of (cs := frs (l : Int) cs) (b := (g o).bl) (o := l * (g o).sz) (n := len) (sz := (g o).sz) (w := w) (ow := ow) (.inr (by simp [hcs])) (fun j hj => by
          have := hR (j + l) (by omega)
          rw [show l * (g o).sz + j * (g o).sz = (j + l) * (g o).sz by rw [Nat.add_mul, Nat.add_comm]]
          exact RCs_fr _ _ cs [] _ _ (by simpa using this))
        exact ⟨.inr (by rw [frs_length, hcs]; exact hps), L, h1, .inr ⟨_, _, rfl, h2⟩⟩
/-- the second argument of append -/
theorem cont_y (h : Ob S0 g w s.σ) {y : V} {u : Value} {m : Int} {ds : List C} {f : Bool} {sz : Nat} (hd : ds = [] ∨ ds.length = sz) (hy : RV g w (own S0 s.σ g) y u) (hb : bor s.σ 1 y = .l m ds f) : ∃ a len cap, Cont w (own S0 s.σ g) ds m sz u a len cap := by
  cases y <;> simp only [bor] at hb
  case l => cases hb; obtain ⟨a, len, cap, h, -⟩ := cont_l hd hy; exact ⟨a, len, cap, h⟩
  case sl o lo n sz' full =>
    split at hb
    · rename_i k cs e hl
      cases hb
      obtain ⟨a, len, cap, h1, -⟩ := cont_sl (h.objs o _ hl) hy
      obtain ⟨h2, h3, h4, h7, L, h5, h6⟩ := h1
      refine ⟨a, len, cap, h2, h3, h4, h7, ?_⟩
      rcases hd with hd | hd
      · rw [hd] at h7
        have h0 : len = 0 := by simpa using h7
        subst h0; exact ⟨[], RL_nil _ _, .inl rfl⟩
      · by_cases h0 : len = 0
        · subst h0; exact ⟨[], RL_nil _ _, .inl rfl⟩
        · have : sz' = sz := by rw [← hd, h5.2.1.resolve_left h0]
          subst this; exact ⟨L, h5, h6⟩
    · cases hb
  case pt =>
    split at hb
    · split at hb <;> cases hb
    · cases hb
  case pe =>
    split at hb <;> cases hb
  all_goals cases hb
theorem catC_len {n : Int} {cs ds es : List C} (h : catC n cs ds = some es) : (cs = [] ∧ es = ds) ∨ (ds = [] ∧ es = cs) ∨ (cs.length = es.length ∧ ds.length = es.length) := by
  unfold catC at h
  split at h
  · cases h; exact .inl ⟨rfl, rfl⟩
  · cases h; exact .inr (.inl ⟨rfl, rfl⟩)
  · have := mixs_length h
    simp at this
    exact .inr (.inr ⟨this.1.symm, this.2.symm⟩)
theorem colOk_ok (hH : ∀ α x, H α x = x) {es : List C} {T : TS} {n m : Int} {K : Prop} (h : colOk H es T n m K) : ((es = [] ∧ n = 0 ∧ m = 0) ∨ es.length = T.esz) ∧ K := by
  unfold colOk at h
  split at h
  · simp only [ob, hH, decide_eq_true_eq] at h; exact ⟨.inl ⟨rfl, h.1⟩, h.2⟩
  · exact ⟨.inr (beq_iff.1 h.1), h.2⟩
theorem col_lens {es cs ds : List C} {n m : Int} {T : TS} (h : (es = [] ∧ n = 0 ∧ m = 0) ∨ es.length = T.esz) (hc : catC n cs ds = some es) : (cs = [] ∨ cs.length = T.esz) ∧ (ds = [] ∨ ds.length = T.esz) := by
  rcases catC_len hc with ⟨rfl, rfl⟩ | ⟨rfl, rfl⟩ | ⟨h1, h2⟩
  · exact ⟨.inl rfl, h.imp (fun h => h.1) id⟩
  · exact ⟨h.imp (fun h => h.1) id, .inl rfl⟩
  · rcases h with ⟨rfl, -⟩ | h
    · simp at h1 h2; exact ⟨.inl h1, .inl h2⟩
    · exact ⟨.inr (by omega), .inr (by omega)⟩
/-- what is appended, as the model takes it -/
theorem src_of {t e : TypeId} (hu : P.underlying t = some (.slice e)) {sz : Nat} (hs : 0 < sz) {ds : List C} {u : Value} {a : Option Addr} {len cap : Nat} {L : List Value} (hu' : u = .slice a len cap) (hL : RL w ow ds len sz L) (hm : len = 0 ∨ ∃ b o, a = some ⟨b, o, none⟩ ∧ ∀ (j : Nat) u, L[j]? = some u → w.cell? ⟨b, o + j, none⟩ = some u) : Src P sz t u len L w := by
  subst hu'
  rcases hm with rfl | ⟨b, o, rfl, h⟩
  · have : L = [] := List.eq_nil_of_length_eq_zero (by simpa using hL.1)
    subst this
    cases a with
    | none => exact Src.ofNil w hu cap
    | some a => exact Src.ofSlice w hu a 0 cap [] (by simp) (fun j u h => by simp at h) (fun u h => by cases h)
  · exact Src.ofSlice w hu _ len cap L hL.1 (fun j u hj => by rw [Addr.add_lit]; exact h j u hj) (RL_one hL hs)
theorem grow_run {t e : TypeId} {T : TS} (hc : chkB P t T = true) (hu : P.underlying t = some (.slice e)) {a : Option Addr} {n cap m : Nat} {u : Value} {olds news : List Value}
    (hold : olds.length = n * T.esz) (hoc : n = 0 ∨ ∃ b o, a = some ⟨b, o, none⟩ ∧ ∀ (j : Nat) u, olds[j]? = some u → w.cell? ⟨b, o + j, none⟩ = some u) (hs : Src P T.esz t u m news w) (hg : cap < n + m) (hb : (n + m) * T.eb ≤ 140737488355328) (ty : TypeId) :
    ∃ c cells, (Builtin.append_ #[t, t] ty #[.slice a n cap, u]).run P w = .ok (.slice (some ⟨w.heap.size, 0, none⟩) (n + m) c) (w.drew.alloc (.cells cells e)) ∧ n + m ≤ c ∧ cells.size = c * T.esz ∧ (∀ (j : Nat) v, (olds ++ news)[j]? = some v → cells[j]? = some v) := by
  obtain ⟨-, i, hi, hsz, hby, hpos, hbp, z, hz, hzs⟩ := chk_slice hc hu
  have hlen : n + m ≤ 140737488355328 := Nat.le_trans (Nat.le_mul_of_pos_right _ hbp) hb
  have hfc : (Builtin.firstCells i.size n (.slice a n cap)).run P w.drew = .ok olds.toArray w.drew := by
    rcases hoc with rfl | ⟨b, o, rfl, h⟩
    · have : olds = [] := List.eq_nil_of_length_eq_zero (by simpa using hold)
      subst this
      cases a with
      | none => exact run_firstCells_none w.drew i.size 0 0 cap
      | some a => exact run_firstCells_some w.drew i.size 0 a 0 cap [] (by simp) (fun j u h => by simp at h)
    · exact run_firstCells_some w.drew i.size n _ n cap olds (by rw [hsz]; exact hold) (fun j u hj => by rw [Addr.add_lit]; simpa using h j u hj)
  have hge := grownCap_ge w (n + m) cap e
  refine ⟨_, _, run_append_grow_src w t t ty e i z hu hi hz a n cap olds hfc u m news (hsz ▸ hs) hg (by omega) (growslice_fits hg (by rw [hby]; exact hb)), hge, ?_, fun j v hj => ?_⟩
  · simp only [Array.size_append, List.size_toArray, size_zeroCells, hzs, List.length_append, hold, hs.newsLen]
    rw [← Nat.add_mul, ← Nat.add_mul]; congr 1; omega
  · have hlt : j < (olds ++ news).length := (List.getElem?_eq_some_iff.1 hj).1
    rw [Array.getElem?_append_left (by simpa using hlt)]
    simpa using hj
end
end Go.Proofs.Ytilmhjojbolbeaa.AM

namespace Go.Proofs.Ytilmhjojbolbeaa.AM
open Go Go.RowKit

section
variable {P : Program} {H : (α : Type) → α → α} {TT : Nat → TS} {g g' : G} {w w' w0 : World} {ow : Nat → Prop} {S0 : Fr} {N : Nat} {s : S} {tmps : Array Value}
theorem Ob.same (h : Ob S0 g w s.σ) (hw : w'.heap = w.heap) : Ob S0 g w' s.σ := by
  have hk : ∀ b, ¬ own S0 s.σ g b → b < w.heap.size → w'.heap[b]? = w.heap[b]? := fun b _ _ => by rw [hw]
  have hs : w.heap.size ≤ w'.heap.size := by rw [hw]; exact Nat.le_refl _
  refine ⟨fun i o hi => ?_, h.inj⟩
  have := h.objs i o hi
  cases o with
  | st xs e => obtain ⟨h1, vs, hb, hr⟩ := this; exact ⟨h1, vs, by rw [hw]; exact hb, RVs_keep hk hs (fun _ _ h => h) _ _ (fun _ _ => rfl) hr⟩
  | rw l rf st pe xs vs => obtain ⟨h1, h0, hb, hr⟩ := this; exact ⟨h1, h0, by rw [hw]; exact hb, RVs_keep hk hs (fun _ _ h => h) _ _ (fun _ _ => rfl) hr⟩
  | ms S => obtain ⟨h1, es, ck, hb, hr⟩ := this; exact ⟨h1, es, ck, by rw [hw]; exact hb, hr⟩
  | ar n cs e =>
    obtain ⟨h1, h2, h3⟩ := this
    refine ⟨h1, h2, h3.imp id fun ⟨a, ⟨c, hb, hc⟩, d⟩ => ⟨a, ⟨c, by rw [hw]; exact hb, hc⟩, fun q hq => RCs_keep' hk hs (fun _ _ h => h) _ _ _ _ (fun r v _ _ hv => ?_) (d q hq)⟩⟩
    simpa [World.cell?, hw] using hv
theorem Rel.drew (h : Rel w0 S0 N g s tmps w) : Rel w0 S0 N g s tmps w.drew :=
  h.step (w' := w.drew) (Kp.refl _ _).drew (h.ob.same rfl) (fun _ hb => .inl hb) (Nat.le_refl _) (fun i hi hs => ⟨hs, rfl⟩) (fun _ _ hx => ⟨hx, fun _ _ => rfl⟩)
theorem look_del {α : Type} (i k : Nat) (l : List (Nat × α)) : look i (del k l) = if i = k then none else look i l := by
  induction l with
  | nil => simp [del, look]
  | cons p r ih =>
    obtain ⟨j, x⟩ := p
    simp only [del]
    split
    · rename_i h
      obtain rfl := beq_iff.1 h
      rw [ih, look_cons]
      by_cases e : i = j
      · rw [if_pos e, if_pos e]
      · rw [if_neg e, if_neg e, if_neg (Ne.symm e)]
    · rename_i h
      have h := beq_no h
      rw [look_cons, look_cons, ih]
      by_cases e : j = i
      · subst e; simp [h]
      · simp [e]
theorem mine_del {σ : Sto} {k : Nat} {b : Nat} (h : mine (del k σ) g b) : mine σ g b := by
  obtain ⟨i, h1, h2, h3⟩ := h
  rw [look_del] at h1
  split at h1
  · cases h1
  · exact ⟨i, h1, h2, h3⟩
theorem own_del {σ : Sto} {k : Nat} {b : Nat} (h : own S0 (del k σ) g b) : own S0 σ g b := h.imp_right mine_del
theorem RO_weak {k : GI} {o : O} {ow' : Nat → Prop} (ho : ∀ b, ¬ ow b → ¬ ow' b) (h : RO k (RVs g w ow) w ow o) : RO k (RVs g w ow') w ow' o := by
  cases o with
  | st xs e => obtain ⟨h1, vs, hb, hr⟩ := h; exact ⟨h1, vs, hb, RVs_weak ho _ _ hr⟩
  | rw l rf st pe xs vs => obtain ⟨h1, h0, hb, hr⟩ := h; exact ⟨h1, h0, hb, RVs_weak ho _ _ hr⟩
  | ms S => exact h
  | ar n cs e => obtain ⟨h1, h2, h3⟩ := h; exact ⟨h1, h2, h3.imp id fun ⟨a, b, c⟩ => ⟨a, b, fun q hq => RCs_weak ho _ _ _ _ (c q hq)⟩⟩
/-- an object is let go -/
theorem Rel.del (h : Rel w0 S0 N g s tmps w) (o : Nat) : Rel w0 S0 N g { s with σ := AM.del o s.σ } tmps w := by
  refine h.step (w' := w) (Kp.refl _ _) ⟨fun i x hi => ?_, fun i j hi hj => ?_⟩ (fun b hb => .inl (mine_del hb)) (Nat.le_refl _) (fun i hi hs => ⟨by simp only [look_del] at hs; split at hs; (· cases hs); exact hs, rfl⟩) (fun _ _ hx => ⟨hx, fun _ _ => rfl⟩)
  · simp only [look_del] at hi
    split at hi
    · cases hi
    · exact RO_weak (fun b hn hb => hn (own_del hb)) (h.ob.objs i x hi)
  · simp only [look_del] at hi hj
    split at hi
    · cases hi
    · split at hj
      · cases hj
      · exact h.ob.inj i j hi hj
theorem RL_keep {cs : List C} {n sz : Nat} {L : List Value} (h : RL w ow cs n sz L) {ow' : Nat → Prop} (hk : ∀ b, ¬ ow b → b < w.heap.size → w'.heap[b]? = w.heap[b]?) (hs : w.heap.size ≤ w'.heap.size) (ho : ∀ b, b < w.heap.size → ¬ ow b → ¬ ow' b) : RL w' ow' cs n sz L :=
  ⟨h.1, h.2.1, fun q hq k c hc => (h.2.2 q hq k c hc).imp fun _ hv => ⟨hv.1, RC_keep hk hs ho _ _ _ hv.2⟩⟩
/-- what comes of an append -/
def Appd (P : Program) (w0 : World) (S0 : Fr) (N : Nat) (tmps : Array Value) (w : World) (t ty : TypeId) (u v : Value) (K : V → S → Prop) : Prop :=
  ∃ r val s' g' w', K r s' ∧ Rel w0 S0 N g' s' tmps w' ∧ RV g' w' (own S0 s'.σ g') r val ∧ (Builtin.append_ #[t, t] ty #[u, v]).run P w = .ok val w'
/-- a new row is made -/
theorem append_new (hH : ∀ α x, H α x = x) {t e : TypeId} {T : TS} (hc : chkB P t T = true) (hu : P.underlying t = some (.slice e)) (h : Rel w0 S0 N g s tmps w) {a : Option Addr} {n cap m : Nat} {u : Value} {olds news : List Value} {es : List C} {K : V → S → Prop} {ty : TypeId}
    (hold : olds.length = n * T.esz) (hoc : n = 0 ∨ ∃ b o, a = some ⟨b, o, none⟩ ∧ ∀ (j : Nat) u, olds[j]? = some u → w.cell? ⟨b, o + j, none⟩ = some u) (hs : Src P T.esz t u m news w) (hg : cap < n + m) (hb : (n + m) * T.eb ≤ 140737488355328)
    (hL : RL w (own S0 s.σ g) es (n + m) T.esz (olds ++ news)) (hf : fresh s (.ar (H Int ((n : Int) + (m : Int))) es T.el) fun j s => K (.sl j 0 (H Int ((n : Int) + (m : Int))) T.esz false) s) :
    Appd P w0 S0 N tmps w t ty (.slice a n cap) u K := by
  obtain ⟨hel, i, hi, hsz, hby, hpos, hbp, -⟩ := chk_slice hc hu
  obtain ⟨c, cells, hr, hcle, hcs, hcells⟩ := grow_run hc hu hold hoc hs hg hb ty
  simp only [hH] at hf
  have hf' : fresh s (.ar ((n + m : Nat) : Int) es e) fun j s => K (.sl j 0 ((n : Int) + (m : Int)) T.esz false) s := by rw [← hel]; simpa using hf
  have hes : es.length = T.esz := hL.2.1.resolve_left (by omega)
  obtain ⟨j, s', g', h1, h2, h3⟩ := new_ar (c := cells) (sz := T.esz) (cp := c * T.esz) h.drew hf' (.inr ⟨hes, hpos⟩) hcs (by rw [hcs]; exact Nat.mul_le_mul_right _ hcle) (fun ow' ho j hj =>
    RCs_of_RL (w := w) hL (fun b _ hlt => Below.heap_alloc w.drew _ b hlt) (by simp) (fun b hlt hn => ho b hlt hn) (fun k v hk => by rw [blk_cell (heap_alloc_new w.drew _)]; exact hcells k v hk) j hj)
  refine ⟨_, _, s', g', _, h1, h2, ?_, hr⟩
  refine ⟨_, n + m, c, rfl, by simp, .inr ?_⟩
  rw [h3]
  exact ⟨rfl, 0, rfl, by simp, hcle, by simp, rfl, by simp⟩
/-- nothing is appended to nothing -/
theorem append_none (hH : ∀ α x, H α x = x) {t e : TypeId} {T : TS} (hc : chkB P t T = true) (hu : P.underlying t = some (.slice e)) (h : Rel w0 S0 N g s tmps w) {a : Option Addr} {u : Value} {es : List C} {K : V → S → Prop} {ty : TypeId} {n m : Int}
    (hs : Src P T.esz t u 0 [] w) (hn : n = 0) (hm : m = 0) (hf : fresh s (.ar (H Int (n + m)) es T.el) fun j s => K (.sl j 0 (H Int (n + m)) T.esz false) s) :
    Appd P w0 S0 N tmps w t ty (.slice a 0 0) u K := by
  subst hn; subst hm
  obtain ⟨hel, i, hi, hsz, -⟩ := chk_slice hc hu
  obtain ⟨h1, h2, h3, hK⟩ := fresh_mem hf
  simp only [hH] at hK
  have hR := h.add (w' := w) (.ar (0 + 0) es T.el) ⟨0, 0, true, 0, 0⟩ h1 h2 (Kp.refl _ _) (fun h => by cases h) (fun ow' _ => ⟨rfl, .inl rfl, .inl ⟨rfl, rfl⟩⟩)
  exact ⟨_, _, _, _, w, hK, hR, ⟨a, 0, 0, rfl, rfl, .inl ⟨rfl, rfl, fun h => by simp at h⟩⟩, run_append_nothing w t t ty e i hu hi a 0 0 (Nat.le_refl _) u (hsz ▸ hs)⟩
/-- there is room: the row goes on in its block -/
theorem append_room (hH : ∀ α x, H α x = x) {t e : TypeId} {T : TS} (hc : chkB P t T = true) (hu : P.underlying t = some (.slice e)) (h : Rel w0 S0 N g s tmps w) {o : Nat} {k : Int} {cs es : List C} {e' : Nat} (hl : look o s.σ = some (.ar k cs e')) (he' : e' = T.el) (hvi : (g o).vi = false)
    {n cap m : Nat} {u : Value} {olds news : List Value} {K : V → S → Prop} {ty : TypeId} (hsz : T.esz = (g o).sz) (hcp : cap * T.esz = (g o).cp) (hn : n ≤ (g o).ln)
    (hold : olds.length = n * T.esz) (hoc : ∀ (j : Nat) u, olds[j]? = some u → w.cell? ⟨(g o).bl, 0 + j, none⟩ = some u) (hs : Src P T.esz t u m news w) (hg : n + m ≤ cap)
    (hL : RL w (own S0 s.σ g) es (n + m) T.esz (olds ++ news)) (hf : fresh { s with σ := AM.del o s.σ } (.ar (H Int ((n : Int) + (m : Int))) es T.el) fun j s => K (.sl j 0 (H Int ((n : Int) + (m : Int))) T.esz false) s) :
    Appd P w0 S0 N tmps w t ty (.slice (some ⟨(g o).bl, 0, none⟩) n cap) u K := by
  obtain ⟨hel, i, hi, hisz, hby, hpos, hbp, -⟩ := chk_slice hc hu
  obtain ⟨h1, h2, h3, hK⟩ := fresh_mem hf
  simp only [hH] at hK
  obtain ⟨hk, hks, hR⟩ := h.ob.objs o _ hl
  rcases hR with ⟨hx, _⟩ | ⟨_, ⟨cur, hb, hcs, hle⟩, hR⟩
  · rw [hvi] at hx; cases hx
  · have hcur : cur.size = cap * T.esz := by rw [hcs, hcp]
    have hfit : n * T.esz + m * T.esz ≤ cap * T.esz := by rw [← Nat.add_mul]; exact Nat.mul_le_mul_right _ hg
    have hin : ∀ j, j < news.length → n * T.esz + j < cur.size := fun j hj => by rw [hs.newsLen] at hj; omega
    have hrun := run_append_room_src (P := P) w t t ty e i hu hi (g o).bl 0 n cap u m news (hisz ▸ hs) hg
      (fun j hj => by rw [blk_cell hb, hisz, Nat.zero_add]; have := hin j hj; simp [this]) (fun j _ => blk_frozen hb _)
    have hst1 := run_storeCells_cells (P := P) (g o).bl (n * T.esz) news 0 w (fun j hj => by rw [blk_cell hb]; have := hin j hj; simp [this]) (fun j _ => blk_frozen hb _) hs.one
    have hst2 := run_storeCells_at P (g o).bl (n * T.esz) e' news 0 cur w hb (by rw [hs.newsLen]; omega) hs.one
    obtain ⟨new, hnew⟩ : ∃ new, new = (cur.toList.take (n * T.esz + 0) ++ news ++ cur.toList.drop (n * T.esz + 0 + news.length)).toArray := ⟨_, rfl⟩
    rw [← hnew] at hst2
    have hw : w.setCells (g o).bl (0 + n * i.size) news = w.setRow (g o).bl new := by
      have := hst1.symm.trans hst2
      simp only [Nat.add_zero, Result.ok.injEq, true_and] at this
      rw [hisz, Nat.zero_add]; exact this
    rw [hw] at hrun
    have hns : new.size = cur.size := by
      rw [hnew]; simp only [List.size_toArray, List.length_append, List.length_take, List.length_drop, Array.length_toList, hs.newsLen]; omega
    have hlo : ∀ j v, (olds ++ news)[j]? = some v → new[j]? = some v := fun j v hj => by
      rw [hnew, List.getElem?_toArray, Nat.add_zero]
      have hlt : j < (olds ++ news).length := (List.getElem?_eq_some_iff.1 hj).1
      rw [List.length_append, hold, hs.newsLen] at hlt
      rw [List.getElem?_append_left (by simp [hs.newsLen]; omega)]
      by_cases hjn : j < n * T.esz
      · rw [List.getElem?_append_left (by simp; omega), List.getElem?_take, if_pos hjn]
        rw [List.getElem?_append_left (by omega)] at hj
        have := hoc j v hj
        rw [blk_cell hb, Nat.zero_add] at this
        simpa using this
      · rw [List.getElem?_append_right (by simp; omega)]
        rw [List.getElem?_append_right (by omega), hold] at hj
        rw [show (cur.toList.take (n * T.esz)).length = n * T.esz by simp; omega]
        exact hj
    have hmine : mine s.σ g (g o).bl := ⟨o, by rw [hl]; rfl, hvi, rfl⟩
    have hown : own S0 s.σ g (g o).bl := .inr hmine
    have hkb : ∀ b, ¬ own S0 s.σ g b → b < w.heap.size → (w.setRow (g o).bl new).heap[b]? = w.heap[b]? := fun b hb' _ => setRow_other w _ b _ (fun e => hb' (e ▸ hown))
    obtain ⟨j, hj⟩ : ∃ j, j = s.nx := ⟨_, rfl⟩
    simp only [← hj] at h1 h2 h3 hK
    have hd := h.del o
    have hne : ∀ i, (look i (AM.del o s.σ)).isSome = true → (g i).vi = false → (g i).bl ≠ (g o).bl ∧ i ≠ j := fun i h1' h2' => by
      rw [look_del] at h1'
      by_cases e : i = o
      · rw [if_pos e] at h1'; cases h1'
      · rw [if_neg e] at h1'
        refine ⟨fun e' => e (h.ob.inj i o h1' (by rw [hl]; rfl) h2' hvi e'), fun e' => ?_⟩
        obtain ⟨y, hy⟩ := Option.isSome_iff_exists.1 h1'
        have : look i (AM.del o s.σ) = some y := by rw [look_del, if_neg e]; exact hy
        exact h2 (e' ▸ (refs_lookS this).1)
    have hsub0 : ∀ b, mine ((j, O.ar ((n : Int) + (m : Int)) es T.el) :: AM.del o s.σ) (fun i => if i = j then ⟨(g o).bl, (g o).cp, false, n + m, T.esz⟩ else g i) b → mine s.σ g b := by
      rintro b ⟨i, a1, a2, a3⟩
      rw [look_cons] at a1
      by_cases e : j = i
      · subst e; simp only [if_true] at a3; exact a3 ▸ hmine
      · rw [if_neg e] at a1
        simp only [if_neg (Ne.symm e)] at a2 a3
        exact mine_del ⟨i, a1, a2, a3⟩
    have hsub : ∀ b, own S0 ((j, O.ar ((n : Int) + (m : Int)) es T.el) :: AM.del o s.σ) (fun i => if i = j then ⟨(g o).bl, (g o).cp, false, n + m, T.esz⟩ else g i) b → own S0 s.σ g b := fun b hb => hb.imp_right (hsub0 b)
    have hRel : Rel w0 S0 N (fun i => if i = j then ⟨(g o).bl, (g o).cp, false, n + m, T.esz⟩ else g i) { s with σ := (j, .ar ((n : Int) + (m : Int)) es T.el) :: AM.del o s.σ, nx := j + 1 } tmps (w.setRow (g o).bl new) := by
      refine h.step ((kp_setRow w _ new).mono (fun b hb _ => by subst hb; exact hmine)) ⟨fun i x hi' => ?_, fun i i' hi' hi'' hv hv' hbl => ?_⟩ (fun b hb => .inl (hsub0 b hb)) (by rw [hj]; exact Nat.le_succ _) (fun i hi hs => by
        have hne : ¬ j = i := by have := h.nx; omega
        simp only at hs
        rw [look_cons, if_neg hne, look_del] at hs
        refine ⟨?_, if_neg (Ne.symm hne)⟩
        split at hs
        · cases hs
        · exact hs) (fun t x hx => ⟨hx, fun q hq => if_neg (fun (e : q = j) => h1 (e ▸ refs_look hx q hq))⟩)
      · simp only at hi'
        rw [look_cons] at hi'
        split at hi'
        · rename_i e; subst e; cases hi'
          simp only [if_true]
          refine ⟨by simp, hL.2.1.imp (fun h => by omega) (fun h => ⟨h, hpos⟩), .inr ⟨rfl, ⟨new, by rw [setRow_heap w _ _ new _ _ hb, he'], by rw [hns, hcs], by rw [hns, hcur]; show (n + m) * T.esz ≤ _; rw [Nat.add_mul]; exact hfit⟩, ?_⟩⟩
          exact RCs_of_RL hL hkb (by simp) (fun b _ hn hb => hn (hsub b hb)) (fun k v hk => by rw [blk_cell (setRow_heap w _ _ new _ _ hb)]; exact hlo k v hk)
        · rename_i e
          rw [if_neg (Ne.symm e)]
          have hrf := refs_lookS hi'
          have hsome : (look i (AM.del o s.σ)).isSome = true := by rw [hi']; rfl
          have hi2 : look i s.σ = some x := by
            rw [look_del] at hi'
            split at hi'
            · cases hi'
            · exact hi'
          have ho : ∀ b, b < w.heap.size → ¬ own S0 s.σ g b → ¬ own S0 ((j, O.ar ((n : Int) + (m : Int)) es T.el) :: AM.del o s.σ) (fun i => if i = j then ⟨(g o).bl, (g o).cp, false, n + m, T.esz⟩ else g i) b := fun b _ hn hb => hn (hsub b hb)
          have hR' := h.ob.objs i x hi2
          cases x with
          | st xs e'' =>
            obtain ⟨b1, vs, b2, b3⟩ := hR'
            exact ⟨b1, vs, (setRow_other w _ _ new (hne i hsome b1).1).trans b2, RVs_keep hkb (by simp) ho xs _ (fun q hq => if_neg (fun (e : q = j) => h2 (e ▸ hrf.2 q hq))) b3⟩
          | rw l rf st pe xs vs =>
            obtain ⟨b1, b0, b2, b3⟩ := hR'
            exact ⟨b1, b0, (setRow_other w _ _ new (hne i hsome b1).1).trans b2, RVs_keep hkb (by simp) ho xs _ (fun q hq => if_neg (fun (e : q = j) => h2 (e ▸ hrf.2 q hq))) b3⟩
          | ms S =>
            obtain ⟨b1, es', ck, b2, b3⟩ := hR'
            exact ⟨b1, es', ck, (setRow_other w _ _ new (hne i hsome b1).1).trans b2, b3⟩
          | ar n' cs' e'' =>
            obtain ⟨b1, b2, b3⟩ := hR'
            refine ⟨b1, b2, b3.imp id fun ⟨a, ⟨c, hb', hc'⟩, d⟩ => ?_⟩
            have hblk := (setRow_other w _ _ new (hne i hsome a).1).trans hb'
            refine ⟨a, ⟨c, hblk, hc'⟩, fun q hq => RCs_keep' hkb (by simp) ho _ _ _ _ (fun r v _ _ hv => ?_) (d q hq)⟩
            rw [blk_cell hblk]; rw [blk_cell hb'] at hv; exact hv
      · simp only at hi' hi''
        rw [look_cons] at hi' hi''
        by_cases e : j = i
        · subst e
          by_cases e' : j = i'
          · exact e'
          · rw [if_neg e'] at hi''
            simp only [if_true, if_neg (Ne.symm e')] at hv hv' hbl
            exact absurd hbl.symm (hne i' hi'' hv').1
        · rw [if_neg e] at hi'
          simp only [if_neg (Ne.symm e)] at hv hbl
          by_cases e' : j = i'
          · subst e'
            simp only [if_true] at hv' hbl
            exact absurd hbl (hne i hi' hv).1
          · rw [if_neg e'] at hi''
            simp only [if_neg (Ne.symm e')] at hv' hbl
            exact hd.ob.inj i i' hi' hi'' hv hv' hbl
    exact ⟨_, _, _, _, _, hK, hRel, ⟨_, n + m, cap, rfl, by simp, .inr (by simp only [if_true]; exact ⟨trivial, 0, rfl, by simp, by omega, by simp, trivial, by simp [hcp]⟩)⟩, hrun⟩
theorem nb {n m b : Nat} (h : ((n : Int) + m) * b ≤ 140737488355328) : (n + m) * b ≤ 140737488355328 := by
  have : (((n + m) * b : Nat) : Int) ≤ 140737488355328 := by rw [Int.natCast_mul, Int.natCast_add]; exact h
  omega
/-- append, whatever it is handed -/
theorem vappend_ok (hH : ∀ α x, H α x = x) {t e : TypeId} {T : TS} (hc : chkB P t T = true) (hu : P.underlying t = some (.slice e)) (h : Rel w0 S0 N g s tmps w) {x y : V} {v u : Value} (hx : RV g w (own S0 s.σ g) x v) (hy : RV g w (own S0 s.σ g) y u) {K : V → S → Prop} {ty : TypeId} (hk : vappend H s T x y K) :
    Appd P w0 S0 N tmps w t ty v u K := by
  obtain ⟨hel, i, hi, hisz, hby, hpos, hbp, -⟩ := chk_slice hc hu
  unfold vappend at hk
  split at hk
  · rename_i m ds f hbor
    cases x
    case l n cs full =>
      cases full with
      | false => exact hk.elim
      | true =>
        simp only at hk
        obtain ⟨es, hcat, hk1⟩ := need_some hk
        obtain ⟨hcol, hk2⟩ := colOk_ok hH hk1
        simp only [ob, hH, decide_eq_true_eq] at hk2
        obtain ⟨hnm, hb, hf⟩ := hk2
        obtain ⟨l1, l2⟩ := col_lens hcol hcat
        obtain ⟨a, len, cap, ⟨rfl, rfl, hle, hps, L, hL, hLc⟩, hcap⟩ := cont_l (sz := T.esz) l1 hx
        obtain ⟨a', len', cap', hu', rfl, hle', hps', L', hL', hLc'⟩ := cont_y h.ob l2 hy hbor
        have hsrc := src_of (P := P) hu hpos hu' hL' hLc'
        obtain rfl := hcap rfl
        by_cases hm : len' = 0
        · subst hm
          have h0 : L' = [] := List.eq_nil_of_length_eq_zero (by simpa using hL'.1)
          subst h0
          have hn0 : cap = 0 := by omega
          subst hn0
          refine append_none hH hc hu h (es := es) hsrc (n := ((0 : Nat) : Int)) (m := ((0 : Nat) : Int)) rfl rfl ?_
          simpa only [hH] using hf
        · refine append_new hH hc hu h hL.1 hLc hsrc (by omega) (nb hb) (RL_cat hL hL' hcat (hcol.elim (fun h => by omega) .inr) hpos) ?_
          simpa only [hH] using hf
    case sl o lo n sz full =>
      cases full with
      | true =>
        simp only at hk
        split at hk
        · rename_i k cs e' hl
          obtain ⟨es, hcat, hk1⟩ := need_some hk
          obtain ⟨hcol, hk2⟩ := colOk_ok hH hk1
          simp only [ob, hH, decide_eq_true_eq] at hk2
          obtain ⟨hnm, hb, hsz, hf⟩ := hk2
          obtain rfl := beq_iff.1 hsz
          obtain ⟨l1, l2⟩ := col_lens hcol hcat
          obtain ⟨a, len, cap, ⟨rfl, rfl, hle, hps, L, hL, hLc⟩, hcap⟩ := cont_sl (h.ob.objs o _ hl) hx
          obtain ⟨a', len', cap', hu', rfl, hle', hps', L', hL', hLc'⟩ := cont_y h.ob l2 hy hbor
          have hsrc := src_of (P := P) hu hpos hu' hL' hLc'
          obtain rfl := hcap rfl
          refine append_new hH hc hu h hL.1 hLc hsrc (by omega) (nb hb) (RL_cat hL hL' hcat (hcol.elim (fun h => by omega) .inr) hpos) ?_
          simpa only [hH] using hf
        · exact hk.elim
      | false =>
        simp only at hk
        split at hk
        · rename_i k cs e' hl hmem
          obtain ⟨es, hcat, hk1⟩ := need_some hk
          obtain ⟨hcol, hk2⟩ := colOk_ok hH hk1
          simp only [ob, hH, decide_eq_true_eq] at hk2
          obtain ⟨hlo, hb, hsz, he', hf⟩ := hk2
          obtain rfl := beq_iff.1 hsz
          obtain rfl := beq_iff.1 he'
          obtain rfl := hlo
          obtain ⟨l1, l2⟩ := col_lens hcol hcat
          obtain ⟨a', len', cap', hu', rfl, hle', hps', L', hL', hLc'⟩ := cont_y h.ob l2 hy hbor
          have hsrc := src_of (P := P) hu hpos hu' hL' hLc'
          obtain ⟨a, len, cap, rfl, rfl, hr⟩ := hx
          have hd := h.del o
          have hweak : ∀ b, ¬ own S0 s.σ g b → ¬ own S0 (AM.del o s.σ) g b := fun b hn hb => hn (own_del hb)
          have RLw : ∀ {cs : List C} {n sz : Nat} {L : List Value}, RL w (own S0 s.σ g) cs n sz L → RL w (own S0 (AM.del o s.σ) g) cs n sz L := fun h => RL_keep h (fun _ _ _ => rfl) (Nat.le_refl _) (fun b _ hn => hweak b hn)
          rcases hr with ⟨rfl, rfl, -⟩ | ⟨hvi, l, hl0, rfl, hcap, hln, hsz', hcp⟩
          · by_cases hm : len' = 0
            · subst hm
              have h0 : L' = [] := List.eq_nil_of_length_eq_zero (by simpa using hL'.1)
              subst h0
              refine append_none hH hc hu hd (es := es) hsrc (n := ((0 : Nat) : Int)) (m := ((0 : Nat) : Int)) rfl rfl ?_
              simpa only [hH] using hf
            · refine append_new hH hc hu hd (olds := []) (by simp) (.inl rfl) hsrc (by omega) (nb hb) (RLw (RL_cat (RL_nil cs _) hL' hcat (hcol.elim (fun h => by omega) .inr) hpos)) ?_
              simpa only [hH] using hf
          · obtain rfl : l = 0 := by omega
            simp only [Nat.zero_add] at hln
            simp only [Nat.zero_mul] at hcp ⊢
            obtain ⟨hkk, hss, hR⟩ := h.ob.objs o _ hl
            rcases hR with ⟨hx', _⟩ | ⟨_, ⟨cur, hbk, hcs', hle⟩, hR⟩
            · rw [hvi] at hx'; cases hx'
            · obtain ⟨L, hL, hLc⟩ := RL_of (cs := cs) (b := (g o).bl) (o := 0) (n := len) (sz := T.esz) (w := w) (ow := own S0 s.σ g) (by
                rcases hss with h0 | ⟨h0, -⟩
                · left; omega
                · right; rw [h0, hsz']) (fun j hj => by rw [Nat.zero_add, hsz']; exact hR j (by omega))
              have hcat' := RL_cat hL hL' hcat (hcol.imp (fun h => by omega) id) hpos
              by_cases hg : len + len' ≤ cap
              · refine append_room hH hc hu h hl rfl hvi hsz' (by simpa only [Nat.zero_add, Bool.false_eq_true, if_false] using hcp) hln hL.1 hLc hsrc hg hcat' ?_
                simpa only [hH] using hf
              · refine append_new hH hc hu hd hL.1 (.inr ⟨_, 0, by simp, hLc⟩) hsrc (by omega) (nb hb) (RLw hcat') ?_
                simpa only [hH] using hf
        · exact hk.elim
    all_goals exact hk.elim
  · exact hk.elim
end
end Go.Proofs.Ytilmhjojbolbeaa.AM

namespace Go.Proofs.Ytilmhjojbolbeaa.AM
open Go Go.RowKit

section
variable {P : Program} {H : (α : Type) → α → α} {TT : Nat → TS} {g g' : G} {w w' w0 : World} {ow : Nat → Prop} {S0 : Fr} {N : Nat} {s : S} {tmps : Array Value}
/-- what comes of an operation that may make memory -/
def Made (P : Program) (w0 : World) (S0 : Fr) (N : Nat) (tmps : Array Value) (w : World) (m : Sem Value) (K : V → S → Prop) : Prop :=
  ∃ r val s' g' w', K r s' ∧ Rel w0 S0 N g' s' tmps w' ∧ RV g' w' (own S0 s'.σ g') r val ∧ m.run P w = .ok val w'
theorem drs_at : ∀ (cs : List C) (k : Nat), (drs cs)[k]? = (cs[k]?).map dr
  | [], k => by simp [drs]
  | c :: cs, 0 => by simp [drs]
  | c :: cs, k + 1 => by simpa [drs] using drs_at cs k
/-- a list of cells, the same at each place -/
theorem zero_cells {z : List V} {ds : List C} {zs : List Value} (hz : zBs z zs = true) (hd : toCs z = some ds) (k : Nat) (c : C) (hc : ds[k]? = some c) : ∃ v, zs[k]? = some v ∧ ∀ w ow, RC w ow c [] v := by
  obtain ⟨h1, h2⟩ := toCs_at hd
  have hk : k < z.length := by have := (List.getElem?_eq_some_iff.1 hc).1; omega
  obtain ⟨c', h3, h4⟩ := h2 k _ (List.getElem?_eq_getElem hk)
  rw [hc] at h3; cases h3
  have hlen := RVs_len (RVs_zBs (g := fun _ => ⟨0, 0, false, 0, 0⟩) (w := default) (ow := fun _ => False) hz)
  refine ⟨zs[k]'(by omega), List.getElem?_eq_getElem _, fun w ow => ?_⟩
  obtain ⟨v, h5, h6⟩ := RVs_at (RVs_zBs (g := fun _ => ⟨0, 0, false, 0, 0⟩) (w := w) (ow := ow) hz) k _ (List.getElem?_eq_getElem hk)
  rw [List.getElem?_eq_getElem (show k < zs.length by omega)] at h5
  cases h5
  exact RC_toC h4 h6
theorem makeSlice_ok (hH : ∀ α x, H α x = x) {t e : TypeId} {T E : TS} (hc : chkB P t T = true) (hE : chkB P T.el E = true) (ha : E.arr = none) (hu : P.underlying t = some (.slice e)) (h : Rel w0 S0 N g s tmps w) {m n : Int} {k1 k2 : IntKind} {z : List C} (hz : toCs E.z = some z) {K : V → S → Prop}
    (hk : ob (H Bool (decide (0 ≤ m ∧ m = n ∧ n * T.eb ≤ 140737488355328))) (fresh s (.ar m (drs z) T.el) fun j s => K (.sl j 0 m T.esz false) s)) : Made P w0 S0 N tmps w (Instr.makeSlice t (.int k1 m) (.int k2 n)) K := by
  obtain ⟨hel, i, hi, hisz, hby, hpos, hbp, -⟩ := chk_slice hc hu
  obtain ⟨i', zv, hi', hz0, hzz, hzl, hzs⟩ := chk_zero hE ha
  rw [hel, hi] at hi'; cases hi'
  simp only [ob, hH, decide_eq_true_eq] at hk
  obtain ⟨⟨h0, rfl, hb⟩, hf⟩ := hk
  obtain ⟨q, rfl⟩ := nat_of h0
  have hEsz : E.sz = T.esz := by
    obtain ⟨d, i'', h1, h2, h3, h4⟩ := chk_base hE
    rw [hel, hi] at h2; cases h2; omega
  have hzlen : z.length = T.esz := by have := (toCs_at hz).1; omega
  have hqb : q * T.eb ≤ 140737488355328 := by
    have : ((q * T.eb : Nat) : Int) ≤ 140737488355328 := by rw [Int.natCast_mul]; exact hb
    omega
  have hq : q ≤ 140737488355328 := Nat.le_trans (Nat.le_mul_of_pos_right _ hbp) hqb
  have hrun := run_make (P := P) w t e i zv hu hi hz0 k1 k2 q q (by omega) (Int.le_refl _) (by rw [hby]; rw [Int.mul_comm]; omega) (by omega)
  simp only [Int.toNat_natCast] at hrun
  obtain ⟨j, s', g', h1, h2, h3⟩ := new_ar (c := madeCells zv.cells (q * i.size)) (sz := T.esz) (cp := q * T.esz) h (by rw [hel] at hf; exact hf) (.inr ⟨by simp [hzlen], hpos⟩) (by rw [size_madeCells, hisz]) (by rw [size_madeCells, hisz]; exact Nat.le_refl _) (fun ow' _ j hj => by
    rw [RCs_iff]
    intro k c hkc
    rw [drs_at, Option.map_eq_some_iff] at hkc
    obtain ⟨c, hkc, rfl⟩ := hkc
    have hkl : k < T.esz := by have := (List.getElem?_eq_some_iff.1 hkc).1; omega
    obtain ⟨v, hv, hr⟩ := zero_cells hzz hz k c hkc
    refine ⟨v, ?_, RC_dr _ _ _ _ (hr _ _)⟩
    rw [blk_cell (heap_alloc_new w _)]
    have hlt : j * T.esz + k < q * i.size := by have := Nat.mul_le_mul_right T.esz (show j + 1 ≤ q by omega); rw [Nat.add_mul, Nat.one_mul] at this; rw [hisz]; omega
    have hmod : (j * T.esz + k) % zv.cells.size = k := by rw [hzs, hEsz, Nat.mul_comm, Nat.mul_add_mod]; exact Nat.mod_eq_of_lt hkl
    have hks : k < zv.cells.size := by omega
    simp only [madeCells, Array.getElem?_map, Array.getElem?_range, hlt, if_true, Option.map_some, hmod]
    rw [getElem!_pos zv.cells k hks]
    rw [← hv]
    simp [hks])
  refine ⟨_, _, s', g', _, h1, h2, ?_, hrun⟩
  refine ⟨_, q, q, rfl, rfl, .inr ?_⟩
  rw [h3]
  exact ⟨rfl, 0, rfl, by simp, Nat.le_refl _, by simp, rfl, by simp⟩
/-- cells that represent columns, in a list -/
theorem RL_set {cs ds es : List C} {n sz i : Nat} {L vs : List Value} (hL : RL w ow cs n sz L) (hi : i < n) (hes : mixs (fun ix => decide (hd ix = (i : Int))) (drs ds) cs = some es) (hvl : vs.length = sz) (hd' : ∀ (k : Nat) (d : C), ds[k]? = some d → ∃ v, vs[k]? = some v ∧ RC w ow d [] v) :
    RL w ow es n sz (L.take (i * sz) ++ vs ++ L.drop (i * sz + vs.length)) := by
  have hle := Nat.mul_le_mul_right sz (show i + 1 ≤ n by omega)
  rw [Nat.add_mul, Nat.one_mul] at hle
  have hlen := mixs_length hes
  have ht : (L.take (i * sz)).length = i * sz := by rw [List.length_take, hL.1]; omega
  refine ⟨?_, ?_, fun q hq k c hk => ?_⟩
  · rw [List.length_append, List.length_append, ht, List.length_drop, hL.1, hvl]; omega
  · rcases hL.2.1 with h | h
    · exact .inl h
    · right; omega
  · have hkl : k < sz := by have := (List.getElem?_eq_some_iff.1 hk).1; rw [hlen.2] at this; rw [hL.2.1.resolve_left (by omega)] at this; exact this
    obtain ⟨a, b, h1, h2, h3⟩ := mixs_at hes k c hk
    have hh : Head (fun ix => decide (hd ix = (i : Int))) := fun _ _ _ => rfl
    by_cases hqi : q = i
    · subst hqi
      rw [drs_at, Option.map_eq_some_iff] at h1
      obtain ⟨d, h1, rfl⟩ := h1
      obtain ⟨v, h4, h5⟩ := hd' k d h1
      refine ⟨v, ?_, RC_mix hh _ _ _ h3 q [] v (fun _ => RC_dr _ _ _ _ h5) (fun hf => by simp [hd] at hf)⟩
      rw [List.getElem?_append_left (by rw [List.length_append, ht, hvl]; omega), List.getElem?_append_right (by rw [ht]; omega)]
      rw [show q * sz + k - (L.take (q * sz)).length = k by rw [ht]; omega]
      exact h4
    · obtain ⟨v, h4, h5⟩ := hL.2.2 q hq k b h2
      refine ⟨v, ?_, RC_mix hh _ _ _ h3 q [] v (fun ht => absurd (by have := of_decide_eq_true ht; exact Int.ofNat.inj this) hqi) (fun _ => h5)⟩
      rcases Nat.lt_or_gt_of_ne hqi with hlt | hgt
      · have := Nat.mul_le_mul_right sz (show q + 1 ≤ i by omega); rw [Nat.add_mul, Nat.one_mul] at this
        rw [List.append_assoc, List.getElem?_append_left (by rw [ht]; omega), List.getElem?_take, if_pos (by omega)]
        exact h4
      · have := Nat.mul_le_mul_right sz (show i + 1 ≤ q by omega); rw [Nat.add_mul, Nat.one_mul] at this
        rw [List.getElem?_append_right (by rw [List.length_append, ht, hvl]; omega), List.getElem?_drop]
        rw [show i * sz + vs.length + (q * sz + k - (L.take (i * sz) ++ vs).length) = q * sz + k by rw [List.length_append, ht, hvl]; omega]
        exact h4
theorem row_ok {n sz : Nat} (hs : 0 < sz) : ∀ {ps : List (Nat × V)} {us : List (Nat × Value)} {z cs : List C} {zs : Array Value}, RPs g w ow ps us → row z ps = some cs → RL w ow z n sz zs.toList → (∀ p ∈ ps, p.1 < n ∧ (cells p.2).length = sz) → ∃ r, Instr.fill (fun i => some (i * sz, sz)) zs us = some r ∧ RL w ow cs n sz r.toList ∧ r.size = zs.size
  | [], [], z, cs, zs, _, h, hz, _ => by simp [row] at h; subst h; exact ⟨zs, by simp [Instr.fill], hz, rfl⟩
  | (i, x) :: ps, (j, v) :: us, z, cs, zs, hps, h, hz, hn => by
    obtain ⟨rfl, hx, hps⟩ := hps
    simp only [row] at h
    split at h
    · rename_i ds h1 h2
      split at h
      · rename_i z' ho
        obtain ⟨hin, hcl⟩ := hn (i, x) (by simp)
        have hc := cells_ok h1 hx
        have hvl : v.cells.toList.length = sz := by rw [← RVs_len hc]; exact hcl
        have hsz : v.cells.size = sz := by simpa using hvl
        have hzl := hz.1
        have hle := Nat.mul_le_mul_right sz (show i + 1 ≤ n by omega)
        rw [Nat.add_mul, Nat.one_mul] at hle
        have hfit : i * sz + v.cells.size ≤ zs.size := by simp at hzl; omega
        have hfold : (v.cells.zipIdx.foldl (fun cs x => cs.setIfInBounds (i * sz + x.2) x.1) zs).toList = zs.toList.take (i * sz) ++ v.cells.toList ++ zs.toList.drop (i * sz + v.cells.toList.length) := by
          have := fold_set v.cells.toList zs (i * sz) 0 (by simpa using hfit)
          rw [← Array.foldl_toList, Array.toList_zipIdx]
          simpa using this
        have hset := RL_set hz hin ho hvl (fun k d hd => by
          obtain ⟨d1, d2⟩ := toCs_at h2
          have hk : k < (cells x).length := by have := (List.getElem?_eq_some_iff.1 hd).1; omega
          obtain ⟨c', b1, b2⟩ := d2 k _ (List.getElem?_eq_getElem hk)
          rw [hd] at b1; cases b1
          obtain ⟨v2, b3, b4⟩ := RVs_at hc k _ (List.getElem?_eq_getElem hk)
          exact ⟨v2, b3, RC_toC b2 b4⟩)
        rw [← hfold] at hset
        obtain ⟨r, e1, e2, e3⟩ := row_ok hs hps h hset (fun p hp => hn p (by simp [hp]))
        refine ⟨r, ?_, e2, ?_⟩
        · simp only [Instr.fill]
          rw [if_neg (by simp only [Bool.not_eq_true, Bool.or_eq_false_iff, decide_eq_false_iff_not]; exact ⟨by simpa using hsz, by omega⟩)]
          exact e1
        · rw [e3]
          have := congrArg List.length hfold
          rw [Array.length_toList] at this
          rw [this]
          simp; omega
      · cases h
    · cases h
  | [], _ :: _, _, _, _, h, _, _, _ => h.elim
  | _ :: _, [], _, _, _, h, _, _, _ => h.elim
/-- a row that is made and stays -/
theorem row_made {n sz : Nat} {cs : List C} {r : Array Value} {e : TypeId} {full : Bool} (h : Rel w0 S0 N g s tmps w) (hs : 0 < sz) (hr : RL w (own S0 s.σ g) cs n sz r.toList) :
    Rel w0 S0 N g s tmps (w.alloc (.cells r e)) ∧ RV g (w.alloc (.cells r e)) (own S0 s.σ g) (.l (n : Int) cs full) (.slice (some ⟨w.heap.size, 0, none⟩) n n) := by
  have hlt : ∀ b, own S0 s.σ g b → b < w.heap.size := by
    rintro b (hx | ⟨i, h1, h2, h3⟩)
    · exact Nat.lt_of_lt_of_le (h.dj b hx).2 h.kp.size
    obtain ⟨o, ho⟩ := Option.isSome_iff_exists.1 h1
    have := h.ob.objs i o ho
    cases o with
    | st xs e => obtain ⟨_, vs, hb, _⟩ := this; exact h3 ▸ blk_size hb
    | rw l rf st pe xs vs => obtain ⟨_, _, hb, _⟩ := this; exact h3 ▸ blk_size hb
    | ms S => obtain ⟨_, es, ck, hb, _⟩ := this; exact h3 ▸ blk_size hb
    | ar n cs e =>
      obtain ⟨_, _, h3'⟩ := this
      rcases h3' with ⟨h3', _⟩ | ⟨_, ⟨c, hb, _⟩, _⟩
      · rw [h2] at h3'; cases h3'
      · exact h3 ▸ blk_size hb
  have hkb : ∀ b, ¬ own S0 s.σ g b → b < w.heap.size → (w.alloc (.cells r e)).heap[b]? = w.heap[b]? := fun b _ hb => Below.heap_alloc w _ b hb
  refine ⟨h.step ((kp_alloc w _).mono (fun _ h _ => h.elim)) ⟨fun i o hi => ?_, h.ob.inj⟩ (fun b hb => .inl hb) (Nat.le_refl _) (fun i hi hs => ⟨hs, rfl⟩) (fun t x hx => ⟨hx, fun _ _ => rfl⟩), ?_⟩
  · have := h.ob.objs i o hi
    cases o with
    | st xs e => obtain ⟨h1, vs, hb, hr⟩ := this; exact ⟨h1, vs, (Below.heap_alloc w _ _ (blk_size hb)).trans hb, RVs_keep hkb (by simp) (fun _ _ h => h) _ _ (fun _ _ => rfl) hr⟩
    | rw l rf st pe xs vs => obtain ⟨h1, h0, hb, hr⟩ := this; exact ⟨h1, h0, (Below.heap_alloc w _ _ (blk_size hb)).trans hb, RVs_keep hkb (by simp) (fun _ _ h => h) _ _ (fun _ _ => rfl) hr⟩
    | ms S => obtain ⟨h1, es, ck, hb, hr⟩ := this; exact ⟨h1, es, ck, (Below.heap_alloc w _ _ (blk_size hb)).trans hb, hr⟩
    | ar n' cs' e' =>
      obtain ⟨h1, h2, h3⟩ := this
      refine ⟨h1, h2, h3.imp id fun ⟨a, ⟨c, hb, hc⟩, d⟩ => ?_⟩
      have hblk := (Below.heap_alloc w (.cells r e) _ (blk_size hb)).trans hb
      refine ⟨a, ⟨c, hblk, hc⟩, fun q hq => RCs_keep' hkb (by simp) (fun _ _ h => h) _ _ _ _ (fun p v _ _ hv => ?_) (d q hq)⟩
      rw [blk_cell hblk]; rw [blk_cell hb] at hv; exact hv
  · refine ⟨_, n, n, rfl, rfl, ⟨Nat.le_refl _, fun _ => rfl⟩, ?_⟩
    by_cases h0 : n = 0
    · exact .inl h0
    · have hcs : cs.length = sz := hr.2.1.resolve_left h0
      refine .inr ⟨by omega, w.heap.size, 0, rfl, fun hb => absurd (hlt _ hb) (by omega), by simp, fun j hj => ?_⟩
      rw [Nat.zero_add, hcs]
      exact RCs_of_RL hr hkb (by simp) (fun _ _ h => h) (fun k v hk => by rw [blk_cell (heap_alloc_new w _)]; simpa using hk) j hj
/-- a slice of one element -/
theorem slice1_ok {t e : TypeId} {T : TS} (hc : chkB P t T = true) (hu : P.underlying t = some (.slice e)) (h : Rel w0 S0 N g s tmps w) {x : V} {v : Value} (hx : RV g w (own S0 s.σ g) x v) (hl : leaves (cells x) = true) (hn : (cells x).length = T.esz) (hsm : T.esz ≤ 16777216) {ds : List C} (hd : toCs (cells x) = some ds) {K : V → S → Prop}
    (hk : K (.l 1 (drs ds) true) s) : Made P w0 S0 N tmps w (Instr.buildSlice t 1 #[(0, v)]) K := by
  obtain ⟨hel, i, hi, hisz, hby, hpos, hbp, z, hz, hzs⟩ := chk_slice hc hu
  have hcl := cells_ok hl hx
  have hvl : v.cells.size = T.esz := by have := RVs_len hcl; simp at this; omega
  obtain ⟨zs, hzs'⟩ : ∃ zs, zs = (Array.range (1 * i.size)).map (z.cells[· % z.cells.size]!) := ⟨_, rfl⟩
  have hzl : zs.size = T.esz := by rw [hzs']; simp [hisz]
  have hfold : (v.cells.zipIdx.foldl (fun cs x => cs.setIfInBounds (0 * i.size + x.2) x.1) zs).toList = v.cells.toList := by
    have := fold_set v.cells.toList zs 0 0 (by simp; omega)
    rw [← Array.foldl_toList, Array.toList_zipIdx]
    simp only [Nat.zero_mul]
    rw [this]
    simp only [Nat.add_zero, List.take_zero, List.nil_append, Nat.zero_add]
    rw [List.drop_eq_nil_of_le (by simp; omega), List.append_nil]
  have hfill : Instr.fill (fun q => some (q * i.size, i.size)) zs [(0, v)] = some (v.cells.zipIdx.foldl (fun cs x => cs.setIfInBounds (0 * i.size + x.2) x.1) zs) := by
    simp only [Instr.fill]
    rw [if_neg (by simp only [Bool.not_eq_true, Bool.or_eq_false_iff, decide_eq_false_iff_not]; exact ⟨by rw [hisz]; simpa using hvl, by omega⟩)]
  have hr : RL w (own S0 s.σ g) (drs ds) 1 T.esz (v.cells.zipIdx.foldl (fun cs x => cs.setIfInBounds (0 * i.size + x.2) x.1) zs).toList := by
    rw [hfold]
    obtain ⟨d1, d2⟩ := toCs_at hd
    refine ⟨by simp [hvl], .inr (by simp [d1, hn]), fun q hq k c hkc => ?_⟩
    obtain rfl : q = 0 := by omega
    rw [drs_at, Option.map_eq_some_iff] at hkc
    obtain ⟨d, hkc, rfl⟩ := hkc
    have hkl : k < (cells x).length := by have := (List.getElem?_eq_some_iff.1 hkc).1; omega
    obtain ⟨c', b1, b2⟩ := d2 k _ (List.getElem?_eq_getElem hkl)
    rw [hkc] at b1; cases b1
    obtain ⟨v2, b3, b4⟩ := RVs_at hcl k _ (List.getElem?_eq_getElem hkl)
    exact ⟨v2, by simpa using b3, RC_dr _ _ _ _ (RC_toC b2 b4)⟩
  obtain ⟨h1, h2⟩ := row_made (e := e) (full := true) h hpos hr
  exact ⟨_, _, s, g, _, hk, h1, by simpa using h2, run_buildSlice w t e 1 #[(0, v)] _ i z hu hi hz (by omega) (by omega) (by rw [← hzs']; exact hfill)⟩
/-- a slice literal -/
theorem sliceN_ok {t e : TypeId} {T E : TS} (hc : chkB P t T = true) (hE : chkB P T.el E = true) (ha : E.arr = none) (hu : P.underlying t = some (.slice e)) (h : Rel w0 S0 N g s tmps w) {n : Nat} {ps : List (Nat × V)} {us : Array (Nat × Value)} (hps : RPs g w (own S0 s.σ g) ps us.toList) (hsm : n * T.esz ≤ 16777216) (hn0 : 0 < n)
    (hin : ∀ p ∈ ps, p.1 < n ∧ (cells p.2).length = T.esz) {z cs : List C} (hz : toCs E.z = some z) (hr : row (drs z) ps = some cs) {K : V → S → Prop} (hk : K (.l (n : Int) cs true) s) : Made P w0 S0 N tmps w (Instr.buildSlice t n us) K := by
  obtain ⟨hel, i, hi, hisz, hby, hpos, hbp, -⟩ := chk_slice hc hu
  obtain ⟨i', zv, hi', hz0, hzz, hzl, hzs⟩ := chk_zero hE ha
  rw [hel, hi] at hi'; cases hi'
  have hEsz : E.sz = T.esz := by
    obtain ⟨d, i'', h1, h2, h3, h4⟩ := chk_base hE
    rw [hel, hi] at h2; cases h2; omega
  have hzlen : z.length = T.esz := by have := (toCs_at hz).1; omega
  have hRL : RL w (own S0 s.σ g) (drs z) n T.esz (((Array.range (n * i.size)).map (zv.cells[· % zv.cells.size]!))).toList := by
    refine ⟨by simp [hisz], .inr (by simp [hzlen]), fun q hq k c hkc => ?_⟩
    rw [drs_at, Option.map_eq_some_iff] at hkc
    obtain ⟨c, hkc, rfl⟩ := hkc
    have hkl : k < T.esz := by have := (List.getElem?_eq_some_iff.1 hkc).1; omega
    obtain ⟨v, hv, hr⟩ := zero_cells hzz hz k c hkc
    refine ⟨v, ?_, RC_dr _ _ _ _ (hr _ _)⟩
    have hlt : q * T.esz + k < n * i.size := by have := Nat.mul_le_mul_right T.esz (show q + 1 ≤ n by omega); rw [Nat.add_mul, Nat.one_mul] at this; rw [hisz]; omega
    have hmod : (q * T.esz + k) % zv.cells.size = k := by rw [hzs, hEsz, Nat.mul_comm, Nat.mul_add_mod]; exact Nat.mod_eq_of_lt hkl
    have hks : k < zv.cells.size := by omega
    rw [Array.getElem?_toList, Array.getElem?_map, Array.getElem?_range, if_pos hlt, Option.map_some, hmod, getElem!_pos zv.cells k hks]
    rw [← hv]
    simp [hks]
  obtain ⟨r, e1, e2, e3⟩ := row_ok hpos hps hr hRL hin
  obtain ⟨h1, h2⟩ := row_made (e := e) (full := true) h hpos e2
  have hnz : n * T.esz ≠ 0 := Nat.ne_of_gt (Nat.mul_pos hn0 hpos)
  exact ⟨_, _, s, g, _, hk, h1, h2, run_buildSlice w t e n us r i zv hu hi hz0 (by rw [hisz]; omega) (by rw [hisz]; exact hnz) (by rw [← hisz] at e1; exact e1)⟩
end
end Go.Proofs.Ytilmhjojbolbeaa.AM

