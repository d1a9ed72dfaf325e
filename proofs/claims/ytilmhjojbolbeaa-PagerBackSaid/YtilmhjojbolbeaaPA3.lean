/-
  The abstract machine: an evaluator of the program's functions, sound over the model. No condition beside those that each theorem states.
-/
import Derived.Test.YtilmhjojbolbeaaPA2
import Derived.Lib.ConvBytes
import Derived.Laws.BytesString
import Derived.Laws.Cells
set_option linter.all false

namespace Go.Proofs.Ytilmhjojbolbeaa.AM
open Go

section
variable {P : Program} {g g' g1 : G} {w w' w0 : World} {ow ow' : Nat → Prop} {S0 : Fr} {N : Nat} {s : S} {tmps : Array Value}
-- other names
mutual
theorem RV_ren {r : Nat → Nat} : ∀ (x : V) (v : Value), (∀ o, o ∈ refs x → g1 (r o) = g o) → RV g w ow x v → RV g1 w ow (renV r x) v
  | .i _ _, _, _, h => h
  | .b _, _, _, h => h
  | .s _, _, _, h => h
  | .v _, _, _, h => h
  | .l _ _ _, _, _, h => h
  | .p _, _, _, h => h
  | .sl o lo n sz full, v, hg, h => by
    show RSl (g1 (r o)) lo n sz full v
    rw [hg o (by simp [refs])]; exact h
  | .pt o off, v, hg, h => by
    have hg := hg o (by simp [refs])
    simp only [renV, RV, hg]; exact h
  | .pe o j sz c, v, hg, h => by
    have hg := hg o (by simp [refs])
    simp only [renV, RV, hg]; exact h
  | .av _ _ _, _, _, h => h
  | .mp o, v, hg, h => by
    have hg := hg o (by simp [refs])
    simp only [renV, RV, hg]; exact h
  | .ag xs, v, hg, h => by
    obtain ⟨vs, e, h⟩ := h
    exact ⟨vs, e, RVs_ren xs _ (by simpa [refs] using hg) h⟩
  | .tu xs, v, hg, h => by
    obtain ⟨vs, e, h⟩ := h
    exact ⟨vs, e, RVs_ren xs _ (by simpa [refs] using hg) h⟩
  | .fn f xs, v, hg, h => by
    obtain ⟨vs, e, h⟩ := h
    exact ⟨vs, e, RVs_ren xs _ (by simpa [refs] using hg) h⟩
  | .fb f xs, v, hg, h => by
    obtain ⟨vs, e, h⟩ := h
    exact ⟨vs, e, RVs_ren xs _ (by simpa [refs] using hg) h⟩
theorem RVs_ren {r : Nat → Nat} : ∀ (xs : List V) (vs : List Value), (∀ o, o ∈ refsL xs → g1 (r o) = g o) → RVs g w ow xs vs → RVs g1 w ow (renL r xs) vs
  | [], [], _, h => h
  | x :: xs, v :: vs, hg, h => ⟨RV_ren x v (fun o ho => hg o (by simp [refsL, ho])) h.1, RVs_ren xs vs (fun o ho => hg o (by simp [refsL, ho])) h.2⟩
  | [], _ :: _, _, h => h.elim
  | _ :: _, [], _, h => h.elim
end
theorem RO_ren {r : Nat → Nat} {k : GI} {o : O} (hg : ∀ q, q ∈ refsO o → g1 (r q) = g q) (h : RO k (RVs g w ow) w ow o) : RO k (RVs g1 w ow) w ow (renO r o) := by
  cases o with
  | st xs e => obtain ⟨h1, vs, hb, hr⟩ := h; exact ⟨h1, vs, hb, RVs_ren xs _ hg hr⟩
  | rw l rf st pe xs vs => obtain ⟨h1, h0, hb, hr⟩ := h; exact ⟨h1, h0, hb, RVs_ren xs _ hg hr⟩
  | ms S => exact h
  | ar n cs e => exact h
-- without memory that stays
mutual
theorem RV_flat : ∀ (x : V) (v : Value), immV x = false → RV g w ow x v → RV g w ow' x v
  | .i _ _, _, _, h => h
  | .b _, _, _, h => h
  | .s _, _, _, h => h
  | .v _, _, _, h => h
  | .l _ _ _, _, hi, _ => by simp [immV] at hi
  | .p _, _, hi, _ => by simp [immV] at hi
  | .sl _ _ _ _ _, _, _, h => h
  | .pt _ _, _, _, h => h
  | .pe _ _ _ _, _, _, h => h
  | .mp _, _, _, h => h
  | .av _ _ _, _, _, h => h
  | .ag xs, v, hi, h => by
    obtain ⟨vs, e, h⟩ := h
    exact ⟨vs, e, RVs_flat xs _ hi h⟩
  | .tu xs, v, hi, h => by
    obtain ⟨vs, e, h⟩ := h
    exact ⟨vs, e, RVs_flat xs _ hi h⟩
  | .fn f xs, v, hi, h => by
    obtain ⟨vs, e, h⟩ := h
    exact ⟨vs, e, RVs_flat xs _ hi h⟩
  | .fb f xs, v, hi, h => by
    obtain ⟨vs, e, h⟩ := h
    exact ⟨vs, e, RVs_flat xs _ hi h⟩
theorem RVs_flat : ∀ (xs : List V) (vs : List Value), immL xs = false → RVs g w ow xs vs → RVs g w ow' xs vs
  | [], [], _, h => h
  | x :: xs, v :: vs, hi, h => by
    simp only [immL] at hi
    split at hi
    · cases hi
    · rename_i hx; exact ⟨RV_flat x v hx h.1, RVs_flat xs vs hi h.2⟩
  | [], _ :: _, _, h => h.elim
  | _ :: _, [], _, h => h.elim
end
theorem RCs_flat : ∀ (cs : List C) (ix : Ix) (b o : Nat), flatCs cs = true → RCs w ow cs ix b o → RCs w ow' cs ix b o
  | [], _, _, _, _, h => h
  | c :: cs, ix, b, o, hf, h => by
    simp only [flatCs] at hf
    split at hf
    · rename_i hc
      refine ⟨h.1.imp fun v hv => ⟨hv.1, ?_⟩, RCs_flat cs ix b (o + 1) hf h.2⟩
      cases c <;> first | exact hv.2 | simp [flatC] at hc
    · cases hf
theorem immS_at {σ : Sto} (h : immS σ = false) : ∀ {i : Nat} {o : O}, look i σ = some o → (match o with | .st xs _ => immL xs = false | .ar _ cs _ => flatCs cs = true | .rw _ _ _ _ xs _ => immL xs = false | .ms _ => True) := by
  induction σ with
  | nil => intro i o hi; simp [look] at hi
  | cons p σ ih =>
    obtain ⟨j, x⟩ := p
    intro i o hi
    rw [look_cons] at hi
    cases x with
    | st xs e =>
      simp only [immS] at h
      split at h
      · cases h
      · rename_i hx
        split at hi
        · cases hi; exact hx
        · exact ih h hi
    | rw l rf st pe xs vs =>
      simp only [immS] at h
      split at h
      · cases h
      · rename_i hx
        split at hi
        · cases hi; exact hx
        · exact ih h hi
    | ms S =>
      simp only [immS] at h
      split at hi
      · cases hi; trivial
      · exact ih h hi
    | ar n cs e =>
      simp only [immS] at h
      split at h
      · rename_i hx
        split at hi
        · cases hi; exact hx
        · exact ih h hi
      · cases h
theorem RO_flat {k : GI} {o : O} (hf : match o with | .st xs _ => immL xs = false | .ar _ cs _ => flatCs cs = true | .rw _ _ _ _ xs _ => immL xs = false | .ms _ => True) (h : RO k (RVs g w ow) w ow o) : RO k (RVs g w ow') w ow' o := by
  cases o with
  | st xs e => obtain ⟨h1, vs, hb, hr⟩ := h; exact ⟨h1, vs, hb, RVs_flat xs _ hf hr⟩
  | rw l rf st pe xs vs => obtain ⟨h1, h0, hb, hr⟩ := h; exact ⟨h1, h0, hb, RVs_flat xs _ hf hr⟩
  | ms S => exact h
  | ar n cs e => obtain ⟨h1, h2, h3⟩ := h; exact ⟨h1, h2, h3.imp id fun ⟨a, b, c⟩ => ⟨a, b, fun q hq => RCs_flat _ _ _ _ hf (c q hq)⟩⟩
-- positions
theorem posOf_in : ∀ {l : List Nat} {i : Nat}, i ∈ l → posOf l i < l.length ∧ l[posOf l i]? = some i
  | [], _, h => by cases h
  | j :: l, i, h => by
    simp only [posOf]
    split
    · rename_i e; rw [beq_iff.1 e]; simp
    · rename_i e
      have := posOf_in (l := l) (i := i) ((List.mem_cons.1 h).resolve_left (fun h => beq_no e h.symm))
      exact ⟨by simpa using this.1, by simpa using this.2⟩
theorem posOf_out : ∀ {l : List Nat} {i : Nat}, i ∉ l → posOf l i = i + l.length
  | [], _, h => by simp [posOf]
  | j :: l, i, h => by
    simp only [List.mem_cons, not_or] at h
    simp only [posOf]
    split
    · rename_i e; exact absurd (beq_iff.1 e).symm h.1
    · rw [posOf_out h.2]; simp; omega
theorem backOf_lt {l : List Nat} {nx q i : Nat} (h : l[q]? = some i) : backOf l nx q = i := by simp [backOf, nth_eq, h]
theorem backOf_ge {l : List Nat} {nx q : Nat} (h : l.length ≤ q) : backOf l nx q = q + nx := by simp [backOf, nth_eq, h]
theorem nodup_at : ∀ {l : List Nat}, nodup l = true → ∀ {p q i : Nat}, l[p]? = some i → l[q]? = some i → p = q
  | [], _, p, q, i, h, _ => by simp at h
  | j :: l, hn, p, q, i, hp, hq => by
    obtain ⟨h1, h2⟩ := nodup_cons hn
    cases p with
    | zero =>
      simp at hp; subst hp
      cases q with
      | zero => rfl
      | succ q => exact absurd (List.mem_of_getElem? (by simpa using hq)) h1
    | succ p =>
      cases q with
      | zero => simp at hq; subst hq; exact absurd (List.mem_of_getElem? (by simpa using hp)) h1
      | succ q => simp at hp hq; rw [nodup_at h2 hp hq]
theorem dom_iff (i : Nat) (σ : Sto) : i ∈ dom σ ↔ (look i σ).isSome = true := by
  induction σ with
  | nil => simp [dom, look]
  | cons p σ ih =>
    obtain ⟨j, o⟩ := p
    rw [look_cons]
    simp only [dom, List.mem_cons]
    by_cases e : j = i
    · simp [e]
    · simp [e, Ne.symm e, ih]
theorem diff_iff (i : Nat) (l m : List Nat) : i ∈ diff l m ↔ i ∈ l ∧ i ∉ m := by
  induction l with
  | nil => simp [diff]
  | cons j l ih =>
    simp only [diff]
    split
    · rename_i h
      rw [mem_iff] at h
      rw [ih]; simp only [List.mem_cons]
      constructor
      · rintro ⟨a, b⟩; exact ⟨.inr a, b⟩
      · rintro ⟨a | a, b⟩
        · subst a; exact absurd h b
        · exact ⟨a, b⟩
    · rename_i h
      have h := mem_no h
      simp only [List.mem_cons, ih]
      constructor
      · rintro (a | ⟨a, b⟩)
        · subst a; exact ⟨.inl rfl, h⟩
        · exact ⟨.inr a, b⟩
      · rintro ⟨a | a, b⟩
        · exact .inl a
        · exact .inr ⟨a, b⟩
theorem nilL_iff {l : List Nat} (h : nilL l = true) : l = [] := by cases l <;> simp [nilL] at h ⊢
theorem subl_iff {l m : List Nat} (h : subl l m = true) : ∀ i, i ∈ l → i ∈ m := by
  unfold subl at h
  split at h
  · rename_i e
    intro i hi
    by_cases hm : i ∈ m
    · exact hm
    · have := (diff_iff i l m).2 ⟨hi, hm⟩
      rw [e] at this; cases this
  · cases h
theorem news_iff {k nx : Nat} {old : List Nat} : ∀ {l : List Nat}, news k nx old l = true → ∀ q, q ∈ l → k ≤ q → q + nx ∉ old
  | [], _, q, h, _ => by cases h
  | p :: l, hn, q, h, hk => by
    simp only [news] at hn
    split at hn
    · rename_i hp
      rcases List.mem_cons.1 h with rfl | h
      · simp at hp; omega
      · exact news_iff hn q h hk
    · split at hn
      · cases hn
      · rename_i hm
        rcases List.mem_cons.1 h with rfl | h
        · exact mem_no hm
        · exact news_iff hn q h hk
theorem look_app (i : Nat) (σ τ : Sto) : look i (σ ++ τ) = (look i σ).or (look i τ) := by
  induction σ with
  | nil => simp [look]
  | cons p σ ih =>
    obtain ⟨j, o⟩ := p
    simp only [List.cons_append, look_cons, ih]
    split <;> simp
theorem look_renS {r : Nat → Nat} {q : Nat} : ∀ {σ : Sto}, (∀ p, p ∈ dom σ → r p = r q → p = q) → look (r q) (renS r σ) = (look q σ).map (renO r)
  | [], _ => by simp [renS, look]
  | (j, o) :: σ, h => by
    simp only [renS, look_cons]
    by_cases e : j = q
    · subst e; simp
    · rw [if_neg e, if_neg (fun e' => e (h j (by simp [dom]) e'))]
      exact look_renS (fun p hp => h p (by simp [dom, hp]))
theorem renS_some {r : Nat → Nat} {k : Nat} : ∀ {σ : Sto}, (look k (renS r σ)).isSome = true → ∃ q, q ∈ dom σ ∧ r q = k
  | [], h => by simp [renS, look] at h
  | (j, o) :: σ, h => by
    simp only [renS, look_cons] at h
    by_cases e : r j = k
    · exact ⟨j, by simp [dom], e⟩
    · rw [if_neg e] at h
      obtain ⟨q, h1, h2⟩ := renS_some h
      exact ⟨q, by simp [dom, h1], h2⟩
theorem handed_look {σ F : Sto} {l : List Nat} (hn : ∀ {p q i : Nat}, l[p]? = some i → l[q]? = some i → p = q) : ∀ {m : List Nat}, (∀ i, i ∈ m → i ∈ l) → ∀ {q : Nat}, look q (handed σ F l m) = match l[q]? with
    | some i => if i ∈ m then (look i σ).map fun o => renO (posOf l) (borO F o) else none
    | none => none
  | [], _, q => by simp [handed, look]; split <;> rfl
  | i :: m, hm, q => by
    have ih := handed_look (σ := σ) (F := F) hn (m := m) (fun j hj => hm j (by simp [hj])) (q := q)
    have hi := posOf_in (hm i (by simp))
    simp only [handed]
    split
    · rename_i o ho
      rw [look_cons]
      by_cases e : posOf l i = q
      · subst e; rw [hi.2]; simp [ho]
      · rw [if_neg e, ih]
        split
        · rename_i j hj
          by_cases e' : j = i
          · subst e'; exact absurd (hn hi.2 hj) e
          · simp [e']
        · rfl
    · rename_i ho
      rw [ih]
      split
      · rename_i j hj
        by_cases e' : j = i
        · subst e'; simp [ho]
        · simp [e']
      · rfl
end
end Go.Proofs.Ytilmhjojbolbeaa.AM

namespace Go.Proofs.Ytilmhjojbolbeaa.AM
open Go

section
variable {P : Program} {g g' g1 : G} {w w' w0 : World} {ow ow' : Nat → Prop} {S0 : Fr} {N : Nat} {s : S} {tmps : Array Value}
theorem Ob.lt {σ : Sto} (h : Ob S0 g w σ) {i : Nat} (hi : (look i σ).isSome = true) (hv : (g i).vi = false) : (g i).bl < w.heap.size := by
  obtain ⟨o, ho⟩ := Option.isSome_iff_exists.1 hi
  have := h.objs i o ho
  cases o with
  | st xs e => obtain ⟨_, vs, hb, _⟩ := this; exact blk_size hb
  | rw l rf st pe xs vs => obtain ⟨_, _, hb, _⟩ := this; exact blk_size hb
  | ms S => obtain ⟨_, es, ck, hb, _⟩ := this; exact blk_size hb
  | ar n cs e =>
    obtain ⟨_, _, h3⟩ := this
    rcases h3 with ⟨h3, _⟩ | ⟨_, ⟨c, hb, _⟩, _⟩
    · rw [hv] at h3; cases h3
    · exact blk_size hb
/-- an object elsewhere stays -/
theorem RO_keep {k : GI} {o : O} (hk : ∀ b, ¬ ow b → b < w.heap.size → w'.heap[b]? = w.heap[b]?) (hs : w.heap.size ≤ w'.heap.size) (ho : ∀ b, b < w.heap.size → ¬ ow b → ¬ ow' b) (hb : k.vi = false → w'.heap[k.bl]? = w.heap[k.bl]?) (hg : ∀ q, q ∈ refsO o → g' q = g q) (h : RO k (RVs g w ow) w ow o) : RO k (RVs g' w' ow') w' ow' o := by
  cases o with
  | st xs e => obtain ⟨h1, vs, hb', hr⟩ := h; exact ⟨h1, vs, (hb h1).trans hb', RVs_keep hk hs ho _ _ hg hr⟩
  | rw l rf st pe xs vs => obtain ⟨h1, h0, hb', hr⟩ := h; exact ⟨h1, h0, (hb h1).trans hb', RVs_keep hk hs ho _ _ hg hr⟩
  | ms S => obtain ⟨h1, es, ck, hb', hr⟩ := h; exact ⟨h1, es, ck, (hb h1).trans hb', hr⟩
  | ar n cs e =>
    obtain ⟨h1, h2, h3⟩ := h
    refine ⟨h1, h2, h3.imp id fun ⟨a, ⟨c, hb', hc⟩, d⟩ => ?_⟩
    have hblk := (hb a).trans hb'
    refine ⟨a, ⟨c, hblk, hc⟩, fun q hq => RCs_keep' hk hs ho _ _ _ _ (fun p v _ _ hv => ?_) (d q hq)⟩
    rw [blk_cell hblk]; rw [blk_cell hb'] at hv; exact hv
theorem look_frz (l : List Nat) (s : S) (i : Nat) : (look i (frz l s).σ).isSome = true ↔ i ∉ l ∧ (look i s.σ).isSome = true := by
  simp only [frz, look_borS, look_minus]
  split
  · rename_i hi; simp [hi]
  · rename_i hi; simp [hi]
theorem vcallG_ok {CC : List Value → World → (Ending → World → Prop) → Prop} {C0 : Prop} (hM : ∀ vs w R R', (∀ e w', R e w' → R' e w') → CC vs w R → CC vs w R') {Sp : YSp} (hTri : ∀ xs σ R, Sp xs σ R → C0 ∧ TriG CC xs σ R) (h : Rel w0 S0 N g s tmps w) {xs : List V} {vs : List Value} (hx : RVs g w (own S0 s.σ g) xs vs) {K : V → S → Prop} (hk : vcall Sp s xs K) :
    C0 ∧ CC vs w fun e w' => ∃ r val s' g', e = .returned val ∧ K r s' ∧ Rel w0 S0 N g' s' tmps w' ∧ RV g' w' (own S0 s'.σ g') r val := by
  obtain ⟨ids, ⟨⟨hn, hlen⟩, hin⟩, xs', σ0, rfl, rfl, R, hT, hK⟩ := hk
  have hlen : ids.length < 100 := by simpa using hlen
  have hids : ∀ i, i ∈ ids → (look i s.σ).isSome = true := fun i hi => by
    rw [← dom_iff]
    by_cases hm : i ∈ dom s.σ
    · exact hm
    · have := (diff_iff i ids (dom s.σ)).2 ⟨hi, hm⟩
      rw [nilL_iff hin] at this; cases this
  simp only at hT hK
  have hlent : ∀ i, i ∈ diff (reach s.σ 3 (refsL xs ++ refsS (only s.σ ids))) ids → i ∉ ids := fun i hi => ((diff_iff _ _ _).1 hi).2
  generalize diff (reach s.σ 3 (refsL xs ++ refsS (only s.σ ids))) ids = lent at hT hK hlent
  have hF1 : ∀ i, (look i (only s.σ lent)).isSome = true → i ∈ lent ∧ (look i s.σ).isSome = true := fun i hi => by
    rw [look_only] at hi
    split at hi
    · rename_i h1; exact ⟨h1, hi⟩
    · cases hi
  have hF : ∀ i o, look i (only s.σ lent) = some o → RO (g i) (RVs g w (own S0 s.σ g)) w (own S0 s.σ g) o := fun i o hi => by
    rw [look_only] at hi
    split at hi
    · exact h.ob.objs i o hi
    · cases hi
  obtain ⟨X, hX⟩ : ∃ X : Nat → Prop, X = fun b => S0.X b ∨ ∃ i, i ∉ ids ∧ i ∉ lent ∧ (look i s.σ).isSome = true ∧ (g i).vi = false ∧ (g i).bl = b := ⟨_, rfl⟩
  obtain ⟨g1, hg1⟩ : ∃ g1 : G, g1 = fun q => match ids[q]? with | some i => g i | none => g (q - ids.length) := ⟨_, rfl⟩
  have hgp : ∀ o, g1 (posOf ids o) = g o := fun o => by
    rw [hg1]
    by_cases ho : o ∈ ids
    · simp only [(posOf_in ho).2]
    · simp only [posOf_out ho]
      rw [List.getElem?_eq_none (by omega)]
      simp
  have hl1 : ∀ {q}, look q (handed s.σ (only s.σ lent) ids ids) = match ids[q]? with
    | some i => if i ∈ ids then (look i s.σ).map fun o => renO (posOf ids) (borO (only s.σ lent) o) else none
    | none => none := handed_look (nodup_at hn) (fun _ h => h)
  generalize handed s.σ (only s.σ lent) ids ids = σ1 at hT hl1
  have hs1 : ∀ q, (look q σ1).isSome = true → ∃ i, ids[q]? = some i ∧ i ∈ ids ∧ g1 q = g i := fun q hq => by
    rw [hl1] at hq
    split at hq
    · rename_i i hi; exact ⟨i, hi, List.mem_of_getElem? hi, by rw [hg1]; simp only [hi]⟩
    · cases hq
  have hs1' : ∀ i, i ∈ ids → (look (posOf ids i) σ1).isSome = true := fun i hi => by
    rw [hl1, (posOf_in hi).2]; simp [hi, hids i hi]
  have hm1 : ∀ b, mine σ1 g1 b ↔ ∃ i, i ∈ ids ∧ (g i).vi = false ∧ (g i).bl = b := fun b => by
    constructor
    · rintro ⟨q, h1, h2, h3⟩
      obtain ⟨i, -, h4, h5⟩ := hs1 q h1
      rw [h5] at h2 h3
      exact ⟨i, h4, h2, h3⟩
    · rintro ⟨i, h1, h2, h3⟩
      exact ⟨_, hs1' i h1, by rw [hgp]; exact h2, by rw [hgp]; exact h3⟩
  obtain ⟨S1, hS1⟩ : ∃ S1 : Fr, S1 = ⟨mine σ1 g1, X, g1⟩ := ⟨_, rfl⟩
  have hS1X : ∀ b, S1.X b ↔ X b := fun b => by rw [hS1]
  have ho : ∀ b, ¬ own S0 s.σ g b → ¬ own S1 σ1 g1 b := by
    rintro b hb (h1 | h1)
    · rw [hS1X, hX] at h1
      rcases h1 with h1 | ⟨i, -, -, h1⟩
      · exact hb (.inl h1)
      · exact hb (.inr ⟨i, h1⟩)
    · obtain ⟨i, h1, h2⟩ := (hm1 b).1 h1
      exact hb (.inr ⟨i, hids i h1, h2⟩)
  have hd : ∀ i, (look i (only s.σ lent)).isSome = true → (g i).vi = false → ¬ own S1 σ1 g1 (g i).bl := by
    rintro i hi hv (h1 | h1)
    · obtain ⟨h2, h3⟩ := hF1 i hi
      rw [hS1X, hX] at h1
      rcases h1 with h1 | ⟨j, -, h4, h5, h6, h7⟩
      · exact h.apart ⟨i, h3, hv, rfl⟩ h1
      · exact h4 (h.ob.inj i j h3 h5 hv h6 h7.symm ▸ h2)
    · obtain ⟨h2, h3⟩ := hF1 i hi
      obtain ⟨j, h4, h5, h6⟩ := (hm1 _).1 h1
      exact hlent i h2 (h.ob.inj i j h3 (hids j h4) hv h5 h6.symm ▸ h4)
  have hargs := RVs_ren (g1 := g1) (r := posOf ids) _ _ (fun o _ => hgp o) (borL_ok hF hd ho 4 xs vs hx)
  have hob1 : Ob S1 g1 w σ1 := by
    refine ⟨fun q o hq => ?_, fun p q hp hq hvp hvq hb => ?_⟩
    · obtain ⟨i, h1, h2, h3⟩ := hs1 q (by rw [hq]; rfl)
      rw [hl1, h1] at hq
      simp only [h2, if_true, Option.map_eq_some_iff] at hq
      obtain ⟨o', h4, rfl⟩ := hq
      rw [h3]
      exact RO_ren (fun o _ => hgp o) (borO_ok hF hd ho (h.ob.objs i o' h4))
    · obtain ⟨i, h1, h2, h3⟩ := hs1 p hp
      obtain ⟨j, h4, h5, h6⟩ := hs1 q hq
      rw [h3] at hvp hb
      rw [h6] at hvq hb
      have := h.ob.inj i j (hids i h2) (hids j h5) hvp hvq hb
      subst this
      exact nodup_at hn h1 h4
  have hXd : ∀ b, X b → ¬ mine σ1 g1 b ∧ b < w.heap.size := fun b hb => by
    rw [hX] at hb
    rcases hb with hb | ⟨i, h1, -, h2, h3, h4⟩
    · refine ⟨fun hm => ?_, Nat.lt_of_lt_of_le (h.dj b hb).2 h.kp.size⟩
      obtain ⟨i, h1, h2⟩ := (hm1 b).1 hm
      exact h.apart ⟨i, hids i h1, h2⟩ hb
    · refine ⟨fun hm => ?_, h4 ▸ h.ob.lt h2 h3⟩
      obtain ⟨j, h5, h6, h7⟩ := (hm1 b).1 hm
      exact h1 (h.ob.inj i j h2 (hids j h5) h3 h6 (h4.trans h7.symm) ▸ h5)
  obtain ⟨hok, hC⟩ := hTri _ _ _ hT
  rw [hS1] at hob1 hargs
  refine ⟨hok, hM _ _ _ _ ?_ (hC X g1 w vs hXd hob1 hargs)⟩
  rintro e w' ⟨r, σ', g2, v, hR, rfl, hr, hob2, hkp, hm2, hpin2, hcl⟩
  rw [← hS1] at hr hob2
  have hK := hK r σ' hR
  have ht : ∃ t, after lent (immV r || immS σ') s = t ∧ Rel w0 S0 N g t tmps w ∧ t.nx = s.nx ∧ (∀ i, (look i t.σ).isSome = true → (look i s.σ).isSome = true) ∧ (∀ i, i ∈ ids → (look i t.σ).isSome = true) ∧ ((∀ i, (look i t.σ).isSome = true → i ∉ lent) ∨ (immV r = false ∧ immS σ' = false)) := by
    cases lent with
    | nil => exact ⟨s, rfl, h, rfl, fun i hi => hi, hids, .inl fun i _ => by simp⟩
    | cons a l =>
      cases hb : (immV r || immS σ') with
      | true => exact ⟨_, rfl, frz_ok _ h, rfl, fun i hi => ((look_frz _ _ _).1 hi).2, fun i hi => (look_frz _ _ _).2 ⟨fun hl => hlent i hl hi, hids i hi⟩, .inl fun i hi => ((look_frz _ _ _).1 hi).1⟩
      | false => exact ⟨s, rfl, h, rfl, fun i hi => hi, hids, .inr (by simpa using hb)⟩
  obtain ⟨t, hteq, htR, htn, hts, hti, htl⟩ := ht
  rw [hteq] at hK
  obtain ⟨hnew, hK⟩ := hK
  have hnw := news_iff hnew
  have hcl := subl_iff hcl
  have htS : ∀ i, i ∈ ids → i ∈ refsS t.σ := fun i hi => by
    obtain ⟨o, ho⟩ := Option.isSome_iff_exists.1 (hti i hi)
    exact (refs_lookS ho).1
  have hnid : ∀ q, q ∈ dom σ' → ids.length ≤ q → q + s.nx ∉ ids := fun q hq hl hm => hnw q hq hl (List.mem_append.2 (.inr (htS _ hm)))
  obtain ⟨g', hg'⟩ : ∃ g' : G, g' = fun i => if i ∈ ids then g i else if s.nx + ids.length ≤ i ∧ i - s.nx ∈ dom σ' then g2 (i - s.nx) else g i := ⟨_, rfl⟩
  have hlt : ∀ q, q < ids.length → ∃ i, ids[q]? = some i ∧ i ∈ ids ∧ backOf ids s.nx q = i := fun q hq => ⟨ids[q], List.getElem?_eq_getElem hq, List.getElem_mem hq, backOf_lt (List.getElem?_eq_getElem hq)⟩
  have hback : ∀ q, q ∈ dom σ' → g' (backOf ids s.nx q) = g2 q := fun q hq => by
    by_cases hl : q < ids.length
    · obtain ⟨i, h1, h2, h3⟩ := hlt q hl
      have h4 := hpin2 q (by omega) ((dom_iff _ _).1 hq)
      rw [h3, h4, hg', hg1]
      simp only [h1, if_pos h2]
    · have hl : ids.length ≤ q := by omega
      rw [backOf_ge hl, hg']
      simp only
      rw [if_neg (hnid q hq hl), if_pos ⟨by omega, by rw [Nat.add_sub_cancel]; exact hq⟩, Nat.add_sub_cancel]
  have hgk : ∀ i, i ∈ refsA t.A ++ refsS t.σ → g' i = g i := fun i hi => by
    rw [hg']
    simp only
    split
    · rfl
    · split
      · rename_i h1 h2
        exfalso
        refine hnw (i - s.nx) h2.2 (by omega) ?_
        rw [Nat.sub_add_cancel (by omega)]; exact hi
      · rfl
  have hbinj : ∀ p q, p ∈ dom σ' → q ∈ dom σ' → backOf ids s.nx p = backOf ids s.nx q → p = q := fun p q hp hq he => by
    by_cases hlp : p < ids.length
    · obtain ⟨i, h1, h2, h3⟩ := hlt p hlp
      by_cases hlq : q < ids.length
      · obtain ⟨j, h4, h5, h6⟩ := hlt q hlq
        rw [h3, h6] at he; subst he
        exact nodup_at hn h1 h4
      · rw [h3, backOf_ge (show ids.length ≤ q by omega)] at he
        exact absurd (he ▸ h2) (hnid q hq (by omega))
    · rw [backOf_ge (show ids.length ≤ p by omega)] at he
      by_cases hlq : q < ids.length
      · obtain ⟨j, h4, h5, h6⟩ := hlt q hlq
        rw [h6] at he
        exact absurd (he ▸ h5) (hnid p hp (by omega))
      · rw [backOf_ge (show ids.length ≤ q by omega)] at he; omega
  -- what the frame holds thereafter
  have hlk : ∀ i o, look i (renS (backOf ids s.nx) σ' ++ minus t.σ ids) = some o → (∃ q o', q ∈ dom σ' ∧ look q σ' = some o' ∧ i = backOf ids s.nx q ∧ o = renO (backOf ids s.nx) o') ∨ (i ∉ ids ∧ look i t.σ = some o) := fun i o hi => by
    rw [look_app] at hi
    cases h1 : look i (renS (backOf ids s.nx) σ') with
    | some o' =>
      rw [h1] at hi; simp at hi; subst hi
      obtain ⟨q, h2, rfl⟩ := renS_some (by rw [h1]; rfl)
      rw [look_renS (fun p hp => hbinj p q hp h2)] at h1
      obtain ⟨o'', h3, rfl⟩ := Option.map_eq_some_iff.1 h1
      exact .inl ⟨q, o'', h2, h3, rfl, rfl⟩
    | none =>
      rw [h1] at hi; simp at hi
      rw [look_minus] at hi
      split at hi
      · cases hi
      · rename_i h2; exact .inr ⟨h2, hi⟩
  have hlk' : ∀ i, (look i (renS (backOf ids s.nx) σ' ++ minus t.σ ids)).isSome = true → (∃ q, q ∈ dom σ' ∧ i = backOf ids s.nx q) ∨ (i ∉ ids ∧ (look i t.σ).isSome = true) := fun i hi => by
    obtain ⟨o, ho⟩ := Option.isSome_iff_exists.1 hi
    rcases hlk i o ho with ⟨q, o', h1, h2, h3, -⟩ | ⟨h1, h2⟩
    · exact .inl ⟨q, h1, h3⟩
    · exact .inr ⟨h1, by rw [h2]; rfl⟩
  have hgt : ∀ i, (look i t.σ).isSome = true → g' i = g i := fun i hi => by
    obtain ⟨o, ho⟩ := Option.isSome_iff_exists.1 hi
    exact hgk i (List.mem_append.2 (.inr (refs_lookS ho).1))
  have hm1t : ∀ b, mine σ1 g1 b → mine t.σ g b := fun b hb => by
    obtain ⟨i, h1, h2⟩ := (hm1 b).1 hb
    exact ⟨i, hti i h1, h2⟩
  have hmine : ∀ b, mine (renS (backOf ids s.nx) σ' ++ minus t.σ ids) g' b → mine σ' g2 b ∨ ∃ i, i ∉ ids ∧ (look i t.σ).isSome = true ∧ (g i).vi = false ∧ (g i).bl = b := by
    rintro b ⟨i, h1, h2, h3⟩
    rcases hlk' i h1 with ⟨q, h4, rfl⟩ | ⟨h4, h5⟩
    · rw [hback q h4] at h2 h3
      exact .inl ⟨q, (dom_iff _ _).1 h4, h2, h3⟩
    · rw [hgt i h5] at h2 h3
      exact .inr ⟨i, h4, h5, h2, h3⟩
  have hown : ∀ b, mine (renS (backOf ids s.nx) σ' ++ minus t.σ ids) g' b → mine t.σ g b ∨ w.heap.size ≤ b := fun b hb => by
    rcases hmine b hb with h1 | ⟨i, -, h1⟩
    · exact (hm2 b h1).imp_left (hm1t b)
    · exact .inl ⟨i, h1⟩
  have hchg : ∀ b, ¬ own S0 t.σ g b → b < w.heap.size → w'.heap[b]? = w.heap[b]? := fun b hb hlt => hkp.block b hlt (fun hm => hb (.inr (hm1t b hm)))
  have ho2 : ∀ b, b < w.heap.size → ¬ own S0 t.σ g b → ¬ own S0 (renS (backOf ids s.nx) σ' ++ minus t.σ ids) g' b := by
    rintro b hlt hb (h1 | h1)
    · exact hb (.inl h1)
    · rcases hown b h1 with h1 | h1
      · exact hb (.inr h1)
      · omega
  have hcase : (∀ b, ¬ own S1 σ' g2 b → ¬ own S0 (renS (backOf ids s.nx) σ' ++ minus t.σ ids) g' b) ∨ (immV r = false ∧ immS σ' = false) := by
    refine htl.imp_left fun htl b hb => ?_
    rintro (h1 | h1)
    · exact hb (.inl (by rw [hS1X, hX]; exact .inl h1))
    · rcases hmine b h1 with h2 | ⟨i, h2, h3, h4⟩
      · exact hb (.inr h2)
      · exact hb (.inl (by rw [hS1X, hX]; exact .inr ⟨i, h2, htl i h3, hts i h3, h4⟩))
  refine ⟨_, v, _, g', rfl, hK, htR.step (hkp.mono fun b hb _ => hm1t b hb) ⟨fun i o hi => ?_, fun i j hi hj hvi hvj hb => ?_⟩ hown (by rw [htn]; exact Nat.le_add_right _ _) (fun i hi hs => ?_) (fun u x hx => ⟨hx, fun q hq => hgk q (List.mem_append.2 (.inl (refs_look hx q hq)))⟩), ?_⟩
  · rcases hlk i o hi with ⟨q, o', h1, h2, rfl, rfl⟩ | ⟨h1, h2⟩
    · rw [hback q h1]
      refine RO_ren (g := g2) (fun p hp => hback p (hcl p (List.mem_append.2 (.inr ((refs_lookS h2).2 p hp))))) ?_
      have := hob2.objs q o' h2
      rcases hcase with hc | ⟨-, hc⟩
      · exact RO_weak hc this
      · exact RO_flat (immS_at hc h2) this
    · rw [hgt i (by rw [h2]; rfl)]
      refine RO_keep hchg hkp.size ho2 (fun hv => hkp.block _ (htR.ob.lt (by rw [h2]; rfl) hv) fun hm => ?_) (fun q hq => hgk q (List.mem_append.2 (.inr ((refs_lookS h2).2 q hq)))) (htR.ob.objs i o h2)
      obtain ⟨j, h3, h4, h5⟩ := (hm1 _).1 hm
      exact h1 (htR.ob.inj i j (by rw [h2]; rfl) (hti j h3) hv h4 h5.symm ▸ h3)
  · have hmix : ∀ q j, q ∈ dom σ' → (g2 q).vi = false → j ∉ ids → (look j t.σ).isSome = true → (g j).vi = false → (g2 q).bl = (g j).bl → False := fun q j h1 h2 h3 h4 h5 h6 => by
      rcases hm2 (g j).bl ⟨q, (dom_iff _ _).1 h1, h2, h6⟩ with h7 | h7
      · obtain ⟨k, h8, h9, h10⟩ := (hm1 _).1 h7
        exact h3 (htR.ob.inj j k h4 (hti k h8) h5 h9 h10.symm ▸ h8)
      · have := htR.ob.lt h4 h5; omega
    rcases hlk' i hi with ⟨q, h1, rfl⟩ | ⟨h1, h2⟩
    · rw [hback q h1] at hvi hb
      rcases hlk' j hj with ⟨p, h3, rfl⟩ | ⟨h3, h4⟩
      · rw [hback p h3] at hvj hb
        rw [hob2.inj q p ((dom_iff _ _).1 h1) ((dom_iff _ _).1 h3) hvi hvj hb]
      · rw [hgt j h4] at hvj hb
        exact (hmix q j h1 hvi h3 h4 hvj hb).elim
    · rw [hgt i h2] at hvi hb
      rcases hlk' j hj with ⟨p, h3, rfl⟩ | ⟨h3, h4⟩
      · rw [hback p h3] at hvj hb
        exact (hmix p i h3 hvj h1 h2 hvi hb.symm).elim
      · rw [hgt j h4] at hvj hb
        exact htR.ob.inj i j h2 h4 hvi hvj hb
  · rcases hlk' i hs with ⟨q, h1, h2⟩ | ⟨h1, h2⟩
    · by_cases hl : q < ids.length
      · obtain ⟨j, h3, h4, h5⟩ := hlt q hl
        rw [h5] at h2; subst h2
        exact ⟨hti i h4, by rw [hg']; simp only [if_pos h4]⟩
      · rw [backOf_ge (by omega)] at h2
        have := h.nx; omega
    · exact ⟨h2, hgt i h2⟩
  · refine RV_ren (g := g2) _ _ (fun p hp => hback p (hcl p (List.mem_append.2 (.inl hp)))) ?_
    rcases hcase with hc | ⟨hc, -⟩
    · exact RV_weak hc _ _ hr
    · exact RV_flat _ _ hc hr
theorem vcall_ok {Tri : Spec} (hTri : ∀ f xs σ R, Tri f xs σ R → TriS P f xs σ R) (h : Rel w0 S0 N g s tmps w) {xs : List V} {vs : List Value} (hx : RVs g w (own S0 s.σ g) xs vs) {f : FuncId} {K : V → S → Prop} (hk : vcall (Tri f) s xs K) :
    okF P f = true ∧ Calls P f vs.toArray w fun e w' => ∃ r val s' g', e = .returned val ∧ K r s' ∧ Rel w0 S0 N g' s' tmps w' ∧ RV g' w' (own S0 s'.σ g') r val :=
  vcallG_ok (CC := fun vs w R => Calls P f vs.toArray w R) (fun _ _ _ _ hm hc => hc.mono hm) (hTri f) h hx hk
end
end Go.Proofs.Ytilmhjojbolbeaa.AM

namespace Go.Proofs.Ytilmhjojbolbeaa.AM
open Go

theorem findNow_map : ∀ (es : List MapEntry) (S : List Int) (i : Nat) (n : Int), es.map (fun e => (e.key, e.val)) = S.map (fun x => (Value.int .i64 x, Value.bool true)) →
    ∃ r, Instr.findNow (.int .i64) (.int .i64 n) es i = some r ∧ ((n ∈ S ∧ ∃ q, r = some (q, .bool true)) ∨ (n ∉ S ∧ r = none))
  | [], [], i, n, _ => ⟨none, rfl, .inr ⟨by simp, rfl⟩⟩
  | e :: es, x :: S, i, n, h => by
    simp only [List.map_cons, List.cons.injEq, Prod.mk.injEq] at h
    obtain ⟨⟨h1, h2⟩, h3⟩ := h
    by_cases hx : n = x
    · subst hx
      exact ⟨some (i, .bool true), by simp [Instr.findNow, Instr.sameNow, h1, h2], .inl ⟨by simp, i, rfl⟩⟩
    · obtain ⟨r, hr, hc⟩ := findNow_map es S (i + 1) n h3
      refine ⟨r, ?_, hc.imp (fun ⟨a, b⟩ => ⟨by simp [a], b⟩) (fun ⟨a, b⟩ => ⟨by simp [a, hx], b⟩)⟩
      have hb : (n == x) = false := by simpa using hx
      simp [Instr.findNow, Instr.sameNow, h1, hb, hr]
  | [], _ :: _, _, _, h => by simp at h
  | _ :: _, [], _, _, h => by simp at h
section
variable {P : Program} {t k e : TypeId} {w : World} {b : Nat} {es : Array MapEntry} {clock : Nat} {S : List Int} {n : Int}
theorem und_run {t : TypeId} {d : TypeDesc} (h : P.underlying t = some d) (w : World) : (underlying t).run P w = .ok d w := by simp [underlying, h]
theorem check_run (hk : P.underlying k = some (.int .i64)) (eb : Bool) : (Instr.checkKey eb 10000 k (.int .i64 n)).run P w = .ok () w := by
  rw [show (10000 : Nat) = 9999 + 1 from rfl]
  unfold Instr.checkKey
  simp [und_run hk]
theorem getMap_run (hb : w.heap[b]? = some (.map es clock)) : (getObj b).run P w = .ok (.map es clock) w := by
  simp [getObj, Sem.run, hb]
theorem find_run (hk : P.underlying k = some (.int .i64)) {r : Option (Nat × Value)} (hr : Instr.findNow (.int .i64) (.int .i64 n) es.toList 0 = some r) : (Instr.findKey k (.int .i64 n) es.toList).run P w = .ok r w := by
  simp [Instr.findKey, und_run hk, hr]
theorem lookup_run (hu : P.underlying t = some (.map k e)) (hk : P.underlying k = some (.int .i64)) {i : TypeInfo} (he : P.info? e = some i) (hz : i.zero = some (.bool false)) (hb : w.heap[b]? = some (.map es clock)) (hS : mapIs es S) :
    (Instr.lookup t (.map (some b)) (.int .i64 n) false).run P w = .ok (.bool (decide (n ∈ S))) w := by
  obtain ⟨r, hr, hc⟩ := findNow_map es.toList S 0 n hS
  have h0 : (zeroValue e).run P w = .ok (.bool false) w := by simp [zeroValue, typeInfo, he, hz]
  unfold Instr.lookup
  rcases hc with ⟨h1, q, rfl⟩ | ⟨h1, rfl⟩
  · simp [und_run hu, getMap_run hb, check_run hk, find_run hk hr, h1]
  · simp [und_run hu, getMap_run hb, check_run hk, find_run hk hr, h1, h0]
theorem update_run {e' : TypeId} (hu : P.underlying t = some (.map k e')) (hk : P.underlying k = some (.int .i64)) (hb : w.heap[b]? = some (.map es clock)) (hS : mapIs es S) (hn : n ∉ S) :
    (Instr.mapUpdate t (.map (some b)) (.int .i64 n) (.bool true)).run P w = .ok () (w.putObj b (.map (es.push { key := .int .i64 n, val := .bool true, born := clock }) (clock + 1))) := by
  obtain ⟨r, hr, hc⟩ := findNow_map es.toList S 0 n hS
  have hs : ∀ o, (setObj b o).run P w = .ok () (w.putObj b o) := fun o => by simp [setObj, Sem.run, World.putObj, hb]
  unfold Instr.mapUpdate
  rcases hc with ⟨h1, q, rfl⟩ | ⟨h1, rfl⟩
  · exact absurd h1 hn
  · simp [und_run hu, getMap_run hb, check_run hk, find_run hk hr, hs]
end
theorem chk_mb {P : Program} {t : Nat} {T : TS} (hc : chkB P t T = true) (hn : T.nk = 4) (hb : T.mb = true) : ∃ k e i, P.underlying t = some (.map k e) ∧ P.underlying k = some (.int .i64) ∧ P.info? e = some i ∧ i.zero = some (.bool false) := by
  unfold chkB at hc
  split at hc
  · rename_i d i h1 h2
    simp only [Bool.and_eq_true, beq_iff_eq] at hc
    have h3 := hc.1.1.1.2.2
    have h4 := hc.2
    rw [hn] at h3
    cases d <;> simp [nkB] at h3
    rename_i k e
    simp only [hb, Bool.not_true, Bool.false_or, Bool.and_eq_true] at h4
    obtain ⟨-, h4⟩ := h4
    unfold mbB at h4
    simp only at h4
    split at h4
    · rename_i i' h5 h6
      split at h4
      · rename_i h7; exact ⟨k, e, i', h1, h5, h6, h7⟩
      · cases h4
    · cases h4
  · cases hc
theorem mapIs_push {es : Array MapEntry} {S : List Int} (h : mapIs es S) (n : Int) (clock : Nat) : mapIs (es.push { key := .int .i64 n, val := .bool true, born := clock }) (S ++ [n]) := by
  unfold mapIs at *
  simp [h]
end Go.Proofs.Ytilmhjojbolbeaa.AM

namespace Go.Proofs.Ytilmhjojbolbeaa.AM
open Go
theorem bor_raw {σ : Sto} {a : V} {v : Value} (h : bor σ 1 a = .v v) : a = .v v := by
  cases a <;> simp only [bor] at h <;> first | exact h | (cases h; done) | (repeat' split at h) <;> first | exact h | (cases h; done)

section
variable {P : Program} {H : (α : Type) → α → α} {TT : Nat → TS} {Tri : Spec} {w0 : World} {S0 : Fr} {N : Nat} {g : G} {s : S} {a : Act} {w : World} {next : Act → World → Prop} {Q : Exit → Act → World → Prop} {o : Oper}
theorem Ob.keep {σ : Sto} {w' : World} (h : Ob S0 g w σ) (hk : Kp (fun _ => False) w w') : Ob S0 g w' σ := by
  refine ⟨fun i o hi => RO_keep (fun b _ hlt => hk.block b hlt (fun h => h)) hk.size (fun _ _ h => h) (fun hv => ?_) (fun _ _ => rfl) (h.objs i o hi), h.inj⟩
  exact hk.block _ (h.lt (by rw [hi]; rfl) hv) (fun h => h)
/-- what is to be shown thereafter -/
def Goes (w0 : World) (S0 : Fr) (N : Nat) (a : Act) (o : Oper) (next : Act → World → Prop) (K : V → S → Prop) : Prop :=
  ∀ v s' g' val w', K v s' → Rel w0 S0 N g' s' a.tmps w' → RV g' w' (own S0 s'.σ g') v val → next (a.put o.dst val) w'
theorem fin_made {m : Sem Value} {K : V → S → Prop} (hn : Goes w0 S0 N a o next K) (hm : Made P w0 S0 N a.tmps w m K) (he : execOp a.eval o = (do pure (.value (← m)))) : o.wp P a w next Q := by
  obtain ⟨r, val, s', g', w', h1, h2, h3, h4⟩ := hm
  exact wp_v he h4 (hn _ _ _ _ _ h1 h2 h3)
theorem fin_pure {v : V} {val : Value} {K : V → S → Prop} (h : Rel w0 S0 N g s a.tmps w) (hn : Goes w0 S0 N a o next K) (hk : K v s) (hv : RV g w (own S0 s.σ g) v val) (he : (execOp a.eval o).run P w = .ok (.value val) w) : o.wp P a w next Q :=
  wp_value he (hn _ _ _ _ _ hk h hv)
/-- an operation that only looks -/
def Looks (P : Program) (g : G) (ow : Nat → Prop) (s : S) (a : Act) (o : Oper) (w : World) (K : V → S → Prop) : Prop := ∃ v val, K v s ∧ RV g w ow v val ∧ (execOp a.eval o).run P w = .ok (.value val) w
theorem sf_gives {ow : Nat → Prop} {m : Sem Value} {K : V → S → Prop} (hm : Gives P g w ow m (fun r => K r s)) (he : execOp a.eval o = (do pure (.value (← m)))) : Looks P g ow s a o w K := by
  obtain ⟨r, val, h1, h2, h3⟩ := hm
  exact ⟨r, val, h1, h2, by rw [he]; simp [h3]⟩
theorem sf_pure {ow : Nat → Prop} {v : V} {val : Value} {K : V → S → Prop} (hk : K v s) (hv : RV g w ow v val) (he : (execOp a.eval o).run P w = .ok (.value val) w) : Looks P g ow s a o w K := ⟨_, _, hk, hv, he⟩
theorem asI_ok {ow : Nat → Prop} {x : Option V} {j : Int} {v : Value} (h : x.bind asI = some j) (hx : ∀ y, x = some y → RV g w ow y v) : ∃ k, v = .int k j := by
  cases x with
  | none => cases h
  | some y =>
    cases y <;> simp [asI] at h
    subst h
    exact ⟨_, hx _ rfl⟩
theorem nk_slice {t : Nat} {T : TS} (hc : chkB P t T = true) (h : T.nk = 2) : ∃ e, P.underlying t = some (.slice e) := by
  obtain ⟨d, hd, hn⟩ := chk_nk hc
  rw [h] at hn
  cases d <;> simp [nkB] at hn
  exact ⟨_, hd⟩
theorem nk_struct {t : Nat} {T : TS} (hc : chkB P t T = true) (h : T.nk = 7) : ∃ fs, P.underlying t = some (.struct fs) := by
  obtain ⟨d, hd, hn⟩ := chk_nk hc
  rw [h] at hn
  cases d <;> simp [nkB] at hn
  exact ⟨_, hd⟩
theorem nk_array {t : Nat} {T : TS} (hc : chkB P t T = true) (h : T.nk = 8) : ∃ n e, P.underlying t = some (.array n e) := by
  obtain ⟨d, hd, hn⟩ := chk_nk hc
  rw [h] at hn
  cases d <;> simp [nkB] at hn
  exact ⟨_, _, hd⟩
theorem aB_len {esz : Nat} {ag : Bool} {n : Nat} : ∀ {fs : List (Nat × Bool × Nat)} {j : Nat}, aB P esz ag n fs j = true → j + fs.length = n
  | [], j, h => by simpa [aB] using h
  | (off, ag', sz) :: fs, j, h => by
    simp only [aB, Bool.and_eq_true] at h
    have := aB_len h.2
    simp; omega
/-- an element of an array behind an address, at a number that is known -/
theorem aB_ag {esz : Nat} {ag : Bool} {n : Nat} : ∀ {fs : List (Nat × Bool × Nat)} {j i : Nat} {x : Nat × Bool × Nat}, aB P esz ag n fs j = true → nth fs i = some x → x.2.1 = ag
  | [], j, i, x, _, h => by simp [nth] at h
  | (off, ag', sz) :: fs, j, i, x, h, hx => by
    simp only [aB, Bool.and_eq_true, beq_iff_eq] at h
    cases i with
    | zero => simp [nth] at hx; subst hx; exact h.1.1.2
    | succ i => exact aB_ag h.2 (by simpa [nth] using hx)
theorem arrIdx_ok {t : Nat} {T : TS} {j : Nat} {off sz : Nat} (hc : chkB P t T = true) (ha : T.arr = none) (hnk : T.nk = 8) (hx : nth T.fs j = some (off, false, sz)) {cs r : List V} {x : V} {vs : Array Value} {ow : Nat → Prop} {k : IntKind} (hv : RVs g w ow cs vs.toList) (hd : dp off cs = x :: r) :
    ∃ val, RV g w ow x val ∧ (Instr.index t (.agg vs) (.int k (j : Int))).run P w = .ok val w := by
  obtain ⟨n, e, hu⟩ := nk_array hc hnk
  have hc' := hc
  unfold chkB at hc'
  rw [hu] at hc'
  split at hc'
  · rename_i d i h1 h2
    cases h1
    simp only [Bool.and_eq_true, ha] at hc'
    obtain ⟨-, heB, haB⟩ := hc'
    split at haB
    · rename_i d hd'
      have hlen := aB_len haB
      have hat := (aB_at haB hx).1
      have hag : (false : Bool) = agB d := aB_ag haB hx
      rw [nth_eq] at hx
      have hjl : j < n := by have := (List.getElem?_eq_some_iff.1 hx).1; omega
      unfold eB at heB
      rw [hd'] at heB
      simp only [Bool.and_eq_true] at heB
      obtain ⟨-, heB⟩ := heB
      split at heB
      · rename_i d' i' h3 h4
        simp only [Bool.and_eq_true, beq_iff_eq] at heB
        have hsz : i'.size = T.esz := heB.1.1.1.1
        have h5 := RVs_drop off hv
        rw [hd] at h5
        cases hq : vs.toList.drop off with
        | nil => rw [hq] at h5; exact h5.elim
        | cons u us =>
          rw [hq] at h5
          have h6 : vs[off]? = some u := by
            have := congrArg List.head? hq
            simpa using this
          have hagg : (isAgg e).run P w = .ok false w := by
            unfold isAgg
            rw [Sem.run_bind, run_underlying hd' w]
            clear h5 h6 hq hd hv heB hd' haB hlen
            cases d <;> first | rfl | (simp [agB] at hag)
          refine ⟨u, h5.1, ?_⟩
          have hoff : off = j * T.esz := by simpa using hat
          have h7 : (0 : Int) ≤ (j : Int) ∧ (j : Int) < (n : Int) := by omega
          simp [Instr.index, asIntOf, run_underlying hu w, hjl, sizeOf, typeInfo, h4, hsz, part, hagg, ← hoff, h6]
      · cases heB
    · cases haB
  · cases hc'
theorem arrAddr_ok {t : Nat} {T : TS} {j : Nat} {x : Nat × Bool × Nat} (hc : chkB P t T = true) (ha : T.arr = none) (hnk : T.nk = 8) (hx : nth T.fs j = some x) {v : V} {u : Value} {ow : Nat → Prop} {K : V → Prop} {k : IntKind} (hv : RV g w ow v u)
    (h : match (generalizing := false) v with
      | .p cs => K (.p (dp x.1 cs))
      | .pt i o' => K (.pt i (o' + x.1))
      | .pe i j sz c => K (.pe i j sz (c + x.1))
      | _ => False) : Gives P g w ow (Instr.indexAt t u (.int k (j : Int))) K := by
  obtain ⟨n, e, hu⟩ := nk_array hc hnk
  have hc' := hc
  unfold chkB at hc'
  rw [hu] at hc'
  split at hc'
  · rename_i d i h1 h2
    cases h1
    simp only [Bool.and_eq_true, ha] at hc'
    obtain ⟨-, heB, haB⟩ := hc'
    split at haB
    · rename_i d hd
      have hlen := aB_len haB
      have hat := (aB_at haB hx).1
      rw [nth_eq] at hx
      have hjl : j < n := by have := (List.getElem?_eq_some_iff.1 hx).1; omega
      unfold eB at heB
      rw [hd] at heB
      simp only [Bool.and_eq_true] at heB
      obtain ⟨-, heB⟩ := heB
      split at heB
      · rename_i d' i' h3 h4
        simp only [Bool.and_eq_true, beq_iff_eq] at heB
        have hsz : i'.size = T.esz := heB.1.1.1.1
        have run : ∀ b o, (Instr.indexAt t (.pointer (some ⟨b, o, none⟩)) (.int k (j : Int))).run P w = .ok (.pointer (some ⟨b, o + x.1, none⟩)) w := fun b o => by
          have : (0 : Int) ≤ (j : Int) ∧ (j : Int) < (n : Int) := by omega
          simp [Instr.indexAt, asIntOf, run_underlying hu w, Instr.sureAddr, sizeOf, typeInfo, h4, hjl, Addr.add, hat, hsz]
        cases v <;> simp only at h
        case p cs =>
          obtain ⟨b, o, rfl, hb, hl, hr⟩ := hv
          refine ⟨_, _, h, ⟨b, o + x.1, rfl, hb, hl, ?_⟩, run b o⟩
          rw [dp_eq]
          exact RCs_drop _ _ _ _ _ hr
        case pt i o' =>
          obtain ⟨rfl, h1⟩ := hv
          exact ⟨_, _, h, ⟨rfl, h1⟩, run _ _⟩
        case pe i j sz c =>
          obtain ⟨q, rfl, rfl, h1⟩ := hv
          exact ⟨_, _, h, ⟨q, rfl, by rw [Nat.add_assoc], h1⟩, run _ _⟩
      · cases heB
    · cases haB
  · cases hc'
theorem nk_string {t : Nat} {T : TS} (hc : chkB P t T = true) (h : T.nk = 9) : P.underlying t = some .string := by
  obtain ⟨d, hd, hn⟩ := chk_nk hc
  rw [h] at hn
  cases d <;> simp [nkB] at hn
  exact hd
theorem nk_int {t : Nat} {T : TS} {k : IntKind} (hc : chkB P t T = true) (h : T.nk = 10) (hk : T.k = some k) : P.underlying t = some (.int k) := by
  refine chk_int hc hk ?_
  obtain ⟨d, hd, hn⟩ := chk_nk hc
  intro d' hd' hx
  rw [hd] at hd'; cases hd'
  rw [h] at hn
  rcases hx with ⟨_, rfl⟩ | ⟨_, _, rfl⟩ | ⟨_, rfl⟩ <;> simp [nkB] at hn
theorem partsOk_iff {n sz : Nat} : ∀ {xs : List (Nat × V)}, partsOk n sz xs = true → ∀ p ∈ xs, p.1 < n ∧ (cells p.2).length = sz
  | [], _, p, hp => by cases hp
  | (i, x) :: r, h, p, hp => by
    simp only [partsOk] at h
    split at h
    · rename_i h1 h2
      rcases List.mem_cons.1 hp with rfl | hp
      · exact ⟨by simpa using h1, by simpa using h2⟩
      · exact partsOk_iff h p hp
    · cases h
theorem run_und {t : TypeId} {d : TypeDesc} (h : P.underlying t = some d) (w : World) : (underlying t).run P w = .ok d w := by simp [underlying, h]
theorem evps_nil {ps : List (Nat × Operand)} (h : evps s ps = some []) : ps = [] := by
  cases ps with
  | nil => rfl
  | cons p ps =>
    obtain ⟨i, x⟩ := p
    simp only [evps] at h
    split at h <;> cases h
theorem evps_one {ps : List (Nat × Operand)} {i : Nat} {v : V} (h : evps s ps = some [(i, v)]) : ∃ x, ps = [(i, x)] ∧ ev s x = some v := by
  cases ps with
  | nil => cases h
  | cons p ps =>
    obtain ⟨j, x⟩ := p
    simp only [evps] at h
    split at h <;> cases h
    rename_i h1 h2
    rw [evps_nil h2]
    exact ⟨x, rfl, h1⟩
theorem ofV_nil {v : Value} (h : ofV v = .l 0 [] true) : v = .slice none 0 0 := by
  unfold ofV at h
  split at h <;> first | rfl | cases h
theorem isC_nil {x : Operand} {y : V} (hc : isC x = true) (hx : ev s x = some y) (hy : y = .l 0 [] true) : a.eval x = .slice none 0 0 := by
  cases x <;> simp [isC] at hc
  simp only [ev, Option.some.injEq] at hx
  exact ofV_nil (hx.trans hy)
/-- an empty row -/
theorem slice0_ok {t e : TypeId} {T : TS} (hc : chkB P t T = true) (hu : P.underlying t = some (.slice e)) {tmps : Array Value} (h : Rel w0 S0 N g s tmps w) {K : V → S → Prop} (hk : K (.l 0 [] true) s) : Made P w0 S0 N tmps w (Instr.buildSlice t 0 #[]) K := by
  obtain ⟨-, i, hi, -⟩ := chk_slice hc hu
  obtain ⟨h1, h2⟩ := row_made (n := 0) (sz := 1) (cs := []) (r := #[]) (e := e) (full := true) h (by omega) (RL_nil [] 1)
  refine ⟨_, _, _, _, _, hk, h1, h2, ?_⟩
  simp [Instr.buildSlice, run_und hu, sizeOf, typeInfo, hi, Instr.fill, newRow, show Array.range 0 = #[] by simp]
variable (hH : ∀ α x, H α x = x) (hT : TTok P TT)
include hH hT
theorem vop_soft {K : V → S → Prop} (h : Rel w0 S0 N g s a.tmps w) (hs : (match o.op with | .call _ => false | p => softO TT p) = true) (hk : vop H TT Tri o s K) : Looks P g (own S0 s.σ g) s a o w K := by
  obtain ⟨dst, op, ty', pos, aft, guard⟩ := o
  cases op
  case move x =>
    simp only [vop] at hk
    obtain ⟨v, h1, h2⟩ := need_some hk
    exact sf_pure h2 (ev_ok h h1) rfl
  case pick c x y =>
    simp only [vop] at hk
    obtain ⟨v, h1, hk⟩ := need_some hk
    split at hk
    · rename_i b
      have hc : a.eval c = .bool b := ev_ok h h1
      split at hk
      · obtain ⟨u, h2, h3⟩ := need_some hk
        exact sf_pure h3 (ev_ok h h2) (by simp [execOp, hc, asBool])
      · obtain ⟨u, h2, h3⟩ := need_some hk
        exact sf_pure h3 (ev_ok h h2) (by simp [execOp, hc, asBool])
    · exact hk.elim
  case build t ps =>
    simp only [vop] at hk
    obtain ⟨T, -, hk, hc⟩ := ty_ok hT hk
    obtain ⟨xs, h1, hk⟩ := need_some hk
    split at hk
    · exact hk.elim
    · rename_i ha
      split at hk
      · rename_i hag
        obtain ⟨cs, h2, hk⟩ := need_some hk
        obtain ⟨r, h3, h4⟩ := build_ok (us := ps.map fun (i, x) => (i, a.eval x)) (w := w) hc ha hag (by simpa using evps_ok h h1) h2
        exact sf_gives ⟨_, _, hk, ⟨r, rfl, h4⟩, h3⟩ rfl
      · exact hk.elim
  case load t x =>
    simp only [vop] at hk
    obtain ⟨v, h1, hk⟩ := need_some hk
    obtain ⟨T, -, hk, hc⟩ := ty_ok hT hk
    exact sf_gives (vload_ok hH hc h.ob (ev_ok h h1) hk) rfl
  case nilCheck x =>
    simp only [vop] at hk
    obtain ⟨v, h1, hk⟩ := need_some hk
    have hv := ev_ok h h1
    split at hk
    · have hv' := hv
      obtain ⟨b, of, e, -⟩ := hv'
      exact sf_pure hk hv (by simp [execOp, e])
    · have e := hv.1
      exact sf_pure hk hv (by simp [execOp, e])
    · have hv' := hv
      obtain ⟨i, -, e, -⟩ := hv'
      exact sf_pure hk hv (by simp [execOp, e])
    · have hv' := hv
      rename_i f cs
      obtain ⟨vs, e, -⟩ := hv'
      exact sf_pure hk hv (by cases f <;> simp [execOp, e])
    · exact hk.elim
  case binOp op t x y pos' =>
    simp only [vop] at hk
    obtain ⟨u, h1, hk⟩ := need_some hk
    obtain ⟨v, h2, hk⟩ := need_some hk
    obtain ⟨r, val, h3, h4, h5, h6⟩ := vbin_ok (xo := x) (yo := y) hH hT h.ob.objs (ev_ok h h1) (ev_ok h h2) (fun hc hy => isC_nil hc h2 hy) hk
    exact sf_gives ⟨r, val, h3, h4, by simp [h5, h6]⟩ rfl
  case unOp op t x =>
    simp only [vop] at hk
    obtain ⟨u, h1, hk⟩ := need_some hk
    have hv := ev_ok h h1
    split at hk
    · obtain hv : a.eval x = _ := hv
      split at hk <;> exact sf_pure hk rfl (by simp [execOp, hv, Op.unary])
    · obtain hv : a.eval x = _ := hv
      exact sf_pure hk rfl (by simp [execOp, hv, Op.unary, Op.intArith, hH])
    · exact hk.elim
  case convert u t x =>
    simp only [vop] at hk
    obtain ⟨v, h1, hk⟩ := need_some hk
    obtain ⟨U, hU, hk, hcu⟩ := ty_ok hT hk
    obtain ⟨T, hTT, hk, hc⟩ := ty_ok hT hk
    have hv := ev_ok h h1
    obtain ⟨du, iu, hu, -⟩ := chk_base hcu
    split at hk
    · rename_i hnk
      split at hk
      · have hv : a.eval x = _ := hv
        obtain ⟨k, hk1, hk⟩ := need_some hk
        exact sf_pure hk rfl (by simp [execOp, convert, hv, run_und hu, run_und (nk_int hc hnk hk1), Conv.intToInt, hH])
      · exact hk.elim
    · rename_i hnk
      split at hk
      · have hv' : a.eval x = _ := hv
        exact sf_pure hk rfl (by simp [execOp, convert, hv', run_und hu, run_und (nk_string hc hnk)])
      · split at hk
        · rename_i hnu
          obtain ⟨E, -, hk, hE⟩ := ty_ok hT hk
          split at hk
          · rename_i hne hek
            obtain ⟨e, hue⟩ := nk_slice hcu hnu
            have hel := (chk_slice hcu hue).1
            have he := nk_int hE hne hek
            rw [hel] at he
            split at hk
            · rename_i n f ff hb
              obtain ⟨p, len, cap, e1, rfl, -, -, L, ⟨hL1, -, hL2⟩, hL3⟩ := cont_y h.ob (sz := 1) (.inr rfl) hv hb
              have hL : L = ((List.range len).map fun (i : Nat) => f [(i : Int)]).map (Value.int .u8) := by
                apply List.ext_getElem?
                intro k
                by_cases hkl : k < len
                · obtain ⟨u', h8, h9⟩ := hL2 k hkl 0 _ rfl
                  rw [Nat.mul_one, Nat.add_zero] at h8
                  obtain rfl : u' = _ := h9
                  rw [h8]; simp [hkl]
                · rw [List.getElem?_eq_none (by omega), List.getElem?_eq_none (by simp; omega)]
              have hfold : ∀ (ns : List Int) (r : ByteArray), ns.foldl (fun r n => r.push (UInt8.ofNat n.toNat)) r = ⟨(r.data.toList ++ ns.map fun n => UInt8.ofNat n.toNat).toArray⟩ := by
                intro ns
                induction ns with
                | nil => intro r; simp
                | cons n ns ih => intro r; rw [List.foldl_cons, ih]; simp [ByteArray.push]
              refine sf_pure hk rfl ?_
              have hrun : (Conv.bytesToString (.slice p len cap)).run P w = .ok (.string ⟨(bytesOf len f).toArray⟩) w := by
                cases hp : p with
                | none =>
                  have hl0 : len = 0 := by
                    rcases hL3 with h8 | ⟨b, o, h8, _⟩
                    · exact h8
                    · rw [hp] at h8; cases h8
                  subst hl0
                  unfold Conv.bytesToString
                  simp [bytesOf]
                  rfl
                | some q =>
                  have hcells : ∀ (j : Nat) (v : Value), L[j]? = some v → w.cell? (q.add j) = some v := fun j v hj => by
                    rcases hL3 with h8 | ⟨b, o, h8, h9⟩
                    · subst h8
                      have : L = [] := List.eq_nil_of_length_eq_zero (by simpa using hL1)
                      rw [this] at hj; simp at hj
                    · rw [hp] at h8; cases h8
                      have h10 := h9 j v hj
                      rw [show (⟨b, o, none⟩ : Addr).add j = ⟨b, o + j, none⟩ from by unfold Addr.add; split <;> simp_all]
                      exact h10
                  have hload := run_loadCells_list (P := P) (w := w) q L hcells
                  rw [show L.length = len by omega] at hload
                  rw [hL] at hload
                  rw [run_bytesToString w q len cap _ hload, hfold]
                  simp [bytesOf, ByteArray.empty, ByteArray.emptyWithCapacity, List.map_map, Function.comp_def]
                  rfl
              rw [hH]
              simp only [execOp, e1]
              simp only [Sem.run_bind, run_convert_bytes_string w u t e p len cap hue he (nk_string hc hnk), hrun]
              rfl
            · rename_i q hb
              have hk9 := hk
              obtain rfl := bor_raw hb
              have e1 : a.eval x = .slice (some q) 0 0 := hv
              refine sf_pure hk9 rfl ?_
              simp only [execOp, e1]
              simp only [Sem.run_bind, run_convert_bytes_string w u t e (some q) 0 0 hue he (nk_string hc hnk), run_bytesToString w q 0 0 [] (run_loadCells_list (P := P) (w := w) q [] (fun j v hj => by simp at hj))]
              rfl
            · exact hk.elim
          · exact hk.elim
        · exact hk.elim
    · rename_i hnk
      simp only [softO] at hs
      rw [← hTT] at hs
      rw [hnk] at hs
      cases hs
    · exact hk.elim
  case makeFunc f fi cs =>
    simp only [vop] at hk
    split at hk
    · rename_i he
      obtain ⟨vs, h1, hk⟩ := need_some hk
      have hfi : fi = #[] := by rw [← Array.toList_inj]; exact he
      subst hfi
      exact sf_pure hk ⟨cs.map a.eval, rfl, by simpa using evs_ok h h1⟩ (by simp [execOp, Instr.makeFunc])
    · split at hk
      · rename_i he
        obtain ⟨vs, h1, hk⟩ := need_some hk
        have hcs : cs = #[] := by rw [← Array.toList_inj]; exact he
        subst hcs
        exact sf_pure hk ⟨fi.map a.eval, rfl, by simpa using evs_ok h h1⟩ (by simp [execOp, Instr.makeFunc])
      · exact hk.elim
  case slice t x lo hi mx =>
    simp only [vop] at hk
    obtain ⟨v, h1, hk⟩ := need_some hk
    obtain ⟨l, h2, hk⟩ := need_some hk
    obtain ⟨hh, h3, hk⟩ := need_some hk
    obtain ⟨m, h4, hk⟩ := need_some hk
    obtain ⟨T, -, hk, hc⟩ := ty_ok hT hk
    exact sf_gives (vslice_ok hH hT hc (ev_ok h h1) (optI_ok h h2) (optI_ok h h3) (optI_ok h h4) hk) rfl
  case fieldAddr t x f =>
    simp only [vop] at hk
    obtain ⟨v, h1, hk⟩ := need_some hk
    obtain ⟨T, -, hk, hc⟩ := ty_ok hT hk
    split at hk
    · rename_i hnk
      obtain ⟨p, h2, hk⟩ := need_some hk
      exact sf_gives (fieldAddr_ok hT hc h2 (nk_struct hc hnk) (ev_ok h h1) hk) rfl
    · exact hk.elim
  case field t x f =>
    simp only [vop] at hk
    obtain ⟨v, h1, hk⟩ := need_some hk
    obtain ⟨T, -, hk, hc⟩ := ty_ok hT hk
    split at hk
    · rename_i hnk
      obtain ⟨p, h2, hk⟩ := need_some hk
      obtain ⟨fs, hu⟩ := nk_struct hc hnk
      obtain ⟨off, ag, sz⟩ := p
      simp only at hk
      split at hk
      · rename_i cs
        obtain ⟨vs, e, hvs⟩ := ev_ok h h1
        exact sf_gives (field_ok (x := (off, ag, sz)) hc hu h2 hvs hk) (by simp only [execOp, e])
      · exact hk.elim
    · exact hk.elim
  case indexAddr t x i =>
    simp only [vop] at hk
    obtain ⟨v, h1, hk1⟩ := need_some hk
    clear hk
    obtain ⟨j, h2, hk2⟩ := need_some hk1
    clear hk1
    obtain ⟨T, -, hk, hc⟩ := ty_ok hT hk2
    clear hk2
    split at hk
    · rename_i hnk
      obtain ⟨e, hu⟩ := nk_slice hc hnk
      obtain ⟨k, hj⟩ := asI_ok (w := w) (g := g) (ow := own S0 s.σ g) h2 (fun y hy => ev_ok h hy)
      exact sf_gives (indexAddr_ok (k := k) hH hc hu (ev_ok h h1) hk) (by simp only [execOp, hj])
    · rename_i hnk
      split at hk
      · rename_i ha
        split at hk
        · rename_i hj0
          obtain ⟨p, h3, hk3⟩ := need_some hk
          obtain ⟨k, hj⟩ := asI_ok (w := w) (g := g) (ow := own S0 s.σ g) h2 (fun y hy => ev_ok h hy)
          obtain ⟨q, rfl⟩ := Int.eq_ofNat_of_zero_le (of_decide_eq_true hj0)
          exact sf_gives (arrAddr_ok (k := k) (j := q) hc ha hnk (by simpa using h3) (ev_ok h h1) hk3) (by simp only [execOp, hj])
        · exact hk.elim
      · rename_i n k' ha
        split at hk
        · rename_i o off
          split at hk
          · rename_i m k2 f e hlk
            split at hk
            · rename_i h3 h4
              obtain rfl := beq_iff.1 h3
              obtain ⟨k, hj⟩ := asI_ok (w := w) (g := g) (ow := own S0 s.σ g) h2 (fun y hy => ev_ok h hy)
              obtain ⟨hm, hb, hk⟩ := hk
              rw [hH, decide_eq_true_eq] at hb
              obtain ⟨hb0, hb1⟩ := hb
              obtain ⟨q, rfl⟩ := Int.eq_ofNat_of_zero_le hb0
              obtain ⟨e', i', ie, c1, c2, c3, c4, c5, c6⟩ := chk_arr hc ha
              obtain ⟨hp, hvi⟩ := ev_ok h h1
              obtain ⟨hn', hsz, -⟩ := h.ob.objs o _ hlk
              have hs1 : (g o).sz = 1 := by
                rcases hsz with h0 | h0
                · omega
                · exact h0.1.symm
              have hqn : q < n := by omega
              have hg : Gives P g w (own S0 s.σ g) (Instr.indexAt t (a.eval x) (.int k (q : Int))) (fun r => K r s) := by
                refine ⟨.pe o (q : Int) 1 0, .pointer (some ⟨(g o).bl, q * 1 + 0, none⟩), hk, ⟨q, rfl, rfl, hvi, by omega, hs1.symm⟩, ?_⟩
                rw [hp]
                simp [Instr.indexAt, asIntOf, run_underlying c1 w, Instr.sureAddr, sizeOf, typeInfo, c5, c6, hqn, Addr.add]
                exact fun h => h.symm
              exact sf_gives hg (by simp only [execOp, hj])
            · exact hk.elim
          · exact hk.elim
        · exact hk.elim
    · exact hk.elim
  case index t x i =>
    simp only [vop] at hk
    obtain ⟨v, h1, hk⟩ := need_some hk
    obtain ⟨j, h2, hk⟩ := need_some hk
    obtain ⟨T, -, hk, hc⟩ := ty_ok hT hk
    split at hk
    · rename_i hnk
      obtain ⟨k, hj⟩ := asI_ok (w := w) (g := g) (ow := own S0 s.σ g) h2 (fun y hy => ev_ok h hy)
      split at hk
      · have e : a.eval x = _ := ev_ok h h1
        exact sf_gives (indexStr_ok (k := k) hH (nk_string hc hnk) hk) (by simp only [execOp, e, hj])
      · exact hk.elim
    · rename_i hnk
      obtain ⟨k, hj⟩ := asI_ok (w := w) (g := g) (ow := own S0 s.σ g) h2 (fun y hy => ev_ok h hy)
      split at hk
      · rename_i cs
        obtain ⟨vs, e, hvs⟩ := ev_ok h h1
        split at hk
        · rename_i ha
          obtain ⟨q, hb, hk⟩ := hk
          rw [hH, decide_eq_true_eq] at hb
          subst hb
          obtain ⟨⟨off, ag, sz⟩, hx, hk⟩ := need_some hk
          simp only at hk
          split at hk
          · split at hk
            · rename_i y r hd
              obtain ⟨val, hr, hrun⟩ := arrIdx_ok (P := P) (k := k) hc ha hnk hx hvs hd
              exact sf_gives ⟨_, val, hk, hr, hrun⟩ (by simp only [execOp, e, hj])
            · exact hk.elim
          · exact hk.elim
        · exact hk.elim
      · exact hk.elim
    · exact hk.elim
  case extract t i =>
    simp only [vop] at hk
    obtain ⟨v, h1, hk⟩ := need_some hk
    split at hk
    · obtain ⟨x, h2, hk⟩ := need_some hk
      obtain ⟨vs, e, hvs⟩ := ev_ok h h1
      rw [nth_eq] at h2
      obtain ⟨u, h3, h4⟩ := RVs_at hvs i x h2
      exact sf_pure hk h4 (by simp [execOp, e, Instr.extract, show vs[i]? = some u by simpa using h3])
    · exact hk.elim
  all_goals cases hs
theorem vop_pure {K : V → S → Prop} (h : Rel w0 S0 N g s a.tmps w) (hk : vop H TT Tri o s K) (hn : Goes w0 S0 N a o next K) (hcall : ∀ c, o.op ≠ .call c) : o.wp P a w next Q := by
  obtain ⟨dst, op, ty', pos, aft, guard⟩ := o
  cases op
  case call c => exact (hcall c rfl).elim
  case move =>
    obtain ⟨v, val, h1, h2, h3⟩ := vop_soft hH hT h rfl hk
    exact fin_pure h hn h1 h2 h3
  case assign x =>
    simp only [vop] at hk
    obtain ⟨v, h1, h2⟩ := need_some hk
    exact fin_pure h hn h2 (ev_ok h h1) rfl
  case pick =>
    obtain ⟨v, val, h1, h2, h3⟩ := vop_soft hH hT h rfl hk
    exact fin_pure h hn h1 h2 h3
  case alloc t =>
    simp only [vop] at hk
    obtain ⟨T, -, hk, hc⟩ := ty_ok hT hk
    exact fin_made hn (alloc_ok h.bmp hc hk) rfl
  case box t x =>
    simp only [vop] at hk
    obtain ⟨v, h1, hk⟩ := need_some hk
    split at hk
    · rename_i k n f
      obtain ⟨T, -, hk, hc⟩ := ty_ok hT hk
      split at hk
      · split at hk
        · have e := ev_ok h h1; exact fin_made hn (boxA_ok h.bmp e hk) rfl
        · exact hk.elim
      · exact hk.elim
    · split at hk
      · rename_i hl
        have e := ev_ok h h1; exact fin_made hn (box_ok h.bmp e hl hk) rfl
      · exact hk.elim
  case build =>
    obtain ⟨v, val, h1, h2, h3⟩ := vop_soft hH hT h rfl hk
    exact fin_pure h hn h1 h2 h3
  case buildSlice t n ps =>
    simp only [vop] at hk
    obtain ⟨xs, h1, hk0⟩ := need_some hk
    clear hk
    split at hk0
    · rename_i x
      obtain ⟨T, -, hk, hc⟩ := ty_ok hT hk0
      clear hk0
      split at hk
      · rename_i hnk hl hcl hsm
        obtain ⟨ds, h2, hk⟩ := need_some hk
        obtain ⟨y, h3, h4⟩ := evps_one h1
        obtain ⟨e, hu⟩ := nk_slice hc hnk
        have hps : ps = #[(0, y)] := by rw [← Array.toList_inj]; exact h3
        subst hps
        exact fin_made hn (slice1_ok hc hu h (ev_ok h h4) hl (beq_iff.1 hcl) (of_decide_eq_true hsm) h2 hk) (by simp [execOp])
      · exact hk.elim
    · obtain ⟨T, -, hk, hc⟩ := ty_ok hT hk0
      clear hk0
      split at hk
      · rename_i hnk
        obtain ⟨e, hu⟩ := nk_slice hc hnk
        have hps : ps = #[] := by rw [← Array.toList_inj]; exact evps_nil h1
        subst hps
        exact fin_made hn (slice0_ok hc hu h hk) (by simp [execOp])
      · exact hk.elim
    · obtain ⟨T, -, hk, hc⟩ := ty_ok hT hk0
      obtain ⟨E, -, hk, hE⟩ := ty_ok hT hk
      clear hk0
      split at hk
      · rename_i hnk harr hcond
        simp only [Bool.and_eq_true, decide_eq_true_eq] at hcond
        obtain ⟨⟨c1, c2⟩, c3⟩ := hcond
        obtain ⟨z, h2, hk⟩ := need_some hk
        obtain ⟨cs, h3, hk⟩ := need_some hk
        obtain ⟨e, hu⟩ := nk_slice hc hnk
        exact fin_made hn (sliceN_ok hc hE harr hu h (us := ps.map fun (i, x) => (i, a.eval x)) (by simpa using evps_ok h h1) c1 (by simpa using c2) (partsOk_iff c3) h2 h3 hk) (by simp only [execOp])
      · exact hk.elim
  case load =>
    obtain ⟨v, val, h1, h2, h3⟩ := vop_soft hH hT h rfl hk
    exact fin_pure h hn h1 h2 h3
  case store t x y =>
    simp only [vop] at hk
    obtain ⟨p, h1, hk⟩ := need_some hk
    obtain ⟨v, h2, hk⟩ := need_some hk
    obtain ⟨T, -, hk, hc⟩ := ty_ok hT hk
    split at hk
    · rename_i k n f
      obtain ⟨s', w', h3, h4, h5⟩ := vstoreA_ok hc h (ev_ok h h1) (ev_ok h h2) hk
      have he : (execOp a.eval ⟨dst, .store t x y, ty', pos, aft, guard⟩).run P w = .ok .skip w' := by simp [execOp, h5]
      unfold Oper.wp
      rw [he]
      exact hn _ _ _ _ _ h3 h4 rfl
    · split at hk
      · rename_i hsz
        obtain ⟨s', w', h3, h4, h5⟩ := vstore_ok hc h (ev_ok h h1) (ev_ok h h2) hsz hk
        have he : (execOp a.eval ⟨dst, .store t x y, ty', pos, aft, guard⟩).run P w = .ok .skip w' := by simp [execOp, h5]
        unfold Oper.wp
        rw [he]
        exact hn _ _ _ _ _ h3 h4 rfl
      · exact hk.elim
  case nilCheck =>
    obtain ⟨v, val, h1, h2, h3⟩ := vop_soft hH hT h rfl hk
    exact fin_pure h hn h1 h2 h3
  case binOp =>
    obtain ⟨v, val, h1, h2, h3⟩ := vop_soft hH hT h rfl hk
    exact fin_pure h hn h1 h2 h3
  case unOp =>
    obtain ⟨v, val, h1, h2, h3⟩ := vop_soft hH hT h rfl hk
    exact fin_pure h hn h1 h2 h3
  case convert u t x =>
    by_cases hso : softO TT (.convert u t x) = true
    · obtain ⟨v, val, h1, h2, h3⟩ := vop_soft (o := ⟨dst, .convert u t x, ty', pos, aft, guard⟩) hH hT h hso hk
      exact fin_pure h hn h1 h2 h3
    · simp only [vop] at hk
      obtain ⟨v, h1, hk⟩ := need_some hk
      obtain ⟨U, hU, hk, hcu⟩ := ty_ok hT hk
      obtain ⟨T, hTT, hk, hc⟩ := ty_ok hT hk
      have hv := ev_ok h h1
      obtain ⟨du, iu, hu, -⟩ := chk_base hcu
      simp only [softO] at hso
      rw [← hTT] at hso
      have hnk : T.nk = 2 := by
        revert hso
        split
        · rename_i h9; intro _; exact h9
        · intro h9; exact absurd rfl h9
      rw [hnk] at hk
      simp only at hk
      obtain ⟨x', rfl⟩ : ∃ x', v = .s x' := by cases v <;> first | exact ⟨_, rfl⟩ | exact hk.elim
      · obtain ⟨E, -, hk, hE⟩ := ty_ok hT hk
        split at hk
        · rename_i hne hek
          have hv' : a.eval x = _ := hv
          obtain ⟨e, hue⟩ := nk_slice hc hnk
          have hel := (chk_slice hc hue).1
          have he := nk_int hE hne hek
          rw [hel] at he
          have hrun := Lib.run_convert_string_bytes (P := P) w u t e ⟨x'.toArray⟩ hu hue he
          have hkp : Kp (fun _ => False) w (Lib.bytesWorld w e ⟨x'.toArray⟩) := ⟨rfl, rfl, rfl, by rw [Lib.bytesWorld_size]; omega, fun k hk _ => Lib.bytesWorld_at_old w e _ k hk⟩
          refine fin_made hn ⟨_, _, s, g, _, hk, ?_, ?_, hrun⟩ (by simp only [execOp, hv'])
          · exact h.step (hkp.mono (fun _ h _ => h.elim)) (h.ob.keep hkp) (fun b hb => .inl hb) (Nat.le_refl _) (fun i hi hs => ⟨hs, rfl⟩) (fun t x hx => ⟨hx, fun _ _ => rfl⟩)
          · rw [hH]
            refine ⟨_, _, _, rfl, by simp [ByteArray.size], ⟨?_, fun h => by cases h⟩, ?_⟩
            · exact grownCap_ge w _ _ _
            · by_cases h0 : (⟨x'.toArray⟩ : ByteArray).size = 0
              · exact .inl h0
              · refine .inr ⟨by simp, w.heap.size, 0, rfl, fun hb => ?_, by rw [Lib.bytesWorld_size]; omega, fun j hj => ⟨⟨Value.int .u8 ((x'.getD j 0).toNat : Int), ?_, ?_⟩, trivial⟩⟩
                · rcases hb with hb | ⟨i, h7, h8, h9⟩
                  · have := h.dj _ hb; have := h.kp.size; omega
                  · have := h.ob.lt h7 h8; omega
                · have := Lib.bytesWorld_cell w e ⟨x'.toArray⟩ j hj
                  simpa using this
                · simp [RC, hd]
        · exact hk.elim
  case makeFunc =>
    obtain ⟨v, val, h1, h2, h3⟩ := vop_soft hH hT h rfl hk
    exact fin_pure h hn h1 h2 h3
  case makeSlice t x y =>
    simp only [vop] at hk
    obtain ⟨u, h1, hk⟩ := need_some hk
    obtain ⟨v, h2, hk⟩ := need_some hk
    obtain ⟨k1, m, rfl⟩ : ∃ k m, u = .i k m := by cases u <;> first | exact ⟨_, _, rfl⟩ | exact hk.elim
    obtain ⟨k2, n, rfl⟩ : ∃ k n, v = .i k n := by cases v <;> first | exact ⟨_, _, rfl⟩ | exact hk.elim
    have e1 : a.eval x = .int k1 m := ev_ok h h1
    have e2 : a.eval y = .int k2 n := ev_ok h h2
    obtain ⟨T, -, hk, hc⟩ := ty_ok hT hk
    obtain ⟨E, -, hk, hE⟩ := ty_ok hT hk
    split at hk
    · rename_i hnk ha
      obtain ⟨z, hz, hk⟩ := need_some hk
      obtain ⟨e, hu⟩ := nk_slice hc hnk
      exact fin_made hn (makeSlice_ok (k1 := k1) (k2 := k2) hH hc hE ha hu h.bmp hz hk) (by simp only [execOp, e1, e2])
    · exact hk.elim
  case slice =>
    obtain ⟨v, val, h1, h2, h3⟩ := vop_soft hH hT h rfl hk
    exact fin_pure h hn h1 h2 h3
  case fieldAddr =>
    obtain ⟨v, val, h1, h2, h3⟩ := vop_soft hH hT h rfl hk
    exact fin_pure h hn h1 h2 h3
  case field =>
    obtain ⟨v, val, h1, h2, h3⟩ := vop_soft hH hT h rfl hk
    exact fin_pure h hn h1 h2 h3
  case indexAddr =>
    obtain ⟨v, val, h1, h2, h3⟩ := vop_soft hH hT h rfl hk
    exact fin_pure h hn h1 h2 h3
  case index =>
    obtain ⟨v, val, h1, h2, h3⟩ := vop_soft hH hT h rfl hk
    exact fin_pure h hn h1 h2 h3
  case extract =>
    obtain ⟨v, val, h1, h2, h3⟩ := vop_soft hH hT h rfl hk
    exact fin_pure h hn h1 h2 h3
  case makeMap t r =>
    simp only [vop] at hk
    split at hk
    · exact hk.elim
    · obtain ⟨T, -, hk, hc⟩ := ty_ok hT hk
      split at hk
      · obtain ⟨h1, h2, h3, hK⟩ := fresh_mem hk
        exact fin_made (m := Instr.makeMap t none) hn ⟨_, .map (some w.heap.size), _, _, w.alloc (.map #[] 0), hK, h.bmp.add (.ms []) ⟨w.heap.size, 0, false, 0, 0⟩ h1 h2 (kp_alloc w _) (fun _ => Nat.le_refl _) (fun ow hsub => ⟨rfl, #[], 0, heap_alloc_new w _, rfl⟩), ⟨by simp, by simp⟩, rfl⟩ rfl
      · exact hk.elim
  case lookup t x i ok =>
    simp only [vop] at hk
    split at hk
    · exact hk.elim
    · obtain ⟨v, h1, hk1⟩ := need_some hk
      obtain ⟨y, h2, hk2⟩ := need_some hk1
      obtain ⟨T, -, hk3, hc⟩ := ty_ok hT hk2
      split at hk3
      · rename_i hnk hmb
        split at hk3
        · rename_i j n
          split at hk3
          · rename_i S hl
            obtain ⟨e1, e2⟩ := ev_ok h h1
            have e3 : a.eval i = .int .i64 n := ev_ok h h2
            obtain ⟨hvi, es, ck, hb, hS⟩ := h.ob.objs j _ hl
            obtain ⟨k, e, i', hu, hk0, he, hz⟩ := chk_mb hc hnk hmb
            refine fin_pure (val := .bool (decide (n ∈ S))) h hn hk3 (by rw [hH]; rfl) ?_
            simp [execOp, e1, e3, lookup_run hu hk0 he hz hb hS]
          · exact hk3.elim
        · exact hk3.elim
      · exact hk3.elim
  case mapUpdate t m k x =>
    simp only [vop] at hk
    obtain ⟨v, h1, hk1⟩ := need_some hk
    obtain ⟨y, h2, hk2⟩ := need_some hk1
    obtain ⟨z, h3, hk3⟩ := need_some hk2
    obtain ⟨T, -, hk4, hc⟩ := ty_ok hT hk3
    split at hk4
    · rename_i hnk hmb
      split at hk4
      · rename_i j n
        split at hk4
        · rename_i S hl
          obtain ⟨hno, hk5⟩ := hk4
          rw [hH] at hno
          have hno : n ∉ S := by simpa using hno
          obtain ⟨e1, e2⟩ := ev_ok h h1
          have e3 : a.eval k = .int .i64 n := ev_ok h h2
          have e4 : a.eval x = .bool true := ev_ok h h3
          obtain ⟨hvi, es, ck, hb, hS⟩ := h.ob.objs j _ hl
          obtain ⟨k0, e, i', hu, hk0, he, hz⟩ := chk_mb hc hnk hmb
          have hlt : (g j).bl < w.heap.size := blk_size hb
          have hrun := update_run (es := es) (clock := ck) hu hk0 hb hS hno
          have he : (execOp a.eval ⟨dst, .mapUpdate t m k x, ty', pos, aft, guard⟩).run P w = .ok .skip (w.putObj (g j).bl (.map (es.push { key := .int .i64 n, val := .bool true, born := ck }) (ck + 1))) := by simp [execOp, e1, e3, e4, hrun]
          unfold Oper.wp
          rw [he]
          exact hn _ _ _ _ _ hk5 (h.upd hl hvi (kp_putObj w _ _) ⟨hvi, _, _, World.putObj_heap_same hlt, mapIs_push hS n ck⟩) rfl
        · exact hk4.elim
      · exact hk4.elim
    · exact hk4.elim
  all_goals exact hk.elim
end
end Go.Proofs.Ytilmhjojbolbeaa.AM

namespace Go.Proofs.Ytilmhjojbolbeaa.AM
open Go Go.RowKit

section
variable {P : Program} {H : (α : Type) → α → α} {g g' : G} {w w' w0 : World} {ow : Nat → Prop} {S0 : Fr} {N : Nat} {s : S} {tmps : Array Value}
/-- the same object said otherwise -/
theorem Rel.said (h : Rel w0 S0 N g s tmps w) {o : Nat} {x x' : O} (hl : look o s.σ = some x) (hx : RO (g o) (RVs g w (own S0 s.σ g)) w (own S0 s.σ g) x') : Rel w0 S0 N g { s with σ := AM.upd o x' s.σ } tmps w := by
  have hi : ∀ i, (look i (AM.upd o x' s.σ)).isSome = true → (look i s.σ).isSome = true := fun i hi => by
    rw [look_upd] at hi
    split at hi
    · rename_i e; subst e; rw [hl]; rfl
    · exact hi
  refine h.step (Kp.refl _ _) ⟨fun i y hi => RO_own (fun b => own_upd.symm) ?_, fun i j hi' hj' => h.ob.inj i j (hi i hi') (hi j hj')⟩ (fun b hb => .inl (mine_upd.1 hb)) (Nat.le_refl _) (fun i hi' hs => ⟨hi i hs, rfl⟩) (fun t x hx => ⟨hx, fun _ _ => rfl⟩)
  simp only at hi
  rw [look_upd] at hi
  split at hi
  · rename_i e; subst e
    rw [hl] at hi; cases hi; exact hx
  · exact h.ob.objs i y hi
theorem clear_ok (hH : ∀ α x, H α x = x) {t e : TypeId} {T E : TS} (hc : chkB P t T = true) (hE : chkB P T.el E = true) (ha : E.arr = none) (hu : P.underlying t = some (.slice e)) (h : Rel w0 S0 N g s tmps w) {o sz : Nat} {lo n m : Int} {full : Bool} {v : Value} {cs cs' z : List C} {e' : Nat}
    (hx : RV g w (own S0 s.σ g) (.sl o lo n sz full) v) (hlk : look o s.σ = some (.ar m cs e')) (hz : toCs E.z = some z) (hcs : mixs (fun ix => decide (lo ≤ AM.hd ix ∧ AM.hd ix < lo + n)) (drs z) cs = some cs') (hsz : sz = T.esz) {K : V → S → Prop} {ty' : TypeId} (hk : K (.tu []) { s with σ := AM.upd o (.ar m cs' e') s.σ }) :
    Made P w0 S0 N tmps w (Builtin.clear_ #[t] ty' #[v]) K := by
  obtain ⟨hel, i, hi, hisz, hby, hpos, hbp, -⟩ := chk_slice hc hu
  obtain ⟨i', zv, hi', hz0, hzz, hzl, hzs⟩ := chk_zero hE ha
  rw [hel, hi] at hi'; cases hi'
  have hEsz : E.sz = T.esz := by
    obtain ⟨d, i'', h1, h2, h3, h4⟩ := chk_base hE
    rw [hel, hi] at h2; cases h2; omega
  have hRO := h.ob.objs o _ hlk
  obtain ⟨a, len, cap, rfl, rfl, hr⟩ := hx
  obtain ⟨m1, m2⟩ := mixs_length hcs
  have hh : Head (fun ix => decide (lo ≤ AM.hd ix ∧ AM.hd ix < lo + (len : Int))) := fun _ _ _ => rfl
  obtain ⟨hm, hl2, hR⟩ := hRO
  by_cases h0 : len = 0
  · subst h0
    have hrun : ∀ a : Option Addr, (Builtin.clear_ #[t] ty' #[.slice a 0 cap]).run P w = .ok (.tuple #[]) w := fun a => by cases a <;> simp [Builtin.clear_, run_underlying hu w]
    exact ⟨.tu [], .tuple #[], _, g, w, hk, h.said hlk ⟨hm, hl2.imp id (fun ⟨a, b⟩ => ⟨by omega, b⟩), hR.imp id fun ⟨a, b, c⟩ => ⟨a, b, fun q hq => RCs_mix hh _ _ _ hcs _ _ _ _ (fun ht => by simp [AM.hd] at ht; omega) (fun _ => c q hq)⟩⟩, ⟨#[], rfl, trivial⟩, hrun a⟩
  · rcases hr with ⟨rfl, -⟩ | ⟨hvi, l, rfl, rfl, hcap, hln, hgs, -⟩
    · exact absurd rfl h0
    · rcases hR with ⟨h3, _⟩ | ⟨_, ⟨cur, hb, hcur, hle⟩, hR⟩
      · rw [hvi] at h3; cases h3
      · have hcl : cs.length = (g o).sz := (hl2.resolve_left (by omega)).1
        have hgz : (g o).sz = T.esz := by omega
        have hzv : zv.cells.size = T.esz := by omega
        have hlm : (l + len) * T.esz ≤ (g o).ln * T.esz := Nat.mul_le_mul_right _ hln
        rw [Nat.add_mul] at hlm
        obtain ⟨zs, hzs'⟩ : ∃ zs, zs = (Builtin.zeroCells zv.cells len).toList := ⟨_, rfl⟩
        have hzlen : zs.length = len * T.esz := by rw [hzs']; simp [Builtin.zeroCells, hzv]
        have hzat : ∀ q k, q < len → k < T.esz → zs[q * T.esz + k]? = zv.cells.toList[k]? := fun q k hq hkk => by
          have hlt : q * T.esz + k < len * T.esz := by have := Nat.mul_le_mul_right T.esz (show q + 1 ≤ len by omega); rw [Nat.add_mul, Nat.one_mul] at this; omega
          have hmod : (q * T.esz + k) % T.esz = k := by rw [Nat.mul_comm, Nat.mul_add_mod]; exact Nat.mod_eq_of_lt hkk
          rw [hzs']
          simp only [Builtin.zeroCells, Array.getElem?_toList, Array.getElem?_map, Array.getElem?_range, hzv, hlt, if_true, Option.map_some, hmod]
          have hks : k < zv.cells.size := by omega
          rw [getElem!_pos zv.cells k hks]; simp [hks]
        have hz1 : ∀ u ∈ zs, u.oneCell' = true := fun u hu' => by
          obtain ⟨j, hj, rfl⟩ := List.mem_iff_getElem.1 hu'
          have hj' : j < len * T.esz := by omega
          have hk1 : j % T.esz < T.esz := Nat.mod_lt _ hpos
          have hq1 : j / T.esz < len := Nat.div_lt_of_lt_mul (by rw [Nat.mul_comm]; exact hj')
          have h9 := hzat (j / T.esz) (j % T.esz) hq1 hk1
          rw [show j / T.esz * T.esz + j % T.esz = j by rw [Nat.mul_comm]; exact Nat.div_add_mod j _, List.getElem?_eq_getElem hj] at h9
          obtain ⟨c, hc1⟩ : ∃ c, z[j % T.esz]? = some c := ⟨_, List.getElem?_eq_getElem (by have := (toCs_at hz).1; omega)⟩
          obtain ⟨v', hv1, hv2⟩ := zero_cells hzz hz _ c hc1
          rw [← h9] at hv1
          cases hv1
          exact RC_one (hv2 w (fun _ => False))
        obtain ⟨new, hnew⟩ : ∃ new, new = (cur.toList.take (l * T.esz) ++ zs ++ cur.toList.drop (l * T.esz + zs.length)).toArray := ⟨_, rfl⟩
        have hcurl : (g o).ln * T.esz ≤ cur.size := by rw [← hgz]; exact hle
        have hns : new.size = cur.size := by rw [hnew]; simp; omega
        have hin : ∀ k, k < len * T.esz → new[l * T.esz + k]? = zs[k]? := fun k hk' => by
          rw [hnew, List.getElem?_toArray, List.getElem?_append_left (by simp; omega), List.getElem?_append_right (by simp; omega)]
          congr 1; simp; omega
        have hout : ∀ p, p < l * T.esz ∨ l * T.esz + len * T.esz ≤ p → new[p]? = cur[p]? := fun p hp => by
          rw [hnew, List.getElem?_toArray]
          rcases hp with hp | hp
          · rw [List.append_assoc, List.getElem?_append_left (by simp; omega), List.getElem?_take, if_pos hp]; simp
          · rw [List.getElem?_append_right (by simp; omega), List.getElem?_drop]
            simp only [List.length_append, List.length_take, hzlen, Array.length_toList]
            rw [show l * T.esz + len * T.esz + (p - (min (l * T.esz) cur.size + len * T.esz)) = p by omega]
            simp
        have hown : own S0 s.σ g (g o).bl := .inr ⟨o, by rw [hlk]; rfl, hvi, rfl⟩
        have hkb : ∀ b, ¬ own S0 s.σ g b → b < w.heap.size → (w.setRow (g o).bl new).heap[b]? = w.heap[b]? := fun b hb' _ => setRow_other w _ b _ (fun e' => hb' (e' ▸ hown))
        have hst := run_storeCells_at P (g o).bl (l * T.esz) e' zs 0 cur w hb (by omega) hz1
        rw [Nat.add_zero, ← hnew] at hst
        refine ⟨.tu [], .tuple #[], _, g, _, hk, h.upd hlk hvi (kp_setRow w _ new) ⟨hm, .inr ⟨by omega, by omega⟩, .inr ⟨hvi, ⟨_, setRow_heap w _ _ _ _ _ hb, by omega, by rw [hns]; exact hle⟩, fun r hr => ?_⟩⟩, ⟨#[], rfl, trivial⟩, ?_⟩
        · rw [RCs_iff]
          intro k c' hkc
          rw [blk_cell (setRow_heap w _ _ _ _ _ hb)]
          obtain ⟨d, c, hd1, hc1, hmx⟩ := mixs_at hcs k c' hkc
          have hkl : k < T.esz := by have := (List.getElem?_eq_some_iff.1 hc1).1; omega
          rw [drs_at, Option.map_eq_some_iff] at hd1
          obtain ⟨d', hd1, rfl⟩ := hd1
          by_cases hin' : l ≤ r ∧ r < l + len
          · obtain ⟨q, rfl⟩ : ∃ q, r = l + q := ⟨r - l, by omega⟩
            obtain ⟨v', hv1, hv2⟩ := zero_cells hzz hz k d' hd1
            refine ⟨v', ?_, RC_mix hh _ _ _ hmx _ _ _ (fun _ => RC_dr _ _ _ _ (hv2 _ _)) (fun ht => ?_)⟩
            · have h9 := hzat q k (by omega) hkl
              rw [hv1] at h9
              have h10 := hin (q * T.esz + k) (by have := Nat.mul_le_mul_right T.esz (show q + 1 ≤ len by omega); rw [Nat.add_mul, Nat.one_mul] at this; omega)
              rw [h9] at h10
              rw [hgz, show (l + q) * T.esz + k = l * T.esz + (q * T.esz + k) by rw [Nat.add_mul]; omega]
              exact h10
            · simp [AM.hd] at ht; omega
          · obtain ⟨v', hv1, hv2⟩ := (RCs_iff _ _ _ _).1 (hR r hr) k c hc1
            rw [blk_cell hb] at hv1
            refine ⟨v', ?_, RC_mix hh _ _ _ hmx _ _ _ (fun ht => ?_) (fun _ => RC_keep hkb (by simp) (fun _ _ h => h) _ _ _ hv2)⟩
            · rw [hout _ ?_]; exact hv1
              rw [hgz]
              by_cases hrl : r < l
              · left
                have := Nat.mul_le_mul_right T.esz (show r + 1 ≤ l by omega); rw [Nat.add_mul, Nat.one_mul] at this; omega
              · right
                have := Nat.mul_le_mul_right T.esz (show l + len ≤ r by omega); rw [Nat.add_mul] at this; omega
            · simp [AM.hd] at ht; omega
        · cases len with
          | zero => exact absurd rfl h0
          | succ len => simp [Builtin.clear_, run_underlying hu w, zeroValue, typeInfo, hi, hz0, ← hzs', hsz, hst]
end
end Go.Proofs.Ytilmhjojbolbeaa.AM

namespace Go.Proofs.Ytilmhjojbolbeaa.AM
open Go Go.RowKit

section
variable {P : Program} {H : (α : Type) → α → α} {g g' : G} {w w' w0 : World} {ow : Nat → Prop} {S0 : Fr} {N : Nat} {s : S} {tmps : Array Value}
/-- a stretch of a row is written over -/
theorem row_over (h : Rel w0 S0 N g s tmps w) {o l cnt : Nat} {m : Int} {cs ds cs' : List C} {e' : Nat} (hlk : look o s.σ = some (.ar m cs e')) (hvi : (g o).vi = false) (hln : l + cnt ≤ (g o).ln) (h0 : cnt ≠ 0)
    (hcs : mixs (fun ix => decide ((l : Int) ≤ AM.hd ix ∧ AM.hd ix < (l : Int) + (cnt : Int))) ds cs = some cs') {zs : List Value} (hzlen : zs.length = cnt * (g o).sz) (hz1 : ∀ u ∈ zs, u.oneCell' = true)
    (hzv : ∀ q k c, q < cnt → ds[k]? = some c → ∃ v, zs[q * (g o).sz + k]? = some v ∧ RC w (own S0 s.σ g) c [((l + q : Nat) : Int)] v) :
    ∃ w', Rel w0 S0 N g { s with σ := AM.upd o (.ar m cs' e') s.σ } tmps w' ∧ (storeCells ⟨(g o).bl, l * (g o).sz, none⟩ zs 0).run P w = .ok () w' := by
  have hRO := h.ob.objs o _ hlk
  obtain ⟨m1, m2⟩ := mixs_length hcs
  have hh : Head (fun ix => decide ((l : Int) ≤ AM.hd ix ∧ AM.hd ix < (l : Int) + (cnt : Int))) := fun _ _ _ => rfl
  obtain ⟨hm, hl2, hR⟩ := hRO
  rcases hR with ⟨h3, _⟩ | ⟨_, ⟨cur, hb, hcur, hle⟩, hR⟩
  · rw [hvi] at h3; cases h3
  · obtain ⟨hcl, hpos⟩ := hl2.resolve_left (by omega)
    have hlm : (l + cnt) * (g o).sz ≤ (g o).ln * (g o).sz := Nat.mul_le_mul_right _ hln
    rw [Nat.add_mul] at hlm
    obtain ⟨new, hnew⟩ : ∃ new, new = (cur.toList.take (l * (g o).sz) ++ zs ++ cur.toList.drop (l * (g o).sz + zs.length)).toArray := ⟨_, rfl⟩
    have hns : new.size = cur.size := by rw [hnew]; simp; omega
    have hin : ∀ k, k < cnt * (g o).sz → new[l * (g o).sz + k]? = zs[k]? := fun k hk' => by
      rw [hnew, List.getElem?_toArray, List.getElem?_append_left (by simp; omega), List.getElem?_append_right (by simp; omega)]
      congr 1; simp; omega
    have hout : ∀ p, p < l * (g o).sz ∨ l * (g o).sz + cnt * (g o).sz ≤ p → new[p]? = cur[p]? := fun p hp => by
      rw [hnew, List.getElem?_toArray]
      rcases hp with hp | hp
      · rw [List.append_assoc, List.getElem?_append_left (by simp; omega), List.getElem?_take, if_pos hp]; simp
      · rw [List.getElem?_append_right (by simp; omega), List.getElem?_drop]
        simp only [List.length_append, List.length_take, hzlen, Array.length_toList]
        rw [show l * (g o).sz + cnt * (g o).sz + (p - (min (l * (g o).sz) cur.size + cnt * (g o).sz)) = p by omega]
        simp
    have hown : own S0 s.σ g (g o).bl := .inr ⟨o, by rw [hlk]; rfl, hvi, rfl⟩
    have hkb : ∀ b, ¬ own S0 s.σ g b → b < w.heap.size → (w.setRow (g o).bl new).heap[b]? = w.heap[b]? := fun b hb' _ => setRow_other w _ b _ (fun e' => hb' (e' ▸ hown))
    have hst := run_storeCells_at P (g o).bl (l * (g o).sz) e' zs 0 cur w hb (by omega) hz1
    rw [Nat.add_zero, ← hnew] at hst
    refine ⟨_, h.upd hlk hvi (kp_setRow w _ new) ⟨hm, .inr ⟨by omega, by omega⟩, .inr ⟨hvi, ⟨_, setRow_heap w _ _ _ _ _ hb, by omega, by rw [hns]; exact hle⟩, fun r hr => ?_⟩⟩, hst⟩
    rw [RCs_iff]
    intro k c' hkc
    rw [blk_cell (setRow_heap w _ _ _ _ _ hb)]
    obtain ⟨d, c, hd1, hc1, hmx⟩ := mixs_at hcs k c' hkc
    have hkl : k < (g o).sz := by have := (List.getElem?_eq_some_iff.1 hc1).1; omega
    by_cases hin' : l ≤ r ∧ r < l + cnt
    · obtain ⟨q, rfl⟩ : ∃ q, r = l + q := ⟨r - l, by omega⟩
      obtain ⟨v', hv1, hv2⟩ := hzv q k d (by omega) hd1
      refine ⟨v', ?_, RC_mix hh _ _ _ hmx _ _ _ (fun _ => RC_keep hkb (by simp) (fun _ _ h => h) _ _ _ hv2) (fun ht => ?_)⟩
      · have h10 := hin (q * (g o).sz + k) (by have := Nat.mul_le_mul_right (g o).sz (show q + 1 ≤ cnt by omega); rw [Nat.add_mul, Nat.one_mul] at this; omega)
        rw [hv1] at h10
        rw [show (l + q) * (g o).sz + k = l * (g o).sz + (q * (g o).sz + k) by rw [Nat.add_mul]; omega]
        exact h10
      · simp [AM.hd] at ht; omega
    · obtain ⟨v', hv1, hv2⟩ := (RCs_iff _ _ _ _).1 (hR r hr) k c hc1
      rw [blk_cell hb] at hv1
      refine ⟨v', ?_, RC_mix hh _ _ _ hmx _ _ _ (fun ht => ?_) (fun _ => RC_keep hkb (by simp) (fun _ _ h => h) _ _ _ hv2)⟩
      · rw [hout _ ?_]; exact hv1
        by_cases hrl : r < l
        · left
          have := Nat.mul_le_mul_right (g o).sz (show r + 1 ≤ l by omega); rw [Nat.add_mul, Nat.one_mul] at this; omega
        · right
          have := Nat.mul_le_mul_right (g o).sz (show l + cnt ≤ r by omega); rw [Nat.add_mul] at this; omega
      · simp [AM.hd] at ht; omega
/-- what is copied out of memory -/
theorem copy_go (hH : ∀ α x, H α x = x) {t t' e : TypeId} {T : TS} (hc : chkB P t T = true) (hu : P.underlying t = some (.slice e)) (h : Rel w0 S0 N g s tmps w) {o sz len : Nat} {lo n m : Int} {full : Bool} {v u : Value} {cs cs' ds : List C} {e' : Nat} {ty' : TypeId}
    (hx : RV g w (own S0 s.σ g) (.sl o lo n sz full) v) (hlk : look o s.σ = some (.ar m cs e')) (hcs : mixs (fun ix => decide (lo ≤ AM.hd ix ∧ AM.hd ix < lo + cnt2 len n)) (frs (-lo) ds) cs = some cs') (hsz : sz = T.esz) (hds : ds.length = T.esz)
    (hlen : (Builtin.lenOf u).run P w = .ok len w) (hsrc : ∀ k, k ≤ len → ∃ L : List Value, (Builtin.firstCells T.esz k u).run P w = .ok L.toArray w ∧ RL w (own S0 s.σ g) ds k T.esz L) {K : V → S → Prop} (hk : K (.i .i64 (cnt2 len n)) { s with σ := AM.upd o (.ar m cs' e') s.σ }) :
    Made P w0 S0 N tmps w (Builtin.copy_ #[t, t'] ty' #[v, u]) K := by
  obtain ⟨hel, i, hi, hisz, hby, hpos, hbp, -⟩ := chk_slice hc hu
  have hRO := h.ob.objs o _ hlk
  obtain ⟨a, dl, cap, rfl, rfl, hr⟩ := hx
  obtain ⟨hm, hl2, hR⟩ := hRO
  have hcnt : cnt2 (len : Int) (dl : Int) = ((Nat.min len dl : Nat) : Int) := by
    unfold cnt2
    have : Nat.min len dl = min len dl := rfl
    split <;> omega
  rw [hcnt] at hcs hk
  obtain ⟨L, hL1, hL2⟩ := hsrc (Nat.min len dl) (Nat.min_le_left _ _)
  have hh : Head (fun ix => decide (lo ≤ AM.hd ix ∧ AM.hd ix < lo + ((Nat.min len dl : Nat) : Int))) := fun _ _ _ => rfl
  have hrest : ∀ w', (match a with | some a => (storeCells a L 0).run P w = .ok () w' | none => w' = w) → (Builtin.copy_ #[t, t'] ty' #[.slice a dl cap, u]).run P w = .ok (.int .i64 ((Nat.min len dl : Nat) : Int)) w' := fun w' hw => by
    cases a with
    | none => obtain rfl : w' = w := hw; simp [Builtin.copy_, run_underlying hu, hlen, sizeOf, typeInfo, hi, hisz, hL1, goInt]
    | some a => simp only at hw; simp [Builtin.copy_, run_underlying hu, hlen, sizeOf, typeInfo, hi, hisz, hL1, goInt, hw]
  by_cases h0 : Nat.min len dl = 0
  · have hLn : L = [] := List.eq_nil_of_length_eq_zero (by rw [hL2.1, h0, Nat.zero_mul])
    refine ⟨_, _, _, g, w, hk, h.said hlk ⟨hm, hl2.imp id (fun ⟨a, b⟩ => ⟨by have := (mixs_length hcs).2; omega, b⟩), hR.imp id fun ⟨a, b, c⟩ => ⟨a, b, fun q hq => RCs_mix hh _ _ _ hcs _ _ _ _ (fun ht => by simp [AM.hd, h0] at ht; omega) (fun _ => c q hq)⟩⟩, rfl, hrest w ?_⟩
    cases a with
    | none => rfl
    | some a => rw [hLn]; rfl
  · have hdl : Nat.min len dl ≤ dl := Nat.min_le_right _ _
    rcases hr with ⟨rfl, -⟩ | ⟨hvi, l, rfl, rfl, hcap, hln, hgs, -⟩
    · omega
    · have hgz : (g o).sz = T.esz := by omega
      obtain ⟨w', k1, k2⟩ := row_over (P := P) h (l := l) (cnt := Nat.min len dl) hlk hvi (by omega) h0 hcs (zs := L) (by rw [hgz]; exact hL2.1) (RL_one hL2 hpos) (fun q k c hq hc' => by
        rw [frs_at, Option.map_eq_some_iff] at hc'
        obtain ⟨c0, hc0, rfl⟩ := hc'
        obtain ⟨u, hu1, hu2⟩ := hL2.2.2 q hq k c0 hc0
        refine ⟨u, by rw [hgz]; exact hu1, RC_fr _ _ _ _ _ ?_⟩
        rw [show ((l + q : Nat) : Int) + -(l : Int) = (q : Int) by omega]
        exact hu2)
      refine ⟨_, _, _, g, w', hk, k1, rfl, hrest w' ?_⟩
      simp only
      rw [hsz, ← hgz]; exact k2
theorem vcopy_ok (hH : ∀ α x, H α x = x) {t t' e : TypeId} {T : TS} (hc : chkB P t T = true) (hu : P.underlying t = some (.slice e)) (h : Rel w0 S0 N g s tmps w) {x y : V} {v u : Value} {ty' : TypeId} (hx : RV g w (own S0 s.σ g) x v) (hy : RV g w (own S0 s.σ g) y u) {K : V → S → Prop} (hk : vcopy H s T x y K) :
    Made P w0 S0 N tmps w (Builtin.copy_ #[t, t'] ty' #[v, u]) K := by
  obtain ⟨hel, i, hi, hisz, hby, hpos, hbp, -⟩ := chk_slice hc hu
  unfold vcopy at hk
  simp only [hH] at hk
  split at hk
  · rename_i o lo n sz full
    split at hk
    · rename_i m cs e' hlk
      split at hk
      · rename_i k ds f hbor
        obtain ⟨cs', hcs, ⟨hsz, hds⟩, hk⟩ := need_some hk
        have hds := beq_iff.1 hds
        obtain ⟨a, len, cap, hu', rfl, hle, hps, L, hL, hLc⟩ := cont_y h.ob (.inr hds) hy hbor
        subst hu'
        refine copy_go hH hc hu h hx hlk hcs (beq_iff.1 hsz) hds (by simp [Builtin.lenOf]) (fun k hk => ?_) hk
        have hll : (L.take (k * T.esz)).length = k * T.esz := by
          have := Nat.mul_le_mul_right T.esz hk
          rw [List.length_take, hL.1]; omega
        have hRL : RL w (own S0 s.σ g) ds k T.esz (L.take (k * T.esz)) := ⟨hll, .inr hds, fun q hq k' c hc' => by
          obtain ⟨v', hv1, hv2⟩ := hL.2.2 q (by omega) k' c hc'
          refine ⟨v', ?_, hv2⟩
          have hk' : k' < T.esz := by have := (List.getElem?_eq_some_iff.1 hc').1; omega
          rw [List.getElem?_take, if_pos (by have := Nat.mul_le_mul_right T.esz (show q + 1 ≤ k by omega); rw [Nat.add_mul, Nat.one_mul] at this; omega)]
          exact hv1⟩
        refine ⟨L.take (k * T.esz), ?_, hRL⟩
        rcases hLc with h0 | ⟨b, o', rfl, hcell⟩
        · have hk0 : k = 0 := by omega
          subst hk0
          have : L.take (0 * T.esz) = [] := by simp
          rw [this]
          cases a with
          | none => simp [Builtin.firstCells]
          | some a => exact run_firstCells_some w T.esz 0 a len cap [] (by simp) (fun j u h => by simp at h)
        · refine run_firstCells_some w T.esz k _ len cap _ hll (fun j u hj => ?_)
          rw [Addr.add_lit]
          refine hcell j u ?_
          rw [List.getElem?_take] at hj
          split at hj
          · exact hj
          · cases hj
      · rename_i a hbor
        obtain ⟨cs', hcs, ⟨hsz, hds⟩, hk⟩ := need_some hk
        have hds := beq_iff.1 hds
        have hys : y = .s a := by
          cases y <;> simp only [bor] at hbor <;> first | (cases hbor; rfl) | (split at hbor <;> cases hbor) | cases hbor | (split at hbor <;> (try split at hbor) <;> cases hbor)
        subst hys
        obtain rfl : u = _ := hy
        have hes : T.esz = 1 := by simpa using hds.symm
        refine copy_go hH hc hu h (len := a.length) hx hlk hcs (beq_iff.1 hsz) hds (by simp [Builtin.lenOf, ByteArray.size]) (fun k hk => ?_) hk
        refine ⟨(a.take k).map fun b => Value.int .u8 b.toNat, ?_, by simp [hes]; omega, .inr hds, fun q hq k' c hc' => ?_⟩
        · simp [Builtin.firstCells]
        · have hk' : k' < 1 := by have := (List.getElem?_eq_some_iff.1 hc').1; simpa using this
          have hk0 : k' = 0 := by omega
          subst hk0
          simp at hc'
          subst hc'
          have hqa : q < a.length := by omega
          refine ⟨_, ?_, rfl⟩
          simp [hes, hq, hqa, AM.hd]
      · exact hk.elim
    · exact hk.elim
  · exact hk.elim
end
end Go.Proofs.Ytilmhjojbolbeaa.AM

namespace Go.Proofs.Ytilmhjojbolbeaa.AM
open Go

section
variable {P : Program} {H : (α : Type) → α → α} {TT : Nat → TS} {Tri : Spec} {w0 : World} {S0 : Fr} {N : Nat} {g : G} {s : S} {a : Act} {w : World} {next : Act → World → Prop} {Q : Exit → Act → World → Prop} {o : Oper}
theorem len_run {t : TypeId} {ty' : TypeId} {x : Value} {n : Nat} (h : (∃ e p c, P.underlying t = some (.slice e) ∧ x = .slice p n c) ∨ (P.underlying t = some .string ∧ ∃ s, x = .string s ∧ s.size = n)) :
    (Builtin.len_ #[t] ty' #[x]).run P w = .ok (.int .i64 n) w := by
  rcases h with ⟨e, p, c, hu, rfl⟩ | ⟨hu, s, rfl, rfl⟩ <;> simp [Builtin.len_, run_und hu, goInt]
theorem callFunc_run {f : FuncId} (hf : okF P f = true) (args : Array Value) : (callFunc f args).run P w = .ok (.enter f args) w := by
  unfold okF at hf
  split at hf
  · rename_i fn h1
    simp only [Bool.and_eq_true, bne_iff_ne, ne_eq] at hf
    obtain ⟨h2, h3⟩ := hf
    obtain ⟨c, hc⟩ := Option.isSome_iff_exists.1 h3
    simp [callFunc, h1, h2, hc]
  · cases hf
section
variable (hH : ∀ α x, H α x = x) (hT : TTok P TT)
include hH hT
theorem vop_look {K : V → S → Prop} (h : Rel w0 S0 N g s a.tmps w) (hs : softO TT o.op = true) (hk : vop H TT Tri o s K) : Looks P g (own S0 s.σ g) s a o w K := by
  by_cases hc : ∃ c, o.op = .call c
  · obtain ⟨c, hc⟩ := hc
    obtain ⟨dst, op, ty', pos, aft, guard⟩ := o
    simp only at hc
    subst hc
    obtain ⟨callee, args, argTypes⟩ := c
    simp only [vop] at hk
    obtain ⟨xs, h1, hk0⟩ := need_some hk
    clear hk
    have hvs := evs_ok h h1
    cases callee with
    | invoke => cases hs
    | value f => cases hs
    | builtin b =>
      have hargs : (args.map a.eval).toList = args.toList.map a.eval := by simp
      rw [← hargs] at hvs
      generalize hus : args.map a.eval = us at hvs
      cases b <;> (try (cases hs; done))
      case len =>
        simp only [isCopy] at hk0
        split at hk0
        · rename_i t ht
          obtain ⟨T, -, hk, hc⟩ := ty_ok hT hk0
          clear hk0
          have hat : argTypes = #[t] := by rw [← Array.toList_inj]; exact ht
          subst hat
          have go : ∀ x v, xs = [x] → RV g w (own S0 s.σ g) x v → us = #[v] → ∀ n : Nat, ((∃ e p c, P.underlying t = some (.slice e) ∧ v = .slice p n c) ∨ (P.underlying t = some .string ∧ ∃ s, v = .string s ∧ s.size = n)) → K (.i .i64 n) s → Looks P g (own S0 s.σ g) s a ⟨dst, .call ⟨.builtin .len, args, #[t]⟩, ty', pos, aft, guard⟩ w K := fun x v _ hx hu n hv hk => by
            refine sf_pure hk rfl ?_
            simp [execOp, resolve, invoke, builtin, hus, hu, len_run hv]
          have one : ∀ x, xs = [x] → ∃ v, us = #[v] ∧ RV g w (own S0 s.σ g) x v := fun x hx => by
            subst hx
            match hl : us.toList, hvs with
            | [v], h3 => exact ⟨v, by rw [← Array.toList_inj]; exact hl, h3.1⟩
          split at hk
          · rename_i hnk
            obtain ⟨e, hu⟩ := nk_slice hc hnk
            split at hk
            · rename_i n cs full
              obtain ⟨v, h4, h5⟩ := one _ rfl
              have h6 := h5
              obtain ⟨p, len, cap, rfl, rfl, -⟩ := h6
              exact go _ _ rfl h5 h4 len (.inl ⟨e, p, cap, hu, rfl⟩) hk
            · obtain ⟨v, h4, h5⟩ := one _ rfl
              have h6 := h5
              obtain ⟨p, len, cap, rfl, rfl, -⟩ := h6
              exact go _ _ rfl h5 h4 len (.inl ⟨e, p, cap, hu, rfl⟩) hk
            · exact hk.elim
          · rename_i hnk
            have hu := nk_string hc hnk
            split at hk
            · rename_i x
              obtain ⟨v, h4, h5⟩ := one _ rfl
              have h6 : v = _ := h5
              rw [hH] at hk
              exact go _ _ rfl h5 h4 x.length (.inr ⟨hu, _, h6, by simp [ByteArray.size]⟩) hk
            · exact hk.elim
          · exact hk.elim
        · exact hk0.elim
      case min =>
        simp only [isCopy] at hk0
        split at hk0
        · match hl : us.toList, hvs with
          | [v, u], h3 =>
            have hus2 : us = #[v, u] := by rw [← Array.toList_inj]; exact hl
            obtain rfl : v = _ := h3.1
            obtain rfl : u = _ := h3.2.1
            exact sf_pure hk0 rfl (by simp [execOp, resolve, invoke, builtin, hus, hus2, Builtin.min_, Builtin.min2, hH])
        · exact hk0.elim
      case max =>
        simp only [isCopy] at hk0
        split at hk0
        · match hl : us.toList, hvs with
          | [v, u], h3 =>
            have hus2 : us = #[v, u] := by rw [← Array.toList_inj]; exact hl
            obtain rfl : v = _ := h3.1
            obtain rfl : u = _ := h3.2.1
            exact sf_pure hk0 rfl (by simp [execOp, resolve, invoke, builtin, hus, hus2, Builtin.max_, Builtin.max2, hH])
        · exact hk0.elim
  · refine vop_soft hH hT h ?_ hk
    revert hs
    cases h9 : o.op <;> first | exact id | exact fun _ => (hc ⟨_, h9⟩).elim
end
variable (hH : ∀ α x, H α x = x) (hT : TTok P TT) (hTri : ∀ f xs σ R, Tri f xs σ R → TriS P f xs σ R)
include hH hT hTri
theorem vop_ok {K : V → S → Prop} (h : Rel w0 S0 N g s a.tmps w) (hk : vop H TT Tri o s K) (hn : Goes w0 S0 N a o next K) : o.wp P a w next Q := by
  by_cases hc : ∃ c, o.op = .call c
  · obtain ⟨c, hc⟩ := hc
    obtain ⟨dst, op, ty', pos, aft, guard⟩ := o
    simp only at hc
    subst hc
    obtain ⟨callee, args, argTypes⟩ := c
    have hk9 := hk
    simp only [vop] at hk
    obtain ⟨xs, h1, hk0⟩ := need_some hk
    clear hk
    have hvs := evs_ok h h1
    cases callee with
    | invoke => exact hk0.elim
    | value f =>
      simp only [isCopy] at hk0
      obtain ⟨v, h2, hk⟩ := need_some hk0
      clear hk0
      split at hk
      · rename_i f' cs
        obtain ⟨us, e, hus⟩ := ev_ok h h2
        obtain ⟨hok, hC⟩ := vcall_ok hTri h (RVs_append hvs hus) hk
        have hrun : (execOp a.eval ⟨dst, .call ⟨.value f, args, argTypes⟩, ty', pos, aft, guard⟩).run P w = .ok (.enter f' (args.map a.eval ++ us)) w := by
          simp [execOp, resolve, e, Deferred.ofValue, invoke, callFunc_run hok]
        unfold Oper.wp
        rw [hrun]
        have harr : (args.toList.map a.eval ++ us.toList).toArray = args.map a.eval ++ us := by simp [← Array.toList_inj]
        rw [harr] at hC
        refine hC.mono ?_
        rintro e w' ⟨r, val, s', g', rfl, k1, k2, k3⟩
        exact hn _ _ _ _ _ k1 k2 k3
      · rename_i f' bs
        obtain ⟨us, e, hus⟩ := ev_ok h h2
        obtain ⟨hok, hC⟩ := vcall_ok hTri h (RVs_append hus hvs) hk
        have hrun : (execOp a.eval ⟨dst, .call ⟨.value f, args, argTypes⟩, ty', pos, aft, guard⟩).run P w = .ok (.enter f' (us ++ args.map a.eval)) w := by
          simp [execOp, resolve, e, Deferred.ofValue, invoke, callFunc_run hok]
        unfold Oper.wp
        rw [hrun]
        have harr : (us.toList ++ args.toList.map a.eval).toArray = us ++ args.map a.eval := by simp [← Array.toList_inj]
        rw [harr] at hC
        refine hC.mono ?_
        rintro e w' ⟨r, val, s', g', rfl, k1, k2, k3⟩
        exact hn _ _ _ _ _ k1 k2 k3
      · exact hk.elim
    | builtin b =>
      have hargs : (args.map a.eval).toList = args.toList.map a.eval := by simp
      rw [← hargs] at hvs
      generalize hus : args.map a.eval = us at hvs
      cases b <;> (try exact hk0.elim)
      case len => obtain ⟨v, val, h1, h2, h3⟩ := vop_look hH hT h rfl hk9; exact fin_pure h hn h1 h2 h3
      case clear =>
        simp only [isCopy] at hk0
        split at hk0
        · rename_i t ht
          obtain ⟨T, -, hk, hc⟩ := ty_ok hT hk0
          obtain ⟨E, -, hk, hE⟩ := ty_ok hT hk
          clear hk0
          have hat : argTypes = #[t] := by rw [← Array.toList_inj]; exact ht
          subst hat
          have one : ∀ x, xs = [x] → ∃ v, us = #[v] ∧ RV g w (own S0 s.σ g) x v := fun x hx => by
            subst hx
            match hl : us.toList, hvs with
            | [v], h3 => exact ⟨v, by rw [← Array.toList_inj]; exact hl, h3.1⟩
          split at hk
          · rename_i hnk ha
            obtain ⟨e, hu⟩ := nk_slice hc hnk
            split at hk
            · rename_i n cs full
              obtain ⟨v, h4, h5⟩ := one _ rfl
              obtain ⟨p, len, cap, rfl, rfl, -⟩ := h5
              simp only [ob, hH, decide_eq_true_eq] at hk
              obtain ⟨h0, hk⟩ := hk
              have h0 : len = 0 := by omega
              subst h0
              have hrun : ∀ a : Option Addr, (Builtin.clear_ #[t] ty' #[.slice a 0 cap]).run P w = .ok (.tuple #[]) w := fun a => by cases a <;> simp [Builtin.clear_, run_underlying hu w]
              exact fin_pure h hn hk ⟨#[], rfl, trivial⟩ (by simp [execOp, resolve, invoke, builtin, hus, h4, hrun])
            · rename_i o lo n sz full
              obtain ⟨v, h4, h5⟩ := one _ rfl
              split at hk
              · rename_i m cs e' hlk
                obtain ⟨z, hz, hk⟩ := need_some hk
                obtain ⟨cs', hcs, hk⟩ := need_some hk
                refine fin_made hn (clear_ok (ty' := ty') hH hc hE ha hu h h5 hlk hz hcs (beq_iff.1 hk.1) hk.2) ?_
                simp [execOp, resolve, invoke, builtin, hus, h4]
              · exact hk.elim
            · exact hk.elim
          · exact hk.elim
        · exact hk0.elim
      case append =>
        simp only [isCopy] at hk0
        split at hk0
        · rename_i x y
          split at hk0
          · rename_i t u ht
            split at hk0
            · rename_i htu
              obtain rfl := beq_iff.1 htu
              obtain ⟨T, -, hk, hc⟩ := ty_ok hT hk0
              clear hk0
              have hat : argTypes = #[t, t] := by rw [← Array.toList_inj]; exact ht
              subst hat
              split at hk
              · rename_i hnk
                obtain ⟨e, hu⟩ := nk_slice hc hnk
                match hl : us.toList, hvs with
                | [v, u], h3 =>
                  have hus2 : us = #[v, u] := by rw [← Array.toList_inj]; exact hl
                  refine fin_made hn (vappend_ok (ty := ty') hH hc hu h.bmp (by exact h3.1) (by exact h3.2.1) hk) ?_
                  simp [execOp, resolve, invoke, builtin, hus, hus2]
              · exact hk.elim
            · exact hk0.elim
          · exact hk0.elim
        · exact hk0.elim
      case copy =>
        simp only [isCopy] at hk0
        split at hk0
        · rename_i x y
          split at hk0
          · rename_i t t' ht
            obtain ⟨T, -, hk, hc⟩ := ty_ok hT hk0
            clear hk0
            have hat : argTypes = #[t, t'] := by rw [← Array.toList_inj]; exact ht
            subst hat
            split at hk
            · rename_i hnk
              obtain ⟨e, hu⟩ := nk_slice hc hnk
              match hl : us.toList, hvs with
              | [v, u], h3 =>
                have hus2 : us = #[v, u] := by rw [← Array.toList_inj]; exact hl
                refine fin_made hn (vcopy_ok (t' := t') (ty' := ty') hH hc hu h h3.1 h3.2.1 hk) ?_
                simp [execOp, resolve, invoke, builtin, hus, hus2]
            · exact hk.elim
          · exact hk0.elim
        · exact hk0.elim
      case min => obtain ⟨v, val, h1, h2, h3⟩ := vop_look hH hT h rfl hk9; exact fin_pure h hn h1 h2 h3
      case max => obtain ⟨v, val, h1, h2, h3⟩ := vop_look hH hT h rfl hk9; exact fin_pure h hn h1 h2 h3
  · exact vop_pure hH hT h hk hn (fun c e => hc ⟨c, e⟩)
end
end Go.Proofs.Ytilmhjojbolbeaa.AM

namespace Go.Proofs.Ytilmhjojbolbeaa.AM
open Go

section
variable {P : Program} {H : (α : Type) → α → α} {TT : Nat → TS} {Tri : Spec} {w0 : World} {S0 : Fr} {N : Nat} {g : G} {s : S} {a : Act} {w : World} {o : Oper} {tmps T : Array Value} {ops : Array Oper}
mutual
theorem veq_eq : ∀ {x y : V}, veq x y → x = y
  | .i _ _, .i _ _, h => by obtain ⟨rfl, rfl⟩ := h; rfl
  | .b _, .b _, h => by cases h; rfl
  | .s _, .s _, h => by cases h; rfl
  | .v _, .v _, h => by cases h; rfl
  | .l _ _ _, .l _ _ _, h => by obtain ⟨rfl, rfl, h⟩ := h; rw [ceqs_eq h]
  | .p _, .p _, h => by rw [ceqs_eq h]
  | .sl _ _ _ _ _, .sl _ _ _ _ _, h => by obtain ⟨h, rfl, rfl, rfl, rfl⟩ := h; rw [beq_iff.1 h]
  | .pt _ _, .pt _ _, h => by obtain ⟨h, h'⟩ := h; rw [beq_iff.1 h, beq_iff.1 h']
  | .pe _ _ _ _, .pe _ _ _ _, h => by obtain ⟨h, rfl, rfl, rfl⟩ := h; rw [beq_iff.1 h]
  | .mp _, .mp _, h => by rw [beq_iff.1 h]
  | .av _ _ _, .av _ _ _, h => by obtain ⟨⟨rfl, rfl⟩, rfl⟩ := h; rfl
  | .ag _, .ag _, h => by rw [veqs_eq h]
  | .tu _, .tu _, h => by rw [veqs_eq h]
  | .fn _ _, .fn _ _, h => by obtain ⟨rfl, h⟩ := h; rw [veqs_eq h]
  | .fb _ _, .fb _ _, h => by obtain ⟨rfl, h⟩ := h; rw [veqs_eq h]
theorem veqs_eq : ∀ {xs ys : List V}, veqs xs ys → xs = ys
  | [], [], _ => rfl
  | _ :: _, _ :: _, h => by rw [veq_eq h.1, veqs_eq h.2]
  | [], _ :: _, h => h.elim
  | _ :: _, [], h => h.elim
end
theorem undef_bool {b : Bool} : (undef : Value) ≠ .bool b := by unfold undef; simp
theorem Rel.same (h : Rel w0 S0 N g s tmps w) {t : Nat} {v : V} (hv : RV g w (own S0 s.σ g) v (tmps.getD t undef)) : Rel w0 S0 N g (AM.put (some t) v s) tmps w := by
  refine ⟨h.ob, fun u x hx => ?_, h.sz, h.kp, h.fr, h.pin, h.nx, h.dj⟩
  simp only [AM.put] at hx ⊢
  rw [look_cons] at hx
  split at hx
  · rename_i e; subst e; cases hx; exact hv
  · exact h.ra u x hx
/-- a slot that is known is named anew -/
theorem Rel.again (h : Rel w0 S0 N g s tmps w) {d : Option Nat} {v : V} (hv : d.bind (fun t => look t s.A) = some v) : Rel w0 S0 N g (AM.put d v s) tmps w := by
  cases d with
  | none => cases hv
  | some t => exact h.same (h.ra t v hv)
theorem Rel.putd (h : Rel w0 S0 N g s a.tmps w) {d : Option Nat} {v : V} {val : Value} (hd : ∀ t, d = some t → t < N) (hv : RV g w (own S0 s.σ g) v val) : Rel w0 S0 N g (AM.put d v s) (a.put d val).tmps w := by
  cases d with
  | none => exact h
  | some t => exact h.put (hd t rfl) hv
theorem put_defers (d : Option Nat) (v : Value) : (a.put d v).defers = a.defers := by cases d <;> rfl
theorem yielded_no {j : Nat} {x : Array Value} (h : Rel w0 S0 N g s tmps w) (hg : (dstOf ops j).bind (fun t => look t s.A) = some (.v (.tuple x))) : yielded ops tmps j = none := by
  unfold dstOf at hg
  unfold yielded
  cases hd : (ops[j]?).bind (·.dst) with
  | none => rfl
  | some t =>
    rw [hd] at hg
    have h1 : tmps.getD t undef = .tuple x := h.ra t _ hg
    simp only [Option.bind_some]
    rw [Array.getD_eq_getD_getElem?] at h1
    cases hq : tmps[t]? with
    | none => rfl
    | some u => rw [hq] at h1; simp at h1; rw [h1]
theorem yielded_at {j : Nat} {x : Bool} (h : Rel w0 S0 N g s tmps w) (hg : (dstOf ops j).bind (fun t => look t s.A) = some (.b x)) : yielded ops tmps j = some x := by
  unfold dstOf at hg
  unfold yielded
  cases hd : (ops[j]?).bind (·.dst) with
  | none => rw [hd] at hg; cases hg
  | some t =>
    rw [hd] at hg
    have h1 : tmps.getD t undef = .bool x := h.ra t _ hg
    simp only [Option.bind_some]
    cases h2 : tmps[t]? with
    | none => rw [Array.getD_eq_getD_getElem?, h2] at h1; exact absurd h1 undef_bool
    | some v => rw [Array.getD_eq_getD_getElem?, h2] at h1; simp at h1; subst h1; rfl
/-- the same in another value of the same content -/
theorem Rel.over (h : Rel w0 S0 N g s T w) {d : Nat} {u : V} {val : Value} (hl : look d s.A = some u) (hd : d < N) (hv : RV g w (own S0 s.σ g) u val) : Rel w0 S0 N g s (T.setIfInBounds d val) w := by
  have h1 := h.put hd hv
  refine ⟨h1.ob, fun t x hx => h1.ra t x ?_, h1.sz, h1.kp, h1.fr, h1.pin, h1.nx, h1.dj⟩
  simp only [AM.put, look_cons]
  split
  · rename_i e; subst e; rw [hl] at hx; exact hx
  · exact hx
/-- the frame of these slots -/
def fr' (T : Array Value) : Act := ⟨T, []⟩
theorem eval_agree {T' : Array Value} {o : Oper} (hs : notSel o.op = true) (h : ∀ t, t ∈ o.looksAt ops → T'[t]? = T[t]?) (ds ds' : List Deferred) : execOp (Act.eval ⟨T', ds'⟩) o = execOp (Act.eval ⟨T, ds⟩) o := by
  refine execOp_congr o (fun cs b e => by rw [e] at hs; cases hs) (fun x hx => ?_)
  cases x with
  | tmp t =>
    have := h t (List.mem_append_left _ (List.mem_filterMap.2 ⟨.tmp t, by simpa using hx, rfl⟩))
    simp only [Act.eval, Array.getD_eq_getD_getElem?, this]
  | _ => rfl
theorem wanted_agree {T' : Array Value} {o : Oper} (h : ∀ t, t ∈ o.looksAt ops → T'[t]? = T[t]?) : Region.wanted o (yielded ops T') = Region.wanted o (yielded ops T) := by
  unfold Region.wanted
  cases hg : o.guard with
  | none => rfl
  | some gw =>
    obtain ⟨g, want⟩ := gw
    have hy : yielded ops T' g = yielded ops T g := by
      unfold yielded
      cases ht : (ops[g]?).bind (·.dst) with
      | none => rfl
      | some t =>
        have := h t (by simp [Oper.looksAt, hg, ht])
        simp only [Option.bind_some, this]
    simp only [hy]
/-- what an operation gives in these slots -/
def YT (P : Program) (ops : Array Oper) (o : Oper) (val : Value) (T : Array Value) (w : World) : Prop :=
  (Region.wanted o (yielded ops T) = true ∧ (execOp (Act.eval ⟨T, []⟩) o).run P w = .ok (.value val) w) ∨ (Region.wanted o (yielded ops T) = false ∧ val = undef)
theorem YT.agree {T' : Array Value} {val : Value} (hs : notSel o.op = true) (h : ∀ t, t ∈ o.looksAt ops → T'[t]? = T[t]?) (hy : YT P ops o val T w) : YT P ops o val T' w := by
  unfold YT at *
  rw [wanted_agree h, eval_agree hs h [] []]
  exact hy
/-- the state of the slots does not matter to what follows -/
theorem wp_shift {aT a : Act} {o : Oper} {K' : Act → World → Prop} {Q : Exit → Act → World → Prop} (he : execOp aT.eval o = execOp a.eval o) (hsz : ∀ d, o.dst = some d → d < aT.tmps.size)
    (h : o.wp P aT w (fun a' w' => ∃ val, a' = aT.put o.dst val ∧ K' (a.put o.dst val) w') (fun _ _ _ => False)) : o.wp P a w K' Q := by
  have inj : ∀ {v val : Value}, aT.put o.dst v = aT.put o.dst val → a.put o.dst v = a.put o.dst val := fun {v val} e => by
    cases hd : o.dst with
    | none => rfl
    | some d =>
      have hlt := hsz d hd
      rw [hd] at e
      have h1 := congrArg (fun a : Act => a.tmps[d]?) e
      simp [Act.put, hlt] at h1
      rw [h1]
  unfold Oper.wp at *
  rw [he] at h
  generalize (execOp a.eval o).run P w = res at *
  cases res with
  | ok n w' =>
    cases n <;> simp only [Oper.upon] at h ⊢
    case value v => obtain ⟨val, e, hk⟩ := h; rw [inj e]; exact hk
    case skip => obtain ⟨val, e, hk⟩ := h; rw [inj e]; exact hk
    case defer d =>
      obtain ⟨val, e, hk⟩ := h
      have h1 := congrArg Act.defers e
      rw [AM.put_defers, AM.put_defers] at h1
      exact absurd h1 (by simp)
    case enter f args =>
      refine Calls.mono h fun e w'' he => ?_
      cases e with
      | returned v => obtain ⟨val, e, hk⟩ := he; simp only; rw [inj e]; exact hk
      | panicked c => exact he.elim
      | outgrown => obtain ⟨_, _, h⟩ := he; exact h.elim
    case row row args => exact Rows.mono h fun v w'' ⟨val, e, hk⟩ => by rw [inj e]; exact hk
  | halt x w' =>
    cases x <;> simp only [Oper.upon] at h ⊢
theorem dirB_iff {i j : Nat} : dirB ops i j = true ↔ ∃ o, ops[i]? = some o ∧ ∃ e ∈ o.after, Region.binds .any e = true ∧ e.on = j := by
  unfold dirB
  split
  · rename_i o ho
    rw [Array.any_eq_true']
    constructor
    · rintro ⟨e, he, hb⟩
      simp only [Bool.and_eq_true] at hb
      exact ⟨o, ho, e, he, hb.1, beq_iff.1 hb.2⟩
    · rintro ⟨o', h1, e, he, hb, hj⟩
      rw [ho] at h1; cases h1
      exact ⟨e, he, by simp [hb, hj]⟩
  · rename_i ho
    constructor
    · intro h; cases h
    · rintro ⟨o', h1, _⟩; rw [ho] at h1; cases h1
theorem okSoft_iff {i : Nat} {o : Oper} (h : okSoft ops i o = true) : ∃ d, o.dst = some d ∧ d ∉ o.looksAt ops ∧ ∀ k p, ops[k]? = some p → k ≠ i → p.dst ≠ some d ∧ (d ∈ p.looksAt ops → dirB ops k i = true) := by
  unfold okSoft at h
  split at h
  · rename_i d hd
    simp only [Bool.and_eq_true, Bool.not_eq_true', List.all_eq_true, List.mem_range, Bool.or_eq_true] at h
    refine ⟨d, hd, by simpa using h.1, fun k p hk hne => ?_⟩
    have hlt := (Array.getElem?_eq_some_iff.1 hk).1
    have h2 := h.2 k hlt
    rw [hk] at h2
    rcases h2 with h2 | h2
    · exact absurd (beq_iff.1 h2) hne
    · simp only [Bool.and_eq_true, Bool.or_eq_true, Bool.not_eq_true', bne_iff_ne] at h2
      refine ⟨h2.1, fun hm => h2.2.resolve_left ?_⟩
      simpa using hm
  · cases h
theorem okStep_cons {pre : List Nat} {i : Nat} {rc : List Nat} {r : List (Nat × List Nat)} (h : okStep TT ops pre ((i, rc) :: r) = true) :
    ∃ o, ops[i]? = some o ∧ i ∉ pre ∧ (∀ j, dirB ops i j = true → j ∈ pre) ∧ okStep TT ops (i :: pre) r = true ∧
      ((softO TT o.op = true ∧ okSoft ops i o = true) ∨ (softO TT o.op = false ∧ okRc TT ops rc [i] pre = true ∧ ∀ p ∈ r, (isAl TT ops p.1 = true ∧ ∀ j ∈ pre, wS TT ops j = true) ∨ ∃ j, dirB ops p.1 j = true ∧ j ∉ pre ∧ (j = i ∨ isAl TT ops j = false))) := by
  simp only [okStep, Bool.and_eq_true] at h
  obtain ⟨h1, h2⟩ := h
  split at h1
  · cases h1
  · rename_i o ho
    simp only [Bool.and_eq_true, Bool.not_eq_true'] at h1
    obtain ⟨⟨h3, h4⟩, h5⟩ := h1
    refine ⟨o, ho, mem_no h3, fun j hj => ?_, h2, ?_⟩
    · obtain ⟨o', h6, e, he, hb, rfl⟩ := dirB_iff.1 hj
      rw [ho] at h6; cases h6
      have := Array.all_eq_true'.1 h4 e he
      simp only [hb, Bool.not_true, Bool.false_or] at this
      exact (mem_iff _ _).1 this
    · split at h5
      · rename_i hs; exact .inl ⟨hs, h5⟩
      · rename_i hs
        simp only [Bool.and_eq_true, List.all_eq_true] at h5
        refine .inr ⟨hs, h5.2, fun p hp => ?_⟩
        rcases Bool.or_eq_true _ _ ▸ h5.1 p hp with h6 | h6
        · simp only [Bool.and_eq_true, List.all_eq_true] at h6
          exact .inl h6
        · right
          split at h6
          · rename_i q hq
            obtain ⟨e, he, hb⟩ := Array.any_eq_true'.1 h6
            simp only [Bool.and_eq_true, Bool.not_eq_true', Bool.or_eq_true] at hb
            exact ⟨e.on, dirB_iff.2 ⟨q, hq, e, he, hb.1, rfl⟩, mem_no hb.2.1, hb.2.2.imp beq_iff.1 id⟩
          · cases h6
theorem isAl_iff {i : Nat} (h : isAl TT ops i = true) : ∃ o t, ops[i]? = some o ∧ o.op = .alloc t ∧ o.guard = none ∧ okSoft ops i o = true ∧ (TT t).id = t ∧ (TT t).arr = none := by
  unfold isAl at h
  split at h
  · rename_i o ho
    simp only [Bool.and_eq_true] at h
    obtain ⟨⟨h1, h2⟩, h3⟩ := h
    split at h1
    · rename_i t ht
      simp only [Bool.and_eq_true] at h1
      refine ⟨o, t, ho, ht, by simpa using h2, h3, beq_iff.1 h1.1, ?_⟩
      have := h1.2
      split at this
      · assumption
      · cases this
    · cases h1
  · cases h
theorem isAl_hard {i : Nat} (h : isAl TT ops i = true) {o : Oper} (ho : ops[i]? = some o) : softO TT o.op = false := by
  obtain ⟨o', t, h1, h2, -⟩ := isAl_iff h
  rw [ho] at h1; cases h1
  rw [h2]; rfl
theorem okStep_out : ∀ {post : List (Nat × List Nat)} {pre : List Nat}, okStep TT ops pre post = true → ∀ p ∈ post, p.1 ∉ pre
  | [], _, _, p, hp => by cases hp
  | (i, rc) :: r, pre, h, p, hp => by
    obtain ⟨o, -, h1, -, h2, -⟩ := okStep_cons h
    rcases List.mem_cons.1 hp with rfl | hp
    · exact h1
    · exact fun hm => okStep_out h2 p hp (List.mem_cons_of_mem _ hm)
end
end Go.Proofs.Ytilmhjojbolbeaa.AM

namespace Go.Proofs.Ytilmhjojbolbeaa.AM
open Go
section
variable {P : Program} {α β : Type}
/-- never comes to an answer -/
def Nok (P : Program) (m : Sem α) : Prop := ∀ w v w', m.run P w ≠ .ok v w'
/-- changes nothing, and sees the same in a greater memory -/
def Sta (P : Program) (m : Sem α) : Prop := ∀ (w : World) (v : α) (w' : World), m.run P w = .ok v w' → w' = w ∧ ∀ o, m.run P (w.alloc o) = .ok v (w.alloc o)
theorem andThen_okk {r : Result α} {f : α → World → Result β} {v : β} {w' : World} (h : r.andThen f = .ok v w') : ∃ a w1, r = .ok a w1 ∧ f a w1 = .ok v w' := by
  cases r with
  | ok a w1 => exact ⟨a, w1, rfl, h⟩
  | halt _ _ => cases h
theorem Sta.bind {x : Sem α} {f : α → Sem β} (hx : Sta P x) (hf : ∀ a, Sta P (f a)) : Sta P (x >>= f) := fun w v w' h => by
  rw [Sem.run_bind] at h
  obtain ⟨a, w1, h1, h2⟩ := andThen_okk h
  obtain ⟨rfl, h3⟩ := hx w a w1 h1
  obtain ⟨rfl, h4⟩ := hf a _ v w' h2
  exact ⟨rfl, fun o => by rw [Sem.run_bind, h3 o]; exact h4 o⟩
theorem Nok.sta {m : Sem α} (h : Nok P m) : Sta P m := fun w v w' e => absurd e (h w v w')
theorem Nok.right {x : Sem α} {f : α → Sem β} (hf : ∀ a, Nok P (f a)) : Nok P (x >>= f) := fun w v w' h => by
  rw [Sem.run_bind] at h
  obtain ⟨a, w1, -, h2⟩ := andThen_okk h
  exact hf a _ _ _ h2
theorem Nok.left {x : Sem α} {f : α → Sem β} (hx : Nok P x) : Nok P (x >>= f) := fun w v w' h => by
  rw [Sem.run_bind] at h
  obtain ⟨a, w1, h1, -⟩ := andThen_okk h
  exact hx _ _ _ h1
theorem sta_pure (a : α) : Sta P (pure a : Sem α) := fun w v w' h => by cases h; exact ⟨rfl, fun _ => rfl⟩
theorem nok_stuck (s : String) : Nok P (stuck s : Sem α) := fun w v w' h => by cases h
theorem nok_unsup (u : Unsupported) : Nok P (unsupported u : Sem α) := fun w v w' h => by cases h
theorem nok_panic (v : Value) : Nok P (goPanic v : Sem α) := fun w v w' h => by cases h
theorem nok_rt (e : RuntimeError) : Nok P (runtimePanic e : Sem α) := by
  unfold runtimePanic
  refine Nok.right fun p => ?_
  cases e <;> dsimp only <;> first | exact nok_panic _ | (repeat (first | exact nok_panic _ | refine Nok.right fun _ => ?_))
theorem nok_bounds (k : IntKind) (x y : Int) (c : BoundsCode) : Nok P (boundsPanic k x y c : Sem α) := by
  unfold boundsPanic
  dsimp only
  split <;> exact Nok.right fun _ => nok_rt _
theorem sta_program : Sta P program := fun w v w' h => by cases h; exact ⟨rfl, fun _ => rfl⟩
theorem sta_underlying (t : TypeId) : Sta P (underlying t) := by
  unfold underlying
  refine sta_program.bind fun p => ?_
  split
  · exact sta_pure _
  · exact (nok_stuck _).sta
theorem sta_typeInfo (t : TypeId) : Sta P (typeInfo t) := by
  unfold typeInfo
  refine sta_program.bind fun p => ?_
  split
  · exact sta_pure _
  · exact (nok_stuck _).sta
theorem sta_sizeOf (t : TypeId) : Sta P (sizeOf t) := (sta_typeInfo t).bind fun _ => sta_pure _
theorem sta_isAgg (t : TypeId) : Sta P (isAgg t) := by
  unfold isAgg
  refine (sta_underlying t).bind fun d => ?_
  split <;> exact sta_pure _
theorem blk_alloc {w : World} {b : Nat} (o : Obj) (h : b < w.heap.size) : (w.alloc o).heap[b]? = w.heap[b]? := (kp_alloc w o).block b h (fun h => h)
theorem seen_alloc {w : World} {p : Program} {a : Addr} {u : TypeId} {k : Addr} {t : Bool} {r} (o : Obj) (h : w.seen p a u k t = .ok r) : (w.alloc o).seen p a u k t = .ok r := by
  by_cases hb : a.block < w.heap.size
  · unfold World.seen at *
    rw [blk_alloc o hb]; exact h
  · exfalso
    have hn : w.heap[a.block]? = none := Array.getElem?_eq_none (by omega)
    unfold World.seen at h
    rw [hn] at h
    simp only [bind, Except.bind, pure, Except.pure, throw, throwThe, MonadExceptOf.throw] at h
    (repeat' split at h) <;> cases h
theorem view_alloc {w : World} {p : Program} {a : Addr} {u : TypeId} {k : Addr} {t : Bool} {r} (o : Obj) (h : w.viewLoad p a u k t = .ok r) : (w.alloc o).viewLoad p a u k t = .ok r := by
  unfold World.viewLoad at *
  cases hs : w.seen p a u k t with
  | error e => rw [hs] at h; cases h
  | ok q => rw [seen_alloc o hs]; rw [hs] at h; exact h
theorem far_alloc {w : World} {p : Program} {a : Addr} {t : Bool} {r} (o : Obj) (h : w.farLoad p a t = .ok r) : a.block < w.heap.size ∧ (w.alloc o).farLoad p a t = .ok r := by
  unfold World.farLoad at *
  split at h
  · rename_i b u hb
    have hlt := (Array.getElem?_eq_some_iff.1 hb).1
    rw [blk_alloc o hlt, hb]
    refine ⟨hlt, ?_⟩
    simp only
    cases hv : w.viewLoad p b u a t with
    | error e => rw [hv] at h; cases h
    | ok q => rw [hv] at h; rw [view_alloc o hv]; exact h
  · cases h
theorem sta_load (a : Addr) (m : Mode) : Sta P (load a m) := fun w v w' h => by
  simp only [load, Sem.run] at h ⊢
  split at h
  · rename_i u hu
    cases h
    exact ⟨rfl, fun o => by rw [nw_cell (nw_alloc w o) hu]⟩
  · rename_i hn
    split at h
    · rename_i u q hu
      cases h
      refine ⟨rfl, fun o => ?_⟩
      obtain ⟨h1, h2⟩ := far_alloc o hu
      rw [World.cell?_of_block (blk_alloc o h1), hn]
      simp only [h2]
    · cases h
theorem sta_cells (a : Addr) : ∀ (n i : Nat) (acc : Array Value), Sta P (loadCellsFrom a i n acc)
  | 0, i, acc => by unfold loadCellsFrom; exact sta_pure _
  | n + 1, i, acc => by unfold loadCellsFrom; exact (sta_load _ _).bind fun v => sta_cells a n (i + 1) (acc.push v)
theorem sta_loadVar (t : TypeId) (a : Addr) : Sta P (loadVar t a) := by
  unfold loadVar
  refine (sta_isAgg t).bind fun b => ?_
  split
  · refine (sta_sizeOf t).bind fun n => ?_
    exact (sta_cells a n 0 _).bind fun _ => sta_pure _
  · exact sta_load a _
theorem sta_sure (v : Value) : Sta P (Instr.sureAddr v) := by
  unfold Instr.sureAddr
  split
  · exact sta_pure _
  · exact (nok_stuck _).sta
theorem sta_loadAt (t : TypeId) (v : Value) : Sta P (Instr.loadAt t v) := (sta_sure v).bind fun a => sta_loadVar t a
theorem sta_shape {r : Nat} {f : Option (TypeId × Nat) → Sem β} (hf : ∀ x, Sta P (f (some x))) (hn : Nok P (f none)) : Sta P (shape r >>= f) := fun w v w' h => by
  rw [Sem.run_bind, run_shape] at h
  simp only [Result.andThen_ok] at h
  cases hs : w.shape? r with
  | none => rw [hs] at h; exact absurd h (hn _ _ _)
  | some x =>
    rw [hs] at h
    obtain ⟨rfl, h2⟩ := hf x w v w' h
    refine ⟨rfl, fun o => ?_⟩
    rw [Sem.run_bind, run_shape]
    simp only [Result.andThen_ok]
    have : (w'.alloc o).shape? r = some x := by
      have hs' := hs
      unfold World.shape? at hs ⊢
      split at hs
      · rename_i c e q hb
        rw [blk_alloc o (Array.getElem?_eq_some_iff.1 hb).1, hb]; exact hs
      · cases hs
    rw [this]; exact h2 o
theorem sta_asInt (v : Value) : Sta P (asIntOf v) := by
  unfold asIntOf
  split
  · exact sta_pure _
  · exact (nok_unsup _).sta
  · exact (nok_stuck _).sta
theorem sta_indexAt (t : TypeId) (x i : Value) : Sta P (Instr.indexAt t x i) := by
  unfold Instr.indexAt
  refine (sta_asInt i).bind fun ki => ?_
  obtain ⟨k, i⟩ := ki
  refine (sta_underlying t).bind fun d => ?_
  dsimp only
  split
  · refine (sta_sure _).bind fun a => ?_
    refine (sta_pure _).bind fun q => ?_
    obtain ⟨base, len, elem⟩ := q
    refine (sta_underlying t).bind fun d => ?_
    dsimp only
    split
    · split
      · exact (sta_sizeOf _).bind fun _ => sta_pure _
      · (repeat' split) <;> first | exact (nok_unsup _).sta | exact (nok_bounds _ _ _ _).sta
    · exact (nok_bounds _ _ _ _).sta
  · refine (sta_pure _).bind fun q => ?_
    obtain ⟨base, len, elem⟩ := q
    refine (sta_underlying t).bind fun d => ?_
    dsimp only
    split
    · split
      · exact (sta_sizeOf _).bind fun _ => sta_pure _
      · (repeat' split) <;> first | exact (nok_unsup _).sta | exact (nok_bounds _ _ _ _).sta
    · exact (nok_bounds _ _ _ _).sta
  · exact (Nok.left (nok_stuck _)).sta
theorem sta_viewAt (r : Nat) : Sta P (viewAt r) := by
  intro w v w' h
  by_cases hr : r < w.heap.size
  · have e : ∀ o, (w.alloc o).heap[r]? = w.heap[r]? := fun o => blk_alloc o hr
    have es : ∀ o, (w.alloc o).shape? r = w.shape? r := fun o => by unfold World.shape?; rw [e]
    unfold viewAt at h ⊢
    simp only [Sem.run_bind, run_shape, Result.andThen_ok, es] at h ⊢
    by_cases hc : (w.shape? r).isSome = true
    · simp only [if_pos hc] at h ⊢
      cases h; exact ⟨rfl, fun _ => rfl⟩
    · simp only [if_neg hc] at h ⊢
      simp only [getObj, Sem.run_bind, Sem.run, e] at h ⊢
      cases hb : w.heap[r]? with
      | none => simp only [hb] at h; cases h
      | some ob => cases ob <;> simp only [hb, Result.andThen_ok, Result.andThen_halt] at h ⊢ <;> cases h <;> exact ⟨rfl, fun _ => rfl⟩
  · exfalso
    have hn : w.heap[r]? = none := Array.getElem?_eq_none (by omega)
    have hs : w.shape? r = none := by unfold World.shape?; rw [hn]
    unfold viewAt at h
    simp [hs, getObj, Sem.run, hn] at h
theorem sta_noView (a : Addr) : Sta P (noView a) := by
  unfold noView
  refine (sta_viewAt _).bind fun x => ?_
  split
  · exact (nok_unsup _).sta
  · exact sta_pure _
theorem sta_byteOf (a : Addr) : Sta P (byteOf a) := by
  unfold byteOf
  split
  · exact sta_pure _
  · refine sta_program.bind fun p => ?_
    refine (sta_noView a).bind fun _ => ?_
    refine sta_shape (fun x => ?_) ?_
    · obtain ⟨e, n⟩ := x
      dsimp only
      split
      · exact sta_pure _
      · split
        · exact sta_pure _
        · exact (nok_stuck _).sta
    · exact nok_stuck _
theorem sta_fieldAt (t : TypeId) (x : Value) (f : Nat) : Sta P (Instr.fieldAt t x f) := by
  unfold Instr.fieldAt
  refine (sta_underlying t).bind fun d => ?_
  split
  · split
    · refine (sta_sure x).bind fun a => ?_
      refine Sta.bind ?_ fun _ => sta_pure _
      unfold fieldPlace
      refine (sta_sizeOf _).bind fun n => ?_
      split
      · unfold partAt
        refine (sta_byteOf _).bind fun b => ?_
        exact (sta_byteOf _).bind fun b => sta_pure _
      · exact sta_pure _
    · exact (nok_stuck _).sta
  · exact (nok_stuck _).sta
/-- such a one does not mind a new thing in memory -/
theorem op_sta {ρ : Operand → Value} {o : Oper} (h : (match o.op with | .move _ => true | .load _ _ => true | .fieldAddr _ _ _ => true | .indexAddr _ _ _ => true | _ => false) = true) : Sta P (execOp ρ o) := by
  obtain ⟨dst, op, ty', pos, aft, guard⟩ := o
  cases op <;> first | cases h | skip
  · exact sta_pure _
  · exact (sta_loadAt _ _).bind fun _ => sta_pure _
  · exact (sta_fieldAt _ _ _).bind fun _ => sta_pure _
  · exact (sta_indexAt _ _ _).bind fun _ => sta_pure _
end
end Go.Proofs.Ytilmhjojbolbeaa.AM

