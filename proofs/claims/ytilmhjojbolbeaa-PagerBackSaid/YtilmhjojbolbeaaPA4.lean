/-
  The abstract machine: an evaluator of the program's functions, sound over the model. No condition beside those that each theorem states.
-/
import Derived.Test.YtilmhjojbolbeaaPA3
import Derived.Deep.LoopGhost
import Derived.LoopN
import Derived.LoopNIn
import Derived.LoopIn
import Derived.Scope
import Derived.IntWalk
import Derived.Test.YtilmhjojbolbeaaPA1
set_option linter.all false

namespace Go.Proofs.Ytilmhjojbolbeaa.AM
open Go

section
variable {w1 : World} {S1 : Fr} {d0 : List Deferred} {P : Program} {H : (α : Type) → α → α} {TT : Nat → TS} {Tri : Spec} {w0 : World} {S0 : Fr} {N : Nat} {g : G} {s : S} {a : Act} {w : World} {o : Oper} {tmps T : Array Value} {ops : Array Oper} {K : S → Prop}
/-- what is to hold at an end -/
def Lift (w0 : World) (S0 : Fr) (N : Nat) (d0 : List Deferred) (Q : Exit → S → Prop) : Exit → Act → World → Prop := fun e a w => e ≠ .outgrown ∧ a.defers = d0 ∧ ∃ s g, Rel w0 S0 N g s a.tmps w ∧ Q e s
theorem lift_out {d0 : List Deferred} {Q : Exit → S → Prop} : ¬ LetsOut (Lift w0 S0 N d0 Q) := fun ⟨_, _, h⟩ => h.1 rfl
theorem Rel.lt (h : Rel w0 S0 N g s tmps w) {b : Nat} (hb : mine s.σ g b) : b < w.heap.size := by
  obtain ⟨i, h1, h2, rfl⟩ := hb
  exact h.ob.lt h1 h2
/-- the same frame, its beginning laid anew -/
theorem Rel.rebase {Y X2 : Nat → Prop} {w2 : World} (h : Rel w1 S1 N g s tmps w) (hk : Kp Y w w2) (hY : ∀ b, Y b → b < w.heap.size → S1.X b) (hX : ∀ b, X2 b → (S1.X b ∨ w.heap.size ≤ b) ∧ b < w2.heap.size) (hX1 : ∀ b, S1.X b → X2 b) :
    Rel w2 ⟨mine s.σ g, X2, S1.g0⟩ N g s tmps w2 := by
  have hch : ∀ b, ¬ own S1 s.σ g b → b < w.heap.size → w2.heap[b]? = w.heap[b]? := fun b hb hlt => hk.block b hlt (fun hy => hb (.inl (hY b hy hlt)))
  have ho : ∀ b, b < w.heap.size → ¬ own S1 s.σ g b → ¬ own ⟨mine s.σ g, X2, S1.g0⟩ s.σ g b := by
    rintro b hlt hn (hx | hm)
    · rcases (hX b hx).1 with h1 | h1
      · exact hn (.inl h1)
      · omega
    · exact hn (.inr hm)
  have hap : ∀ b, mine s.σ g b → ¬ X2 b := fun b hb hx => by
    rcases (hX b hx).1 with h1 | h1
    · exact h.apart hb h1
    · have := h.lt hb; omega
  refine ⟨⟨fun i o hi => RO_keep hch hk.size ho (fun hv => ?_) (fun _ _ => rfl) (h.ob.objs i o hi), h.ob.inj⟩, fun t x hx => RV_keep hch hk.size ho x _ (fun _ _ => rfl) (h.ra t x hx), h.sz, Kp.refl _ _, fun b hb => .inl hb, h.pin, h.nx, fun b hb => ⟨fun hm => hap b hm hb, (hX b hb).2⟩⟩
  have hm : mine s.σ g (g i).bl := ⟨i, by rw [hi]; rfl, hv, rfl⟩
  exact hk.block _ (h.lt hm) (fun hy => h.apart hm (hY _ hy (h.lt hm)))
/-- where the frame stood when it last made a thing ahead of its turn -/
structure Bs (wO : World) (SO : Fr) (w0 : World) (S0 : Fr) (E : List (Nat × Nat)) : Prop where
  kp : Kp SO.o wO w0
  o : ∀ b, S0.o b → SO.o b ∨ wO.heap.size ≤ b
  g0 : S0.g0 = SO.g0
  dj : ∀ b, SO.X b → ¬ SO.o b ∧ b < wO.heap.size
  X : ∀ b, S0.X b ↔ SO.X b ∨ ∃ j, (j, b) ∈ E
  new : ∀ p ∈ E, wO.heap.size ≤ p.2
  ku : ∀ j b b', (j, b) ∈ E → (j, b') ∈ E → b = b'
  bu : ∀ j j' b, (j, b) ∈ E → (j', b) ∈ E → j = j'
variable {wO : World} {SO : Fr} {E : List (Nat × Nat)}
theorem Bs.refl (h : Rel w0 S0 N g s T w) : Bs w0 S0 w0 S0 [] :=
  ⟨Kp.refl _ _, fun _ h => .inl h, rfl, h.dj, fun b => by simp, fun _ h => (by cases h), fun _ _ _ h => (by cases h), fun _ _ _ h => (by cases h)⟩
theorem Bs.kpw (hB : Bs wO SO w0 S0 E) (h : Rel w0 S0 N g s T w) : Kp SO.o wO w := hB.kp.trans h.kp fun b hb hlt => by
  rcases hB.o b hb with h1 | h1
  · exact h1
  · omega
theorem Bs.ours (hB : Bs wO SO w0 S0 E) (h : Rel w0 S0 N g s T w) {b : Nat} (hm : mine s.σ g b) : SO.o b ∨ wO.heap.size ≤ b := by
  rcases h.fr b hm with h1 | h1
  · exact hB.o b h1
  · exact .inr (Nat.le_trans hB.kp.size h1)
theorem Bs.back (hB : Bs wO SO w0 S0 []) (h : Rel w0 S0 N g s T w) : Rel wO SO N g s T w := by
  have ho : own S0 s.σ g = own SO s.σ g := by
    funext b
    have := hB.X b
    simp only [own, eq_iff_iff]
    simp only [List.not_mem_nil, exists_false, or_false] at this
    rw [this]
  have hob := h.ob.objs
  have hra := h.ra
  rw [ho] at hob hra
  exact ⟨⟨hob, h.ob.inj⟩, hra, h.sz, hB.kpw h, fun b hm => hB.ours h hm, fun i hi hs => by rw [h.pin i hi hs, hB.g0], h.nx, hB.dj⟩
/-- a thing is made ahead of its turn -/
theorem Bs.early (hB : Bs wO SO w0 S0 E) (h : Rel w0 S0 N g s T w) (o : Obj) {i : Nat} (hi : ∀ b, (i, b) ∉ E) : Rel (w.alloc o) ⟨mine s.σ g, fun b => S0.X b ∨ b = w.heap.size, S0.g0⟩ N g s T (w.alloc o) ∧ Bs wO SO (w.alloc o) ⟨mine s.σ g, fun b => S0.X b ∨ b = w.heap.size, S0.g0⟩ ((i, w.heap.size) :: E) := by
  have hlt : ∀ j b, (j, b) ∈ E → b < w.heap.size := fun j b hb => Nat.lt_of_lt_of_le (h.dj b ((hB.X b).2 (.inr ⟨j, hb⟩))).2 h.kp.size
  refine ⟨h.rebase (kp_alloc w o) (fun _ h => h.elim) (fun b hb => ?_) (fun b hb => .inl hb), ((hB.kpw h).alloc o), fun b hm => hB.ours h hm, hB.g0, hB.dj, fun b => ?_, fun p hp => ?_, fun j b b' h1 h2 => ?_, fun j j' b h1 h2 => ?_⟩
  · have hs : (w.alloc o).heap.size = w.heap.size + 1 := by simp
    rcases hb with hb | rfl
    · have := (h.dj b hb).2; have := h.kp.size; exact ⟨.inl hb, by omega⟩
    · exact ⟨.inr (Nat.le_refl _), by omega⟩
  · have := hB.X b
    simp only [List.mem_cons, Prod.mk.injEq]
    constructor
    · rintro (hb | rfl)
      · rcases this.1 hb with h1 | ⟨j, h1⟩
        · exact .inl h1
        · exact .inr ⟨j, .inr h1⟩
      · exact .inr ⟨i, .inl ⟨rfl, rfl⟩⟩
    · rintro (hb | ⟨j, ⟨rfl, rfl⟩ | hb⟩)
      · exact .inl (this.2 (.inl hb))
      · exact .inr rfl
      · exact .inl (this.2 (.inr ⟨j, hb⟩))
  · rcases List.mem_cons.1 hp with rfl | hp
    · exact Nat.le_trans hB.kp.size h.kp.size
    · exact hB.new p hp
  · simp only [List.mem_cons, Prod.mk.injEq] at h1 h2
    rcases h1 with ⟨rfl, rfl⟩ | h1
    · rcases h2 with ⟨-, rfl⟩ | h2
      · rfl
      · exact absurd h2 (hi _)
    · rcases h2 with ⟨rfl, -⟩ | h2
      · exact absurd h1 (hi _)
      · exact hB.ku j b b' h1 h2
  · simp only [List.mem_cons, Prod.mk.injEq] at h1 h2
    rcases h1 with ⟨rfl, rfl⟩ | h1
    · rcases h2 with ⟨rfl, -⟩ | h2
      · rfl
      · have := hlt _ _ h2; omega
    · rcases h2 with ⟨rfl, rfl⟩ | h2
      · have := hlt _ _ h1; omega
      · exact hB.bu j j' b h1 h2
/-- its turn has come -/
theorem Bs.absorb (hB : Bs wO SO w0 S0 E) (h : Rel w0 S0 N g s T w) {i B : Nat} (hi : (i, B) ∈ E) {xs : List V} {vs : Array Value} {e : Nat} (hb : w.heap[B]? = some (.cells vs e (0, 0))) (hz : zBs xs vs.toList = true) (hA : s.nx ∉ refsA s.A) (hS : s.nx ∉ refsS s.σ) :
    ∃ g' S', Rel w S' N g' { s with σ := (s.nx, .st xs e) :: s.σ, nx := s.nx + 1 } T w ∧ Bs wO SO w S' (E.filter fun p => !(Nat.beq p.1 i)) ∧ (g' s.nx).bl = B ∧ (g' s.nx).vi = false := by
  have hX : S0.X B := (hB.X B).2 (.inr ⟨i, hi⟩)
  obtain ⟨g', hg'⟩ : ∃ g' : G, g' = fun q => if q = s.nx then ⟨B, 0, false, 0, 0⟩ else g q := ⟨_, rfl⟩
  have gn : g' s.nx = ⟨B, 0, false, 0, 0⟩ := by rw [hg']; simp
  have go : ∀ q, q ≠ s.nx → g' q = g q := fun q hq => by rw [hg']; exact if_neg hq
  have hin : ∀ q, (look q s.σ).isSome = true → q ≠ s.nx := fun q hq e => by
    obtain ⟨o, ho⟩ := Option.isSome_iff_exists.1 hq
    exact hS (e ▸ (refs_lookS ho).1)
  have hm : ∀ b, mine ((s.nx, O.st xs e) :: s.σ) g' b ↔ mine s.σ g b ∨ b = B := fun b => by
    constructor
    · rintro ⟨q, h1, h2, h3⟩
      rw [look_cons] at h1
      by_cases eq : s.nx = q
      · subst eq; rw [gn] at h3; exact .inr h3.symm
      · rw [if_neg eq] at h1; rw [go q (Ne.symm eq)] at h2 h3; exact .inl ⟨q, h1, h2, h3⟩
    · rintro (⟨q, h1, h2, h3⟩ | rfl)
      · have hq := hin q h1
        exact ⟨q, by rw [look_cons, if_neg (Ne.symm hq)]; exact h1, by rw [go q hq]; exact h2, by rw [go q hq]; exact h3⟩
      · exact ⟨s.nx, by rw [look_cons, if_pos rfl]; rfl, by rw [gn], by rw [gn]⟩
  obtain ⟨S', hS'⟩ : ∃ S' : Fr, S' = ⟨mine ((s.nx, O.st xs e) :: s.σ) g', fun b => S0.X b ∧ b ≠ B, S0.g0⟩ := ⟨_, rfl⟩
  have hown : ∀ b, own S' ((s.nx, O.st xs e) :: s.σ) g' b ↔ own S0 s.σ g b := fun b => by
    subst hS'
    simp only [own, hm]
    constructor
    · rintro (⟨h1, -⟩ | h1 | rfl)
      · exact .inl h1
      · exact .inr h1
      · exact .inl hX
    · rintro (h1 | h1)
      · by_cases eb : b = B
        · exact .inr (.inr eb)
        · exact .inl ⟨h1, eb⟩
      · exact .inr (.inl h1)
  have hnm : ¬ mine s.σ g B := fun hmB => h.apart hmB hX
  refine ⟨g', S', ⟨⟨fun q o hq => ?_, fun q r hq hr h1 h2 h3 => ?_⟩, fun t x hx => ?_, h.sz, Kp.refl _ _, fun b hmb => .inl (by subst hS'; exact hmb), fun q hq hs => ?_, Nat.le_succ_of_le h.nx, fun b hx => ?_⟩, ⟨hB.kpw h, fun b hmb => ?_, by subst hS'; exact hB.g0, hB.dj, fun b => ?_, fun p hp => hB.new p (List.mem_filter.1 hp).1, fun j b b' h1 h2 => hB.ku j b b' (List.mem_filter.1 h1).1 (List.mem_filter.1 h2).1, fun j j' b h1 h2 => hB.bu j j' b (List.mem_filter.1 h1).1 (List.mem_filter.1 h2).1⟩, by rw [gn], by rw [gn]⟩
  · simp only at hq
    rw [look_cons] at hq
    by_cases eq : s.nx = q
    · subst eq; rw [if_pos rfl] at hq; cases hq
      rw [gn]
      exact ⟨rfl, vs, hb, RVs_zBs hz⟩
    · rw [if_neg eq] at hq
      have hq2 := hin q (by rw [hq]; rfl)
      rw [go q hq2]
      exact RO_keep (fun _ _ _ => rfl) (Nat.le_refl _) (fun b _ hn ho => hn ((hown b).1 ho)) (fun _ => rfl) (fun r hr => go r fun er => hS (er ▸ (refs_lookS hq).2 r hr)) (h.ob.objs q o hq)
  · simp only at hq hr
    rw [look_cons] at hq hr
    by_cases eq : s.nx = q
    · by_cases er : s.nx = r
      · rw [← eq, ← er]
      · rw [if_neg er] at hr
        subst eq
        rw [go r (Ne.symm er)] at h2 h3
        rw [gn] at h3
        exact absurd ⟨r, hr, h2, h3.symm⟩ hnm
    · rw [if_neg eq] at hq
      rw [go q (Ne.symm eq)] at h1 h3
      by_cases er : s.nx = r
      · subst er
        rw [gn] at h3
        exact absurd ⟨q, hq, h1, h3⟩ hnm
      · rw [if_neg er] at hr
        rw [go r (Ne.symm er)] at h2 h3
        exact h.ob.inj q r hq hr h1 h2 h3
  · exact RV_keep (fun _ _ _ => rfl) (Nat.le_refl _) (fun b _ hn ho => hn ((hown b).1 ho)) x _ (fun q hq => go q fun eq => hA (eq ▸ refs_look hx q hq)) (h.ra t x hx)
  · simp only at hs
    have hne : ¬ s.nx = q := by have := h.nx; omega
    rw [look_cons, if_neg hne] at hs
    rw [go q (Ne.symm hne), h.pin q hq hs]; subst hS'; rfl
  · subst hS'
    have h1 := h.dj b hx.1
    refine ⟨fun hmb => ?_, Nat.lt_of_lt_of_le h1.2 h.kp.size⟩
    rcases (hm b).1 hmb with h2 | h2
    · exact h.apart h2 hx.1
    · exact hx.2 h2
  · subst hS'
    rcases (hm b).1 hmb with h1 | rfl
    · exact hB.ours h h1
    · exact .inr (hB.new _ hi)
  · subst hS'
    simp only [List.mem_filter, Bool.not_eq_true']
    have hXb := hB.X b
    constructor
    · rintro ⟨h1, h2⟩
      rcases hXb.1 h1 with h3 | ⟨j, h3⟩
      · exact .inl h3
      · refine .inr ⟨j, h3, ?_⟩
        cases hj : Nat.beq j i with
        | false => rfl
        | true => obtain rfl := beq_iff.1 hj; exact absurd (hB.ku _ _ _ h3 hi) h2
    · rintro (h1 | ⟨j, h1, h2⟩)
      · refine ⟨hXb.2 (.inl h1), fun eb => ?_⟩
        have h3 := (hB.dj b h1).2
        have h4 := hB.new _ hi
        simp only at h4
        omega
      · refine ⟨hXb.2 (.inr ⟨j, h1⟩), fun eb => ?_⟩
        subst eb
        obtain rfl := hB.bu _ _ _ h1 hi
        rw [beq_iff.2 rfl] at h2; cases h2
/-- what lies ahead of its turn lies there still -/
theorem Bs.there (hB : Bs wO SO w0 S0 E) (h : Rel w0 S0 N g s T w) {j B : Nat} (hj : (j, B) ∈ E) : w.heap[B]? = w0.heap[B]? := by
  have hx := h.dj B ((hB.X B).2 (.inr ⟨j, hj⟩))
  exact h.kp.block B hx.2 hx.1
def Ordd (ops : Array Oper) : List Nat → Prop
  | [] => True
  | j :: l => (∀ k ∈ l, dirB ops k j = false ∧ k ≠ j) ∧ Ordd ops l
def unl (listed : Array Bool) (j : Nat) : Prop := listed.getD j true = false
theorem vdr_step {i : Nat} {rc : List Nat} {r : List (Nat × List Nat)} (h : Rel w0 S0 N g s T w) (ho : ops[i]? = some o) (hk : vdr H TT Tri ops ((i, rc) :: r) s K) :
    (∃ s', Rel w0 S0 N g s' T w ∧ Region.wanted o (yielded ops T) = true ∧ vop H TT Tri o s' (fun v s => vrcs H TT Tri ops (AM.put o.dst v s) rc ∧ vdr H TT Tri ops r (AM.put o.dst v s) K)) ∨
    (∃ s', Rel w0 S0 N g s' T w ∧ Region.wanted o (yielded ops T) = false ∧ vrcs H TT Tri ops (AM.put o.dst (.v undef) s') rc ∧ vdr H TT Tri ops r (AM.put o.dst (.v undef) s') K) := by
  simp only [vdr, ho, need] at hk
  cases hgd : o.guard with
  | none => simp only [hgd] at hk; exact .inl ⟨s, h, by simp [Region.wanted, hgd], hk⟩
  | some p =>
    obtain ⟨j, want⟩ := p
    simp only [hgd] at hk
    split at hk
    · rename_i gv h1
      split at hk
      · rename_i x
        have hy := yielded_at h h1
        have hagain := h.again h1
        cases want <;> cases x <;> simp only at hk
        · exact .inl ⟨_, hagain, by simp [Region.wanted, hgd, hy], hk⟩
        · exact .inr ⟨_, hagain, by simp [Region.wanted, hgd, hy], hk⟩
        · exact .inr ⟨_, hagain, by simp [Region.wanted, hgd, hy], hk⟩
        · exact .inl ⟨_, hagain, by simp [Region.wanted, hgd, hy], hk⟩
      · have hy := yielded_no h h1
        exact .inr ⟨_, h, by simp [Region.wanted, hgd, hy], hk⟩
      · exact hk.elim
    · exact hk.elim
theorem vrcs_at : ∀ {rc : List Nat} {s : S}, vrcs H TT Tri ops s rc → ∀ j, j ∈ rc → vchk H TT Tri ops s j
  | [], _, _, j, hj => by cases hj
  | k :: rc, s, h, j, hj => by
    rcases List.mem_cons.1 hj with rfl | hj
    · exact h.1
    · exact vrcs_at h.2 j hj
/-- how far a region is -/
structure DI (P : Program) (TT : Nat → TS) (d0 : List Deferred) (ops : Array Oper) (wO : World) (SO : Fr) (N : Nat) (E : List (Nat × Nat)) (w0 : World) (S0 : Fr) (pre : List Nat) (post : List (Nat × List Nat)) (s : S) (g : G) (T : Array Value) (listed : Array Bool) (a : Act) (w : World) : Prop where
  dfr : a.defers = d0
  rel : Rel w0 S0 N g s T w
  sz : a.tmps.size = N
  ok : okStep TT ops pre post = true
  all : ∀ j, j < ops.size → j ∈ pre ∨ j ∈ post.map (·.1)
  lsz : listed.size = ops.size
  un : ∀ p ∈ post, unl listed p.1 ∨ ∃ b, (p.1, b) ∈ E
  hard : ∀ j ∈ pre, ∀ o, ops[j]? = some o → softO TT o.op = false → listed.getD j false = true
  clo : ∀ j k, listed.getD j false = true → dirB ops j k = true → listed.getD k false = true
  same : ∀ t, (∀ j ∈ pre, unl listed j → ∀ o, ops[j]? = some o → o.dst ≠ some t) → (∀ j b, (j, b) ∈ E → ∀ o, ops[j]? = some o → o.dst ≠ some t) → T[t]? = a.tmps[t]?
  yt : ∀ j ∈ pre, unl listed j → ∀ o, ops[j]? = some o → ∃ val d, o.dst = some d ∧ T[d]? = some val ∧ YT P ops o val T w
  sd : ∀ j ∈ pre, ∀ o, ops[j]? = some o → softO TT o.op = true → okSoft ops j o = true
  dep : ∀ k ∈ pre, ∀ j, dirB ops k j = true → j ∈ pre
  ord : Ordd ops pre
  bs : Bs wO SO w0 S0 E
  eA : ∀ j b, (j, b) ∈ E → isAl TT ops j = true ∧ j ∉ pre ∧ listed.getD j false = true
  eZ : ∀ j b, (j, b) ∈ E → ∀ o t d, ops[j]? = some o → o.op = .alloc t → o.dst = some d → a.tmps[d]? = some (.pointer (some ⟨b, 0, none⟩)) ∧ ∃ z, w0.heap[b]? = some (.cells z t (0, 0)) ∧ zBs (TT t).z z.toList = true
theorem unl_lt {listed : Array Bool} {j : Nat} (h : unl listed j) : j < listed.size := by
  unfold unl at h
  rcases Nat.lt_or_ge j listed.size with h' | h'
  · exact h'
  · simp [Array.getElem?_eq_none h'] at h
theorem unl_not {listed : Array Bool} {j : Nat} (h : unl listed j) : ¬ listed.getD j false = true := by
  have hl := unl_lt h
  unfold unl at h
  simp [hl] at h ⊢
  exact h
theorem not_unl {listed : Array Bool} {j : Nat} (hl : j < listed.size) (h : ¬ unl listed j) : listed.getD j false = true := by
  unfold unl at h
  simp [hl] at h ⊢
  exact h
theorem unl_set {listed : Array Bool} {i j : Nat} : unl (listed.setIfInBounds i true) j ↔ unl listed j ∧ i ≠ j := by
  unfold unl
  by_cases e : i = j
  · subst e
    constructor
    · intro h
      exfalso
      by_cases hl : i < listed.size
      · simp [hl] at h
      · rw [Array.getD_eq_getD_getElem?, Array.getElem?_eq_none (by simp; omega)] at h; cases h
    · rintro ⟨_, h⟩; exact absurd rfl h
  · rw [getD_set_ne true e]; simp [e]
variable (hH : ∀ α x, H α x = x) (hT : TTok P TT) (hTri : ∀ f xs σ R, Tri f xs σ R → TriS P f xs σ R)
section
include hH hT
theorem vgd_ok (h : Rel w0 S0 N g s T w) (hs : softO TT o.op = true) {K : V → Prop} (hk : vgd H TT Tri ops o s K) : ∃ v val, K v ∧ RV g w (own S0 s.σ g) v val ∧ YT P ops o val T w := by
  have go : vop H TT Tri o s (fun v _ => K v) → Region.wanted o (yielded ops T) = true → ∃ v val, K v ∧ RV g w (own S0 s.σ g) v val ∧ YT P ops o val T w := fun hk hw => by
    obtain ⟨v, val, h1, h2, h3⟩ := vop_look (a := ⟨T, []⟩) hH hT h hs hk
    exact ⟨v, val, h1, h2, .inl ⟨hw, h3⟩⟩
  unfold vgd at hk
  cases hgd : o.guard with
  | none => simp only [hgd] at hk; exact go hk (by simp [Region.wanted, hgd])
  | some p =>
    obtain ⟨j, want⟩ := p
    simp only [hgd] at hk
    obtain ⟨gv, h1, hk1⟩ := need_some hk
    clear hk
    split at hk1
    · rename_i x
      have hy := yielded_at h h1
      cases want <;> cases x <;> simp only at hk1
      · exact go hk1 (by simp [Region.wanted, hgd, hy])
      · exact ⟨.v undef, undef, hk1, rfl, .inr ⟨by simp [Region.wanted, hgd, hy], rfl⟩⟩
      · exact ⟨.v undef, undef, hk1, rfl, .inr ⟨by simp [Region.wanted, hgd, hy], rfl⟩⟩
      · exact go hk1 (by simp [Region.wanted, hgd, hy])
    · have hy := yielded_no h h1
      exact ⟨.v undef, undef, hk1, rfl, .inr ⟨by simp [Region.wanted, hgd, hy], rfl⟩⟩
    · exact hk1.elim
theorem repatch (hsel : ∀ (j : Nat) (o : Oper), ops[j]? = some o → notSel o.op = true) (hN : ∀ (j : Nat) (o : Oper) (d : Nat), ops[j]? = some o → o.dst = some d → d < N) (U : Nat → Prop) : ∀ (l : List Nat), Ordd ops l → (∀ j ∈ l, U j → (∀ o, ops[j]? = some o → softO TT o.op = true ∧ okSoft ops j o = true) ∧ vchk H TT Tri ops s j) → Rel w0 S0 N g s T w →
    ∃ T', Rel w0 S0 N g s T' w ∧ (∀ t, (∀ j ∈ l, U j → ∀ o, ops[j]? = some o → o.dst ≠ some t) → T'[t]? = T[t]?) ∧ ∀ j ∈ l, U j → ∀ o, ops[j]? = some o → ∃ val d, o.dst = some d ∧ T'[d]? = some val ∧ YT P ops o val T' w
  | [], _, _, h => ⟨T, h, fun _ _ => rfl, fun j hj => by cases hj⟩
  | j :: l, ho, hc, h => by
    obtain ⟨T1, h1, h2, h3⟩ := repatch hsel hN U l ho.2 (fun k hk => hc k (by simp [hk])) h
    by_cases hU : U j
    · obtain ⟨hs, hv⟩ := hc j (by simp) hU
      unfold vchk at hv
      split at hv
      · exact hv.elim
      · rename_i o hoj
        obtain ⟨d, hd, hv⟩ := need_some hv
        obtain ⟨u, hu, hv⟩ := need_some hv
        obtain ⟨hs1, hs2⟩ := hs o hoj
        obtain ⟨d', hd', hs3, hs4⟩ := okSoft_iff hs2
        rw [hd] at hd'; cases hd'
        obtain ⟨v, val, hvu, hrv, hyt⟩ := vgd_ok hH hT h1 hs1 hv
        obtain rfl := veq_eq hvu
        have hdN := hN j o d hoj hd
        have hget : ∀ t, t ≠ d → (T1.setIfInBounds d val)[t]? = T1[t]? := fun t ht => Array.getElem?_setIfInBounds_ne (Ne.symm ht)
        have hgd : (T1.setIfInBounds d val)[d]? = some val := Array.getElem?_setIfInBounds_self_of_lt (by have := h1.sz; omega)
        refine ⟨T1.setIfInBounds d val, h1.over hu hdN hrv, fun t ht => ?_, fun k hk hUk p hp => ?_⟩
        · rw [hget t (fun e => ht j (by simp) hU o hoj (e ▸ hd))]
          exact h2 t (fun k hk => ht k (by simp [hk]))
        · rcases List.mem_cons.1 hk with rfl | hk
          · rw [hoj] at hp; cases hp
            exact ⟨val, d, hd, hgd, hyt.agree (hsel _ _ hoj) (fun t ht => hget t (fun e => hs3 (e ▸ ht)))⟩
          · obtain ⟨val', d', k1, k2, k3⟩ := h3 k hk hUk p hp
            obtain ⟨q1, q2⟩ := ho.1 k hk
            obtain ⟨q3, q4⟩ := hs4 k p hp q2
            refine ⟨val', d', k1, ?_, k3.agree (hsel _ _ hp) (fun t ht => hget t (fun e => ?_))⟩
            · rw [hget d' (fun e => q3 (e ▸ k1))]; exact k2
            · rw [q4 (e ▸ ht)] at q1; cases q1
    · refine ⟨T1, h1, fun t ht => h2 t (fun k hk => ht k (by simp [hk])), fun k hk hUk p hp => ?_⟩
      rcases List.mem_cons.1 hk with rfl | hk
      · exact absurd hUk hU
      · exact h3 k hk hUk p hp
/-- what only looks is looked at in thought; what was made ahead of its turn has its turn -/
theorem DI.sat (hsel : ∀ (j : Nat) (o : Oper), ops[j]? = some o → notSel o.op = true) (hN : ∀ (j : Nat) (o : Oper) (d : Nat), ops[j]? = some o → o.dst = some d → d < N) {listed : Array Bool} : ∀ {post : List (Nat × List Nat)} {pre : List Nat} {s : S} {T : Array Value} {g : G} {E : List (Nat × Nat)} {w0 : World} {S0 : Fr}, DI P TT d0 ops wO SO N E w0 S0 pre post s g T listed a w → vdr H TT Tri ops post s K →
    ∃ pre' post' s' T' g' E' w0' S0', DI P TT d0 ops wO SO N E' w0' S0' pre' post' s' g' T' listed a w ∧ vdr H TT Tri ops post' s' K ∧ ∀ i rc r, post' = (i, rc) :: r → (∀ o, ops[i]? = some o → softO TT o.op = false) ∧ unl listed i
  | [], pre, s, T, g, E, w0, S0, h, hk => ⟨pre, [], s, T, g, E, w0, S0, h, hk, fun _ _ _ e => by cases e⟩
  | (i, rc) :: r, pre, s, T, g, E, w0, S0, h, hk => by
    obtain ⟨o, ho, hni, hdep, hok, hsh⟩ := okStep_cons h.ok
    have hrout := okStep_out hok
    rcases hsh with ⟨hs, hsd⟩ | ⟨hs, -⟩
    · obtain ⟨d, hd, hs3, hs4⟩ := okSoft_iff hsd
      have hdN := hN i o d ho hd
      have hnE : ∀ b, (i, b) ∉ E := fun b hb => by
        have := isAl_hard (h.eA i b hb).1 ho
        rw [hs] at this; cases this
      have hnext : ∃ s' v val, Rel w0 S0 N g s' T w ∧ RV g w (own S0 s'.σ g) v val ∧ YT P ops o val T w ∧ vdr H TT Tri ops r (AM.put o.dst v s') K := by
        rcases vdr_step h.rel ho hk with ⟨s', h1, h2, h3⟩ | ⟨s', h1, h2, h3⟩
        · obtain ⟨v, val, h4, h5, h6⟩ := vop_look (a := ⟨T, []⟩) hH hT h1 hs h3
          exact ⟨s', v, val, h1, h5, .inl ⟨h2, h6⟩, h4.2⟩
        · exact ⟨s', .v undef, undef, h1, rfl, .inr ⟨h2, rfl⟩, h3.2⟩
      obtain ⟨s', v, val, h1, h2, h3, h4⟩ := hnext
      have hui : unl listed i := by
        rcases h.un (i, rc) (by simp) with h | ⟨b, hb⟩
        · exact h
        · exact absurd hb (hnE b)
      have hget : ∀ t, t ≠ d → (T.setIfInBounds d val)[t]? = T[t]? := fun t ht => Array.getElem?_setIfInBounds_ne (Ne.symm ht)
      refine DI.sat hsel hN (post := r) (pre := i :: pre) (T := T.setIfInBounds d val) (g := g) ⟨h.dfr, ?_, h.sz, hok, fun j hj => ?_, h.lsz, fun p hp => h.un p (by simp [hp]), fun j hj p hp hps => ?_, h.clo, fun t ht hte => ?_, fun j hj hu p hp => ?_, fun j hj p hp hps => ?_, fun k hk j hj => ?_, ?_, h.bs, fun j b hj => ⟨(h.eA j b hj).1, fun hm => ?_, (h.eA j b hj).2.2⟩, h.eZ⟩ h4
      · rw [hd]; exact h1.put hdN h2
      · have := h.all j hj
        simp only [List.map_cons, List.mem_cons] at this ⊢
        rcases this with h | h | h
        · exact .inl (.inr h)
        · exact .inl (.inl h)
        · exact .inr h
      · rcases List.mem_cons.1 hj with rfl | hj
        · rw [ho] at hp; cases hp; rw [hs] at hps; cases hps
        · exact h.hard j hj p hp hps
      · rw [hget t (fun e => ht i (by simp) hui o ho (e ▸ hd))]
        exact h.same t (fun j hj => ht j (by simp [hj])) hte
      · rcases List.mem_cons.1 hj with rfl | hj
        · rw [ho] at hp; cases hp
          exact ⟨val, d, hd, Array.getElem?_setIfInBounds_self_of_lt (by have := h1.sz; omega), h3.agree (hsel _ _ ho) (fun t ht => hget t (fun e => hs3 (e ▸ ht)))⟩
        · obtain ⟨val', d', k1, k2, k3⟩ := h.yt j hj hu p hp
          have hne : j ≠ i := fun e => hni (e ▸ hj)
          obtain ⟨q3, q4⟩ := hs4 j p hp hne
          refine ⟨val', d', k1, ?_, k3.agree (hsel _ _ hp) (fun t ht => hget t (fun e => ?_))⟩
          · rw [hget d' (fun e => q3 (e ▸ k1))]; exact k2
          · exact hni (h.dep j hj i (q4 (e ▸ ht)))
      · rcases List.mem_cons.1 hj with rfl | hj
        · rw [ho] at hp; cases hp; exact hsd
        · exact h.sd j hj p hp hps
      · rcases List.mem_cons.1 hk with rfl | hk
        · exact List.mem_cons_of_mem _ (hdep j hj)
        · exact List.mem_cons_of_mem _ (h.dep k hk j hj)
      · refine ⟨fun k hk => ⟨?_, fun e => hni (e ▸ hk)⟩, h.ord⟩
        cases hb : dirB ops k i with
        | false => rfl
        | true => exact absurd (h.dep k hk i hb) hni
      · rcases List.mem_cons.1 hm with rfl | hm
        · exact hnE b hj
        · exact (h.eA j b hj).2.1 hm
    · by_cases hE : ∃ b, (i, b) ∈ E
      · obtain ⟨B, hE⟩ := hE
        obtain ⟨hal, -, hli⟩ := h.eA i B hE
        obtain ⟨o', t, ho', hop, hgd, hsd, hid, harr⟩ := isAl_iff hal
        rw [ho] at ho'; cases ho'
        obtain ⟨d, hd, hs3, hs4⟩ := okSoft_iff hsd
        have hdN := hN i o d ho hd
        obtain ⟨hptr, z, hz0, hzz⟩ := h.eZ i B hE o t d ho hop hd
        have hzw : w.heap[B]? = some (.cells z t (0, 0)) := (h.bs.there h.rel hE).trans hz0
        have hk' := hk
        simp only [vdr, ho, need, hgd] at hk'
        unfold vop at hk'
        simp only [hop] at hk'
        obtain ⟨T0, rfl, hk', -⟩ := ty_ok hT hk'
        rw [harr] at hk'
        obtain ⟨hA, hS, -, hK⟩ := fresh_mem hk'
        obtain ⟨g', S', hrel, hbs, hgb, hgv⟩ := h.bs.absorb h.rel.bmp hE hzw hzz hA hS
        have hget : ∀ q, q ≠ d → (T.setIfInBounds d (.pointer (some ⟨B, 0, none⟩)))[q]? = T[q]? := fun q hq => Array.getElem?_setIfInBounds_ne (Ne.symm hq)
        have hsub : ∀ j b, (j, b) ∈ E.filter (fun p => !(Nat.beq p.1 i)) → (j, b) ∈ E ∧ j ≠ i := fun j b hj => by
          obtain ⟨h1, h2⟩ := List.mem_filter.1 hj
          refine ⟨h1, fun e => ?_⟩
          rw [beq_iff.2 e] at h2; cases h2
        have hsub2 : ∀ j b, (j, b) ∈ E → j ≠ i → (j, b) ∈ E.filter (fun p => !(Nat.beq p.1 i)) := fun j b h1 h2 => by
          refine List.mem_filter.2 ⟨h1, ?_⟩
          cases hb : Nat.beq j i with
          | false => simp [hb]
          | true => exact absurd (beq_iff.1 hb) h2
        have hli' : ¬ unl listed i := fun hu => unl_not hu hli
        refine DI.sat hsel hN (post := r) (pre := i :: pre) (T := T.setIfInBounds d (.pointer (some ⟨B, 0, none⟩))) (w0 := w) (S0 := S') (g := g') ⟨h.dfr, ?_, h.sz, hok, fun j hj => ?_, h.lsz, fun p hp => ?_, fun j hj p hp hps => ?_, h.clo, fun q hq hqe => ?_, fun j hj hu p hp => ?_, fun j hj p hp hps => ?_, fun k hk j hj => ?_, ?_, hbs, fun j b hj => ?_, fun j b hj p q e hp hpo hpd => ?_⟩ hK.2
        · rw [hd]; exact hrel.put hdN ⟨by rw [hgb], hgv⟩
        · have := h.all j hj
          simp only [List.map_cons, List.mem_cons] at this ⊢
          rcases this with h | h | h
          · exact .inl (.inr h)
          · exact .inl (.inl h)
          · exact .inr h
        · have hpi : p.1 ≠ i := fun e => hrout p hp (by simp [e])
          rcases h.un p (by simp [hp]) with h1 | ⟨b, h1⟩
          · exact .inl h1
          · exact .inr ⟨b, hsub2 _ _ h1 hpi⟩
        · rcases List.mem_cons.1 hj with rfl | hj
          · exact hli
          · exact h.hard j hj p hp hps
        · by_cases e : q = d
          · subst e
            rw [hptr]
            exact Array.getElem?_setIfInBounds_self_of_lt (by have := h.rel.sz; omega)
          · rw [hget q e]
            refine h.same q (fun j hj => hq j (by simp [hj])) fun j b hj p hp => ?_
            by_cases eji : j = i
            · subst eji; rw [ho] at hp; cases hp; rw [hd]; exact fun h => e (by cases h; rfl)
            · exact hqe j b (hsub2 _ _ hj eji) p hp
        · rcases List.mem_cons.1 hj with rfl | hj
          · exact absurd hu hli'
          · obtain ⟨val', d', k1, k2, k3⟩ := h.yt j hj hu p hp
            have hne : j ≠ i := fun e => hni (e ▸ hj)
            obtain ⟨q3, q4⟩ := hs4 j p hp hne
            refine ⟨val', d', k1, ?_, k3.agree (hsel _ _ hp) (fun t ht => hget t (fun e => ?_))⟩
            · rw [hget d' (fun e => q3 (e ▸ k1))]; exact k2
            · exact hni (h.dep j hj i (q4 (e ▸ ht)))
        · rcases List.mem_cons.1 hj with rfl | hj
          · rw [ho] at hp; cases hp; rw [hs] at hps; cases hps
          · exact h.sd j hj p hp hps
        · rcases List.mem_cons.1 hk with rfl | hk
          · exact List.mem_cons_of_mem _ (hdep j hj)
          · exact List.mem_cons_of_mem _ (h.dep k hk j hj)
        · refine ⟨fun k hk => ⟨?_, fun e => hni (e ▸ hk)⟩, h.ord⟩
          cases hb : dirB ops k i with
          | false => rfl
          | true => exact absurd (h.dep k hk i hb) hni
        · obtain ⟨h1, h2⟩ := hsub j b hj
          refine ⟨(h.eA j b h1).1, fun hm => ?_, (h.eA j b h1).2.2⟩
          rcases List.mem_cons.1 hm with rfl | hm
          · exact h2 rfl
          · exact (h.eA j b h1).2.1 hm
        · obtain ⟨h1, h2⟩ := hsub j b hj
          obtain ⟨h3, z', h4, h5⟩ := h.eZ j b h1 p q e hp hpo hpd
          exact ⟨h3, z', (h.bs.there h.rel h1).trans h4, h5⟩
      · refine ⟨pre, _, s, T, g, E, w0, S0, h, hk, fun i' rc' r' e => ?_⟩
        cases e
        refine ⟨fun p hp => by rw [ho] at hp; cases hp; exact hs, ?_⟩
        rcases h.un (i, rc) (by simp) with h1 | h1
        · exact h1
        · exact absurd h1 hE
end
end
end Go.Proofs.Ytilmhjojbolbeaa.AM

namespace Go.Proofs.Ytilmhjojbolbeaa.AM
open Go

section
variable {d0 : List Deferred} {P : Program} {H : (α : Type) → α → α} {TT : Nat → TS} {Tri : Spec} {w0 : World} {S0 : Fr} {N : Nat} {g : G} {s : S} {a : Act} {w : World} {o : Oper} {tmps T : Array Value} {ops : Array Oper} {K : S → Prop} {pre : List Nat} {post : List (Nat × List Nat)} {listed : Array Bool} {wO : World} {SO : Fr} {E : List (Nat × Nat)}
theorem countP_lt {p q : Nat → Bool} : ∀ {l : List Nat}, (∀ x ∈ l, q x = true → p x = true) → ∀ {i : Nat}, i ∈ l → p i = true → q i = false → l.countP q < l.countP p
  | [], _, i, hi, _, _ => by cases hi
  | x :: l, h, i, hi, hp, hq => by
    have hle : l.countP q ≤ l.countP p := List.countP_mono_left (fun x hx => h x (by simp [hx]))
    rw [List.countP_cons, List.countP_cons]
    rcases List.mem_cons.1 hi with rfl | hi
    · rw [hp, hq]; simp; omega
    · have := countP_lt (fun x hx => h x (by simp [hx])) hi hp hq
      have hx := h x (by simp)
      cases hqx : q x with
      | false => simp; omega
      | true => rw [hx hqx]; simp; omega
def cnt (ops : Array Oper) (listed : Array Bool) : Nat := (List.range ops.size).countP fun j => !(listed.getD j true)
theorem cnt_set {i : Nat} (hi : i < ops.size) (hu : unl listed i) : cnt ops (listed.setIfInBounds i true) < cnt ops listed := by
  refine countP_lt (fun x _ hx => ?_) (List.mem_range.2 hi) (by unfold unl at hu; simpa using hu) ?_
  · have h1 : unl (listed.setIfInBounds i true) x := by unfold unl; simpa using hx
    have := (unl_set.1 h1).1
    unfold unl at this; simpa using this
  · have h1 : ¬ unl (listed.setIfInBounds i true) i := fun h => (unl_set.1 h).2 rfl
    unfold unl at h1; simpa using h1
theorem rc_forced {rc : List Nat} (hclo : ∀ j k, listed.getD j false = true → dirB ops j k = true → listed.getD k false = true) : ∀ {pre fd : List Nat}, okRc TT ops rc fd pre = true → (∀ f ∈ fd, ∀ k, dirB ops f k = true → listed.getD k false = true) → (∀ j ∈ pre, hdO TT ops j = true → listed.getD j false = true) → ∀ j ∈ pre, j ∉ rc → listed.getD j false = true
  | [], _, _, _, _, j, hj, _ => by cases hj
  | k :: pre, fd, h, hf, hh, j, hj, hjr => by
    simp only [okRc] at h
    split at h
    · rename_i hm
      rcases List.mem_cons.1 hj with rfl | hj
      · exact absurd ((mem_iff _ _).1 hm) hjr
      · exact rc_forced hclo h hf (fun j hj => hh j (by simp [hj])) j hj hjr
    · split at h
      · rename_i hm
        have hk : listed.getD k false = true := by
          rcases Bool.or_eq_true _ _ ▸ hm with hm | hm
          · exact hh k (by simp) hm
          · obtain ⟨f, hf1, hf2⟩ := List.any_eq_true.1 hm
            exact hf f hf1 k hf2
        rcases List.mem_cons.1 hj with rfl | hj
        · exact hk
        · exact rc_forced hclo h (fun f' hf' q hq => by
            rcases List.mem_cons.1 hf' with rfl | hf'
            · exact hclo _ _ hk hq
            · exact hf f' hf' q hq) (fun j hj => hh j (by simp [hj])) j hj hjr
      · cases h
theorem clo_set {i : Nat} (hclo : ∀ j k, listed.getD j false = true → dirB ops j k = true → listed.getD k false = true) (hr : ∀ k, dirB ops i k = true → listed.getD k false = true) :
    ∀ j k, (listed.setIfInBounds i true).getD j false = true → dirB ops j k = true → (listed.setIfInBounds i true).getD k false = true := fun j k hj hd => by
  by_cases e : i = j
  · subst e; exact getD_set_true (hr k hd)
  · rw [getD_set_ne false e] at hj; exact getD_set_true (hclo j k hj hd)
theorem ready_at {i : Nat} (h : i ∈ Region.ready .any ops listed) : unl listed i ∧ ∃ o, ops[i]? = some o ∧ ∀ k, dirB ops i k = true → listed.getD k false = true := by
  obtain ⟨h1, o, ho, h2⟩ := mem_ready.1 h
  refine ⟨h1, o, ho, fun k hk => ?_⟩
  obtain ⟨o', h3, e, he, hb, rfl⟩ := dirB_iff.1 hk
  rw [ho] at h3; cases h3
  exact h2 e he hb
theorem DI.soft (h : DI P TT d0 ops wO SO N E w0 S0 pre post s g T listed a w) {j : Nat} (hj : j ∈ pre) (hu : unl listed j) {p : Oper} (hp : ops[j]? = some p) : softO TT p.op = true ∧ okSoft ops j p = true := by
  have hs : softO TT p.op = true := by
    cases hb : softO TT p.op with
    | true => rfl
    | false => exact absurd (h.hard j hj p hp hb) (unl_not hu)
  exact ⟨hs, h.sd j hj p hp hs⟩
theorem DI.agree (h : DI P TT d0 ops wO SO N E w0 S0 pre post s g T listed a w) {i : Nat} {o : Oper} (ho : ops[i]? = some o) (hu : unl listed i) (hpre : ∀ k, dirB ops i k = true → k ∈ pre) (hr : ∀ k, dirB ops i k = true → listed.getD k false = true) : ∀ t, t ∈ o.looksAt ops → T[t]? = a.tmps[t]? := fun t ht => by
  refine h.same t (fun j hj hu p hp e => ?_) fun j b hj p hp e => ?_
  · obtain ⟨d, hd, h1, h2⟩ := okSoft_iff (h.soft hj hu hp).2
    rw [e] at hd; cases hd
    by_cases hij : i = j
    · subst hij; rw [ho] at hp; cases hp; exact h1 ht
    · exact unl_not hu (hr j ((h2 i o ho hij).2 ht))
  · obtain ⟨hal, hjp, hjl⟩ := h.eA j b hj
    obtain ⟨o', t', ho', -, -, hsd, -⟩ := isAl_iff hal
    rw [hp] at ho'; cases ho'
    obtain ⟨d, hd, h1, h2⟩ := okSoft_iff hsd
    rw [e] at hd; cases hd
    by_cases hij : i = j
    · subst hij; exact unl_not hu hjl
    · exact hjp (hpre j ((h2 i o ho hij).2 ht))
/-- what was made ahead of its turn is written by none other -/
theorem DI.dst (h : DI P TT d0 ops wO SO N E w0 S0 pre post s g T listed a w) {i : Nat} {o : Oper} (ho : ops[i]? = some o) (hu : unl listed i) {j b : Nat} (hj : (j, b) ∈ E) {p : Oper} (hp : ops[j]? = some p) {d : Nat} (hd : p.dst = some d) : o.dst ≠ some d := by
  obtain ⟨hal, hjp, hjl⟩ := h.eA j b hj
  obtain ⟨o', t', ho', -, -, hsd, -⟩ := isAl_iff hal
  rw [hp] at ho'; cases ho'
  obtain ⟨d', hd', h1, h2⟩ := okSoft_iff hsd
  rw [hd] at hd'; cases hd'
  exact (h2 i o ho (fun e => unl_not hu (e ▸ hjl))).1
theorem put_other {d : Option Nat} {v : Value} {t : Nat} {a : Act} (h : d ≠ some t) : (a.put d v).tmps[t]? = a.tmps[t]? := by
  cases d with
  | none => rfl
  | some d => exact Array.getElem?_setIfInBounds_ne (fun e => h (by rw [e]))
theorem put_get {d : Option Nat} {v : Value} {t : Nat} {a b : Act} (hsz : a.tmps.size = b.tmps.size) (h : d ≠ some t → a.tmps[t]? = b.tmps[t]?) : (a.put d v).tmps[t]? = (b.put d v).tmps[t]? := by
  cases d with
  | none => exact h (by simp)
  | some d =>
    by_cases e : d = t
    · subst e; simp [Act.put, Array.getElem?_setIfInBounds, hsz]
    · simp only [Act.put, Array.getElem?_setIfInBounds_ne e]; exact h (by simp [e])
theorem put_size {d : Option Nat} {v : Value} : (a.put d v).tmps.size = a.tmps.size := by cases d <;> simp [Act.put]
/-- one that was looked at in thought is done -/
theorem DI.look (h : DI P TT d0 ops wO SO N E w0 S0 pre post s g T listed a w) {i : Nat} {o : Oper} (hi : i ∈ pre) (hu : unl listed i) (ho : ops[i]? = some o) (hr : ∀ k, dirB ops i k = true → listed.getD k false = true) {val : Value} {d : Nat} (hd : o.dst = some d) (hT : T[d]? = some val) : DI P TT d0 ops wO SO N E w0 S0 pre post s g T (listed.setIfInBounds i true) (a.put o.dst val) w := by
  have hnp := okStep_out h.ok
  refine ⟨by rw [AM.put_defers]; exact h.dfr, h.rel, by rw [put_size]; exact h.sz, h.ok, h.all, by simp [h.lsz], fun p hp => (h.un p hp).imp (fun h => unl_set.2 ⟨h, fun e => hnp p hp (e ▸ hi)⟩) id, fun j hj p hp hs => getD_set_true (h.hard j hj p hp hs), clo_set h.clo hr, fun t ht hte => ?_, fun j hj hu' p hp => h.yt j hj (unl_set.1 hu').1 p hp, h.sd, h.dep, h.ord, h.bs, fun j b hj => ⟨(h.eA j b hj).1, (h.eA j b hj).2.1, getD_set_true (h.eA j b hj).2.2⟩, fun j b hj p t e hp hpo hpd => ?_⟩
  · by_cases e : t = d
    · subst e
      rw [hd, hT]
      have hlt : t < a.tmps.size := by rw [h.sz, ← h.rel.sz]; exact (Array.getElem?_eq_some_iff.1 hT).1
      simp [Act.put, hlt]
    · rw [hd]
      simp only [Act.put, Array.getElem?_setIfInBounds_ne (Ne.symm e)]
      refine h.same t (fun j hj huj p hp hpt => ?_) hte
      by_cases hij : i = j
      · subst hij; rw [ho] at hp; cases hp; rw [hd] at hpt; cases hpt; exact e rfl
      · exact ht j hj (unl_set.2 ⟨huj, hij⟩) p hp hpt
  · rw [put_other (h.dst ho hu hj hp hpd)]
    exact h.eZ j b hj p t e hp hpo hpd
variable (hH : ∀ α x, H α x = x) (hT : TTok P TT) (hTri : ∀ f xs σ R, Tri f xs σ R → TriS P f xs σ R)
include hH hT hTri
theorem draw_go (hsel : ∀ (j : Nat) (o : Oper), ops[j]? = some o → notSel o.op = true) (hN : ∀ (j : Nat) (o : Oper) (d : Nat), ops[j]? = some o → o.dst = some d → d < N) (hlt : ∀ i j, dirB ops i j = true → j < i) {Q : Exit → S → Prop} :
    ∀ (fuel : Nat) (listed : Array Bool) (a : Act) (w : World) (pre : List Nat) (post : List (Nat × List Nat)) (s : S) (g : G) (T : Array Value) (E : List (Nat × Nat)) (w0 : World) (S0 : Fr), DI P TT d0 ops wO SO N E w0 S0 pre post s g T listed a w → (∀ i rc r, post = (i, rc) :: r → (∀ o, ops[i]? = some o → softO TT o.op = false) ∧ unl listed i) → cnt ops listed ≤ fuel → vdr H TT Tri ops post s (Q .normal) →
      wpAny P .any ops (Lift wO SO N d0 Q) fuel listed a w := by
  have hdone : ∀ {listed : Array Bool} {a : Act} {w : World} {pre : List Nat} {post : List (Nat × List Nat)} {s : S} {g : G} {T : Array Value} {E : List (Nat × Nat)} {w0 : World} {S0 : Fr}, DI P TT d0 ops wO SO N E w0 S0 pre post s g T listed a w → (∀ i rc r, post = (i, rc) :: r → (∀ o, ops[i]? = some o → softO TT o.op = false) ∧ unl listed i) → vdr H TT Tri ops post s (Q .normal) → (∀ j, j < ops.size → ¬ unl listed j) → Lift wO SO N d0 Q .normal a w := fun {listed a w pre post s g T E w0 S0} h hsat hk hall => by
    have hno : ∀ j, ¬ unl listed j := fun j hu => hall j (h.lsz ▸ unl_lt hu) hu
    cases post with
    | cons p r => exact absurd (hsat p.1 p.2 r rfl).2 (hno _)
    | nil =>
      have hE : E = [] := by
        cases E with
        | nil => rfl
        | cons p E =>
          exfalso
          obtain ⟨hal, hjp, -⟩ := h.eA p.1 p.2 (by simp)
          obtain ⟨o, t, ho, -⟩ := isAl_iff hal
          rcases h.all p.1 (Array.getElem?_eq_some_iff.1 ho).1 with h1 | h1
          · exact hjp h1
          · simp at h1
      subst hE
      have hTa : T = a.tmps := Array.ext_getElem? fun t => h.same t (fun j _ hu => absurd hu (hno j)) (fun j b hj => by cases hj)
      subst hTa
      exact ⟨by simp, h.dfr, s, g, h.bs.back h.rel, hk⟩
  intro fuel
  induction fuel with
  | zero =>
    intro listed a w pre post s g T E w0 S0 h hsat hc hk
    have hall : ∀ j, j < ops.size → ¬ unl listed j := fun j hj hu => by
      have := cnt_set hj hu; omega
    refine ⟨?_, hdone h hsat hk hall⟩
    rw [List.eq_nil_iff_forall_not_mem]
    intro i hi
    obtain ⟨hu, o, ho, -⟩ := ready_at hi
    exact hall i (Array.getElem?_eq_some_iff.1 ho).1 hu
  | succ fuel ih =>
    intro listed a w pre post s g T E w0 S0 h hsat hc hk
    refine ⟨fun hr => hdone h hsat hk fun j => ?_, fun i hi => ?_⟩
    · induction j using Nat.strongRecOn with
      | _ j ihj =>
        intro hj hu
        have : j ∈ Region.ready .any ops listed := by
          refine mem_ready.2 ⟨hu, ops[j], Array.getElem?_eq_getElem hj, fun e he hb => ?_⟩
          have hd : dirB ops j e.on = true := dirB_iff.2 ⟨_, Array.getElem?_eq_getElem hj, e, he, hb, rfl⟩
          have hl := hlt _ _ hd
          exact not_unl (by rw [h.lsz]; omega) (ihj e.on hl (by omega))
        rw [hr] at this; cases this
    · obtain ⟨hu, o, ho, hready⟩ := ready_at hi
      have hisz : i < ops.size := (Array.getElem?_eq_some_iff.1 ho).1
      have hcnt := cnt_set (listed := listed) hisz hu
      unfold wpOp
      simp only [ho]
      -- a thing that is made ahead of its turn
      have hfree : isAl TT ops i = true → i ∉ pre → (∀ rc r, post ≠ (i, rc) :: r) → ∀ j ∈ pre, wS TT ops j = true := fun hal hip hne => by
        have hpost : ∃ p ∈ post, p.1 = i := by
          have := (h.all i hisz).resolve_left hip
          simpa using this
        cases post with
        | nil => obtain ⟨p, hp, _⟩ := hpost; cases hp
        | cons hd r =>
          obtain ⟨i0, rc⟩ := hd
          obtain ⟨o0, ho0, hni, hdep, hok, hsh⟩ := okStep_cons h.ok
          have hs0 := (hsat i0 rc r rfl).1 o0 ho0
          have hu0 := (hsat i0 rc r rfl).2
          obtain ⟨-, hrc, hlater⟩ := hsh.resolve_left (fun hx => by rw [hs0] at hx; cases hx.1)
          obtain ⟨p, hp, hpi⟩ := hpost
          rcases List.mem_cons.1 hp with rfl | hp
          · exact absurd (by rw [← hpi]) (hne rc r)
          · rcases hlater p hp with h1 | ⟨j, hj1, hj2, hj3⟩
            · exact h1.2
            · exfalso
              rw [hpi] at hj1
              have hl := hready j hj1
              rcases hj3 with rfl | hj3
              · exact unl_not hu0 hl
              · have hjs : j < listed.size := by
                  rcases Nat.lt_or_ge j listed.size with h' | h'
                  · exact h'
                  · simp [Array.getElem?_eq_none h'] at hl
                have hjp := (h.all j (h.lsz ▸ hjs)).resolve_left hj2
                obtain ⟨q, hq, hqj⟩ := List.mem_map.1 hjp
                rcases h.un q hq with h1 | ⟨b, h1⟩
                · exact unl_not (hqj ▸ h1) hl
                · have := (h.eA q.1 b h1).1
                  rw [hqj, hj3] at this; cases this
      by_cases hal : isAl TT ops i = true ∧ i ∉ pre ∧ ∀ rc r, post ≠ (i, rc) :: r
      · obtain ⟨hal, hip, hne⟩ := hal
        have hws := hfree hal hip hne
        obtain ⟨o', t, ho', hop, hgd, hsd, hid, harr⟩ := isAl_iff hal
        rw [ho] at ho'; cases ho'
        obtain ⟨d, hd, hs3, hs4⟩ := okSoft_iff hsd
        obtain ⟨ti, z, hi1, hi2, hzz, -, -⟩ := chk_zero (hT t hid) harr
        have hrun : (execOp a.eval o).run P w = .ok (.value (.pointer (some ⟨w.heap.size, 0, none⟩))) (w.alloc (.cells z.cells t)) := by
          have : execOp a.eval o = (do pure (.value (← Instr.alloc t true (.tuple #[])))) := by
            cases o; cases hop; rfl
          rw [this]
          simp [Instr.alloc, zeroValue, typeInfo, hi1, hi2, newVar, newRow]
        rw [if_pos (by simp [Region.wanted, hgd])]
        left
        unfold Oper.wp
        rw [hrun]
        have hiE : ∀ b, (i, b) ∉ E := fun b hb => unl_not hu (h.eA i b hb).2.2
        obtain ⟨hR, hB⟩ := h.bs.early h.rel (.cells z.cells t) hiE
        have hdN := hN i o d ho hd
        have hDI : DI P TT d0 ops wO SO N ((i, w.heap.size) :: E) (w.alloc (.cells z.cells t)) ⟨mine s.σ g, fun b => S0.X b ∨ b = w.heap.size, S0.g0⟩ pre post s g T (listed.setIfInBounds i true) (a.put o.dst (.pointer (some ⟨w.heap.size, 0, none⟩))) (w.alloc (.cells z.cells t)) := by
          refine ⟨by rw [AM.put_defers]; exact h.dfr, hR, by rw [put_size]; exact h.sz, h.ok, h.all, by simp [h.lsz], fun p hp => ?_, fun j hj p hp hps => getD_set_true (h.hard j hj p hp hps), clo_set h.clo hready, fun q hq hqe => ?_, fun j hj huj p hp => ?_, h.sd, h.dep, h.ord, hB, fun j b hj => ?_, fun j b hj p q e hp hpo hpd => ?_⟩
          · by_cases e : i = p.1
            · exact .inr ⟨w.heap.size, by simp [e]⟩
            · rcases h.un p hp with h1 | ⟨b, h1⟩
              · exact .inl (unl_set.2 ⟨h1, e⟩)
              · exact .inr ⟨b, by simp [h1]⟩
          · rw [put_other (hqe i w.heap.size (by simp) o ho)]
            exact h.same q (fun j hj huj p hp => hq j hj (unl_set.2 ⟨huj, fun e => hip (e ▸ hj)⟩) p hp) fun j b hj => hqe j b (by simp [hj])
          · obtain ⟨val', d', k1, k2, k3⟩ := h.yt j hj (unl_set.1 huj).1 p hp
            refine ⟨val', d', k1, k2, ?_⟩
            have hw1 := hws j hj
            unfold wS at hw1
            simp only [hp, (h.soft hj (unl_set.1 huj).1 hp).1, Bool.not_true, Bool.false_or] at hw1
            rcases k3 with ⟨q1, q2⟩ | q1
            · exact .inl ⟨q1, (op_sta hw1 _ _ _ q2).2 _⟩
            · exact .inr q1
          · rcases List.mem_cons.1 hj with e | hj
            · cases e
              exact ⟨hal, hip, by have : i < listed.size := unl_lt hu; simp [this]⟩
            · exact ⟨(h.eA j b hj).1, (h.eA j b hj).2.1, getD_set_true (h.eA j b hj).2.2⟩
          · rcases List.mem_cons.1 hj with e2 | hj
            · cases e2
              rw [ho] at hp; cases hp
              rw [hop] at hpo; cases hpo
              rw [hd] at hpd; cases hpd
              refine ⟨?_, z.cells, heap_alloc_new w _, hzz⟩
              rw [hd]
              exact Array.getElem?_setIfInBounds_self_of_lt (by have := h.sz; omega)
            · rw [put_other (h.dst ho hu hj hp hpd)]
              obtain ⟨h1, z', h2, h3⟩ := h.eZ j b hj p q e hp hpo hpd
              have h4 := (h.bs.there h.rel hj).trans h2
              exact ⟨h1, z', (blk_alloc _ (blk_size h4)).trans h4, h3⟩
        obtain ⟨pre', post', s', T', g', E', w0', S0', q1, q2, q3⟩ := DI.sat hH hT hsel hN hDI hk
        exact ih _ _ _ pre' post' s' g' T' E' w0' S0' q1 q3 (by omega) q2
      have hal' : i ∉ pre → (∀ rc r, post ≠ (i, rc) :: r) → isAl TT ops i = false := fun hip hne => by
        cases hb : isAl TT ops i with
        | false => rfl
        | true => exact absurd ⟨hb, hip, hne⟩ hal
      have hpre : ∀ k, dirB ops i k = true → k ∈ pre := by
        by_cases hip : i ∈ pre
        · exact h.dep i hip
        · have hpost : ∃ p ∈ post, p.1 = i := by
            have := (h.all i hisz).resolve_left hip
            simpa using this
          cases post with
          | nil => obtain ⟨p, hp, _⟩ := hpost; cases hp
          | cons hd r =>
            obtain ⟨i0, rc⟩ := hd
            obtain ⟨o0, ho0, hni, hdep, hok, hsh⟩ := okStep_cons h.ok
            have hs0 := (hsat i0 rc r rfl).1 o0 ho0
            have hu0 := (hsat i0 rc r rfl).2
            obtain ⟨-, hrc, hlater⟩ := hsh.resolve_left (fun hx => by rw [hs0] at hx; cases hx.1)
            obtain ⟨p, hp, hpi⟩ := hpost
            rcases List.mem_cons.1 hp with rfl | hp2
            · exact hpi ▸ hdep
            · exfalso
              rcases hlater p hp2 with h1 | ⟨j, hj1, hj2, hj3⟩
              · have h1 := h1.1
                rw [hpi, hal' hip (fun rc' r' e => by cases e; exact okStep_out hok p hp2 (by simp [hpi]))] at h1; cases h1
              · rw [hpi] at hj1
                have hl := hready j hj1
                rcases hj3 with rfl | hj3
                · exact unl_not hu0 hl
                · have hjs : j < listed.size := by
                    rcases Nat.lt_or_ge j listed.size with h' | h'
                    · exact h'
                    · simp [Array.getElem?_eq_none h'] at hl
                  have hjp := (h.all j (h.lsz ▸ hjs)).resolve_left hj2
                  obtain ⟨q, hq, hqj⟩ := List.mem_map.1 hjp
                  rcases h.un q hq with h1 | ⟨b, h1⟩
                  · exact unl_not (hqj ▸ h1) hl
                  · have := (h.eA q.1 b h1).1
                    rw [hqj, hj3] at this; cases this
      have hagr := h.agree ho hu hpre hready
      have hw : Region.wanted o (yielded ops a.tmps) = Region.wanted o (yielded ops T) := wanted_agree (ops := ops) (fun t ht => (hagr t ht).symm)
      have hex : ∀ ds, execOp (Act.eval ⟨T, ds⟩) o = execOp a.eval o := fun ds => eval_agree (T' := T) (T := a.tmps) (ops := ops) (hsel i o ho) hagr a.defers ds
      simp only [hw]
      by_cases hip : i ∈ pre
      · obtain ⟨val, d, hd, hTd, hyt⟩ := h.yt i hip hu o ho
        have hgo := ih _ _ w pre post s g T E w0 S0 (h.look hip hu ho hready hd hTd) (fun i' rc' r' e => ⟨(hsat i' rc' r' e).1, unl_set.2 ⟨(hsat i' rc' r' e).2, fun e2 => okStep_out h.ok (i', rc') (by rw [e]; simp) (e2 ▸ hip)⟩⟩) (by omega) hk
        rcases hyt with ⟨h1, h2⟩ | ⟨h1, rfl⟩
        · rw [if_pos h1]
          left
          unfold Oper.wp
          rw [← hex [], h2]
          exact hgo
        · rw [if_neg (by rw [h1]; simp)]
          exact hgo
      · have hpost : ∃ p ∈ post, p.1 = i := by
          have := (h.all i hisz).resolve_left hip
          simpa using this
        cases post with
        | nil => obtain ⟨p, hp, _⟩ := hpost; cases hp
        | cons hd r =>
          obtain ⟨i0, rc⟩ := hd
          obtain ⟨o0, ho0, hni, hdep, hok, hsh⟩ := okStep_cons h.ok
          have hs0 := (hsat i0 rc r rfl).1 o0 ho0
          have hu0 := (hsat i0 rc r rfl).2
          obtain ⟨-, hrc, hlater⟩ := hsh.resolve_left (fun hx => by rw [hs0] at hx; cases hx.1)
          have hii : i = i0 := by
            obtain ⟨p, hp, hpi⟩ := hpost
            rcases List.mem_cons.1 hp with rfl | hp2
            · exact hpi.symm
            · exfalso
              rcases hlater p hp2 with ⟨h1, -⟩ | ⟨j, hj1, hj2, -⟩
              · rw [hpi, hal' hip (fun rc' r' e => by cases e; exact okStep_out hok p hp2 (by simp [hpi]))] at h1; cases h1
              · exact hj2 (hpre j (hpi ▸ hj1))
          subst hii
          rw [ho] at ho0; cases ho0
          have hnp := okStep_out hok
          have after : ∀ {s2 : S} {g2 : G} {val : Value} {w1 : World}, Rel w0 S0 N g2 s2 ((⟨T, a.defers⟩ : Act).put o.dst val).tmps w1 → vrcs H TT Tri ops s2 rc → vdr H TT Tri ops r s2 (Q .normal) → wpAny P .any ops (Lift wO SO N d0 Q) fuel (listed.setIfInBounds i true) (a.put o.dst val) w1 := fun {s2 g2 val w1} hR hv hk2 => by
            obtain ⟨T2, k1, k2, k3⟩ := repatch hH hT hsel hN (unl listed) pre h.ord (fun j hj huj => ⟨fun p hp => h.soft hj huj hp, vrcs_at hv j (Classical.byContradiction fun hn => unl_not huj (rc_forced h.clo hrc (fun f hf q hq => by
              rcases List.mem_cons.1 hf with e | hf
              · rw [e] at hq; exact hready q hq
              · cases hf) (fun k hk hb => by
              unfold hdO at hb
              split at hb
              · rename_i p hp
                exact h.hard k hk p hp (by simpa using hb)
              · cases hb) j hj hn))⟩) hR
            have hDI : DI P TT d0 ops wO SO N E w0 S0 (i :: pre) r s2 g2 T2 (listed.setIfInBounds i true) (a.put o.dst val) w1 := by
              refine ⟨by rw [AM.put_defers]; exact h.dfr, k1, by rw [put_size]; exact h.sz, hok, fun j hj => ?_, by simp [h.lsz], fun p hp => (h.un p (by simp [hp])).imp (fun h => unl_set.2 ⟨h, fun e => hnp p hp (by simp [e])⟩) id, fun j hj p hp hps => ?_, clo_set h.clo hready, fun t ht hte => ?_, fun j hj huj p hp => ?_, fun j hj p hp hps => ?_, fun k hk j hj => ?_, ?_, h.bs, fun j b hj => ⟨(h.eA j b hj).1, fun hm => ?_, getD_set_true (h.eA j b hj).2.2⟩, fun j b hj p t e hp hpo hpd => ?_⟩
              · have := h.all j hj
                simp only [List.map_cons, List.mem_cons] at this ⊢
                rcases this with h | h | h
                · exact .inl (.inr h)
                · exact .inl (.inl h)
                · exact .inr h
              · rcases List.mem_cons.1 hj with rfl | hj
                · have : j < listed.size := unl_lt hu
                  simp [this]
                · exact getD_set_true (h.hard j hj p hp hps)
              · rw [k2 t (fun j hj huj p hp => ht j (by simp [hj]) (unl_set.2 ⟨huj, fun e => hip (e ▸ hj)⟩) p hp)]
                refine put_get (by rw [h.sz]; exact h.rel.sz) fun hne => ?_
                exact h.same t (fun j hj huj p hp => ht j (by simp [hj]) (unl_set.2 ⟨huj, fun e => hip (e ▸ hj)⟩) p hp) hte
              · obtain ⟨hu1, hu2⟩ := unl_set.1 huj
                rcases List.mem_cons.1 hj with rfl | hj
                · exact absurd rfl hu2
                · exact k3 j hj hu1 p hp
              · rcases List.mem_cons.1 hj with rfl | hj
                · rw [ho] at hp; cases hp; rw [hs0] at hps; cases hps
                · exact h.sd j hj p hp hps
              · rcases List.mem_cons.1 hk with rfl | hk
                · exact List.mem_cons_of_mem _ (hdep j hj)
                · exact List.mem_cons_of_mem _ (h.dep k hk j hj)
              · refine ⟨fun k hk => ⟨?_, fun e => hni (e ▸ hk)⟩, h.ord⟩
                cases hb : dirB ops k i with
                | false => rfl
                | true => exact absurd (h.dep k hk i hb) hni
              · rcases List.mem_cons.1 hm with e | hm
                · exact unl_not hu (e ▸ (h.eA j b hj).2.2)
                · exact (h.eA j b hj).2.1 hm
              · rw [put_other (h.dst ho hu hj hp hpd)]
                exact h.eZ j b hj p t e hp hpo hpd
            obtain ⟨pre', post', s', T', g', E', w0', S0', q1, q2, q3⟩ := DI.sat hH hT hsel hN hDI hk2
            exact ih _ _ w1 pre' post' s' g' T' E' w0' S0' q1 q3 (by omega) q2
          have hdN : ∀ d, o.dst = some d → d < N := fun d hd => hN i o d ho hd
          rcases vdr_step h.rel ho hk with ⟨s', h1, h2, h3⟩ | ⟨s', h1, h2, h3, h4⟩
          · rw [if_pos h2]
            left
            refine wp_shift (aT := ⟨T, a.defers⟩) (hex a.defers) (fun d hd => by show d < T.size; rw [h.rel.sz]; exact hdN d hd) ?_
            refine vop_ok (a := ⟨T, a.defers⟩) hH hT hTri h1 h3 fun v s1 g1 val w1 hK hR hv => ⟨val, rfl, ?_⟩
            exact after (hR.putd hdN hv) hK.1 hK.2
          · rw [if_neg (by rw [h2]; simp)]
            exact after (Rel.putd (a := ⟨T, a.defers⟩) (v := .v undef) (val := undef) h1 hdN rfl) h3 h4
theorem vdraw_any {ord : List (Nat × List Nat)} (hok : okOrd TT ops ord = true) (hN : ∀ (j : Nat) (o : Oper) (d : Nat), ops[j]? = some o → o.dst = some d → d < N) {Q : Exit → S → Prop} (hd : a.defers = d0) (h : Rel w0 S0 N g s a.tmps w) (hk : vdr H TT Tri ops ord s (Q .normal)) : wpAny P .any ops (Lift w0 S0 N d0 Q) ops.size (Array.replicate ops.size false) a { w with drawn := w.drawn + 1 } := by
  simp only [okOrd, Bool.and_eq_true, List.all_eq_true, List.mem_range] at hok
  obtain ⟨⟨⟨h1, h2⟩, h3⟩, h4⟩ := hok
  have hsel : ∀ (j : Nat) (o : Oper), ops[j]? = some o → notSel o.op = true := fun j o ho => Array.all_eq_true'.1 h2 o (Array.mem_of_getElem? ho)
  have hlt : ∀ i j, dirB ops i j = true → j < i := fun i j hij => by
    obtain ⟨o, ho, e, he, hb, rfl⟩ := dirB_iff.1 hij
    have h5 := h3 i (Array.getElem?_eq_some_iff.1 ho).1
    rw [ho] at h5
    have h6 := Array.all_eq_true'.1 h5 e he
    rw [hb] at h6
    simpa using h6
  have hR : Rel w0 S0 N g s a.tmps { w with drawn := w.drawn + 1 } := h.drew
  have hun : ∀ j, j < ops.size → unl (Array.replicate ops.size false) j := fun j hj => by unfold unl; simp [hj]
  have hnl : ∀ j, ¬ (Array.replicate ops.size false).getD j false = true := fun j => by rw [getD_replicate_false]; simp
  have hbase : DI P TT d0 ops w0 S0 N [] w0 S0 [] ord s g a.tmps (Array.replicate ops.size false) a { w with drawn := w.drawn + 1 } := by
    refine ⟨hd, hR, h.sz, h4, fun j hj => .inr ((mem_iff _ _).1 (h1 j hj)), by simp, fun p hp => ?_, fun j hj => (by cases hj), fun j k hj => absurd hj (hnl j), fun _ _ _ => rfl, fun j hj => (by cases hj), fun j hj => (by cases hj), fun j hj => (by cases hj), trivial, Bs.refl hR, fun j b hj => (by cases hj), fun j b hj => (by cases hj)⟩
    refine .inl (hun _ ?_)
    -- each place is one of the region
    have key : ∀ (l : List (Nat × List Nat)) (pre : List Nat), okStep TT ops pre l = true → ∀ p ∈ l, p.1 < ops.size := by
      intro l
      induction l with
      | nil => intro _ _ p hp; cases hp
      | cons q l ih =>
        intro pre hs p hp
        obtain ⟨i, rc⟩ := q
        obtain ⟨o, ho, -, -, h2, -⟩ := okStep_cons hs
        rcases List.mem_cons.1 hp with rfl | hp
        · exact (Array.getElem?_eq_some_iff.1 ho).1
        · exact ih _ h2 p hp
    exact key ord [] h4 p hp
  obtain ⟨pre', post', s', T', g', E', w0', S0', q1, q2, q3⟩ := DI.sat hH hT hsel hN hbase hk
  refine draw_go hH hT hTri hsel hN hlt _ _ _ _ pre' post' s' g' T' E' w0' S0' q1 q3 ?_ q2
  exact Nat.le_trans List.countP_le_length (by simp)
end
end Go.Proofs.Ytilmhjojbolbeaa.AM

namespace Go.Proofs.Ytilmhjojbolbeaa.AM
open Go

/-- the widest fence, in a round or in none -/
def FF (r : Option Nat) : Fence := { Fence.wide with round := r }
section
variable {P : Program} {r : Option Nat} {n : Nat}
theorem rowsF {row : String} {args : Array Value} {w : World} {R : Value → World → Prop} (h : Rows P row args w R) : RowsIn (FF r) n P row args w R :=
  fun c cs _ => let ⟨v, w', q, s⟩ := h c cs; ⟨v, w', q, stepsIn_wide.2 s⟩
theorem callsF {f : FuncId} {args : Array Value} {w : World} {R : Ending → World → Prop} (h : Calls P f args w R) : CallsIn (FF r) n P f args w R :=
  (show CallsIn Fence.wide n P f args w R from callsIn_wide.2 h)
theorem operF {o : Oper} {a : Act} {w : World} {K : Act → World → Prop} {Q : Exit → Act → World → Prop} (hd : isDefer o.op = false) (h : o.wp P a w K Q) : o.wpIn (FF r) n P a w K Q := by
  refine ⟨fun _ _ => trivial, ?_⟩
  have e : o.semAt (FF r).round a.eval = execOp a.eval o := Oper.semAt_eq _ _ o (fun c hc => by rw [hc] at hd; cases hd)
  rw [e]
  unfold Oper.wp at h
  generalize (execOp a.eval o).run P w = q at h ⊢
  cases q with
  | ok x w' =>
    cases x with
    | value v => exact h
    | skip => exact h
    | defer d => exact h
    | enter f args => exact ⟨fun hh => by simp [Fence.wide, FF] at hh, callsF h⟩
    | row row args => exact ⟨fun hh => by simp [Fence.wide, FF] at hh, rowsF h⟩
    | round l f tmps assign body => exact h.elim
    | _ => exact h.elim
  | halt x w' => cases x <;> first | exact h | exact h.elim
theorem anyF {md : Region.Mode} {ops : Array Oper} {Q : Exit → Act → World → Prop} (hd : ∀ (i : Nat) (o : Oper), ops[i]? = some o → isDefer o.op = false) (hout : ¬ LetsOut Q) :
    ∀ (f : Nat) (listed : Array Bool) (a : Act) (w : World), wpAny P md ops Q f listed a w → wpAnyIn (FF r) n P md ops Q f listed a w
  | 0, _, _, _, h => h
  | f + 1, listed, a, w, h => by
    refine ⟨h.1, fun i hi => ?_⟩
    have h2 := h.2 i hi
    unfold wpOp at h2
    unfold wpOpIn
    cases ho : ops[i]? with
    | none => simp only [ho] at h2 ⊢; exact anyF hd hout f _ a w h2
    | some o =>
      simp only [ho] at h2 ⊢
      by_cases hw : Region.wanted o (yielded ops a.tmps) = true
      · rw [if_pos hw] at h2 ⊢
        rcases h2 with h2 | h2
        · exact Oper.wpIn_mono (fun a' w' h' => anyF hd hout f _ a' w' h') (operF (hd i o ho) h2)
        · exact absurd h2.2 hout
      · rw [if_neg hw] at h2 ⊢
        exact ⟨fun _ _ => trivial, anyF hd hout f _ _ w h2⟩
/-- a call of yield, in a frame -/
theorem yieldF {l : Nat} {args : Array Value} {w : World} {R : Ending → World → Prop} {o : Oper} {a : Act} {K : Act → World → Prop} {Q : Exit → Act → World → Prop} (hd : isDefer o.op = false)
    (hr : (execOp a.eval o).run P w = (Instr.yield l args).run P w) (h : ∀ m, YieldAt Fence.wide m P l args w R) (hK : ∀ e w', R e w' → ∃ v, e = .returned v ∧ K (a.put o.dst v) w') : o.wpIn (FF r) n P a w K Q := by
  refine ⟨fun _ _ => trivial, ?_⟩
  have e : o.semAt (FF r).round a.eval = execOp a.eval o := Oper.semAt_eq _ _ o (fun c hc => by rw [hc] at hd; cases hd)
  obtain ⟨fn, tmps, assign, body, h1, h2⟩ := h (n - 1)
  rw [e, hr, h1]
  refine ⟨fun hh => by simp [Fence.wide, FF] at hh, ?_⟩
  have h3 : RoundIn Fence.wide (n - 1) P l fn tmps assign body w fun
    | .returned v, w'' => K (a.put o.dst v) w''
    | .panicked chain, w'' => Q (.panic chain) a w''
    | .outgrown, _ => LetsOut Q := h2.mono fun e w' hR => by
      obtain ⟨v, rfl, hk⟩ := hK e w' hR
      exact hk
  exact h3
/-- one round, out of its body's walk; the assignments may write -/
theorem rf_round2 {m l D : Nat} {fn : FuncId} {tmps : Array Value} {ps : Array Tmp} {assign body : Code} {args : Array Value} {W : World} {R : Ending → World → Prop}
    (hl : W.heap[l]? = some (.loop (LRec fn tmps ps assign body D .ready none))) (hps : args.size = ps.size)
    (h : assign.wpIn (FF (some l)) m P (Exit.then (fun a₁ W' => W'.heap[l]? = some (.loop (LRec fn tmps ps assign body D .ready none)) ∧ body.wpIn (FF (some l)) m P (rfPost P l (LRec fn tmps ps assign body D) R) a₁ (W'.putObj l (.loop (LRec fn tmps ps assign body D .busy none)))) (fun _ _ _ => False))
      { tmps := (ps.zip args).foldl (fun t (p, v) => t.setIfInBounds p v) tmps, defers := [] } W) :
    YieldAt Fence.wide m P l args W R := by
  have hy := run_yield (P := P) (args := args) hl hps
  refine ⟨fn, _, assign, body, hy, roundIn_of_wpIn trivial (wpIn_mono h ?_)⟩
  intro e a₁ W' hq
  cases e <;> first | exact hq.elim | skip
  obtain ⟨hl', hbody⟩ := hq
  refine ⟨_, run_beginRound hl' rfl, wpIn_mono hbody ?_⟩
  intro e a3 W3 hp
  cases e with
  | normal => exact ⟨_, _, run_endRound (P := P) none hp.1, hp.2⟩
  | ret => exact ⟨_, _, run_endRound (P := P) (some .ret) hp.1, hp.2⟩
  | exit id => exact ⟨_, _, run_endRound (P := P) (some (.exit id)) hp.1, hp.2⟩
  | goto t => exact hp.elim
  | panic ch => exact hp.elim
  | outgrown => exact hp.elim
end
end Go.Proofs.Ytilmhjojbolbeaa.AM

namespace Go.Proofs.Ytilmhjojbolbeaa.AM
open Go

/-- what a call of yield does -/
def TriY (P : Program) (l : Nat) : YSp := TriG fun vs w R => ∀ m, YieldAt Fence.wide m P l vs.toArray w R
/-- what an iterator does, of what its yield does -/
def TriIS (P : Program) : Nat → YSp → Spec := fun l J f xs σ R => (∀ xs σ R, J xs σ R → TriY P l xs σ R) → TriS P f xs σ R
theorem yieldMono {m : Nat} {P : Program} {l : Nat} {args : Array Value} {w : World} {R R' : Ending → World → Prop} (hm : ∀ e w', R e w' → R' e w') (h : YieldAt Fence.wide m P l args w R) : YieldAt Fence.wide m P l args w R' := by
  obtain ⟨fn, tmps, assign, body, h1, h2⟩ := h
  exact ⟨fn, tmps, assign, body, h1, h2.mono hm⟩
/-- the marks among a frame's deferred calls -/
def Marks (n : Nat) (X : Nat → Prop) (w : World) : List Deferred → Prop
  | [] => True
  | d :: ds => ∃ D, d = { target := .collected D, args := #[] } ∧ w.heap[D]? = some (.deferred (some [])) ∧ (n ≤ D ∧ X D) ∧ (∀ d' ∈ ds, d' ≠ d) ∧ Marks n X w ds
/-- where the frame stood when it last left a loop over a function, against its beginning -/
structure MB (w0 : World) (S0 : Fr) (ds : List Deferred) (w1 : World) (S1 : Fr) : Prop where
  kp : Kp S0.o w0 w1
  fr : ∀ b, S1.o b → S0.o b ∨ w0.heap.size ≤ b
  g0 : S1.g0 = S0.g0
  X : ∀ b, S0.X b → S1.X b
  mks : Marks w0.heap.size S1.X w1 ds
theorem MB.refl (w0 : World) (S0 : Fr) : MB w0 S0 [] w0 S0 := ⟨Kp.refl _ _, fun _ h => .inl h, rfl, fun _ h => h, trivial⟩
/-- what is to hold at an end -/
def LiftB (w0 : World) (S0 : Fr) (N : Nat) (Q : Exit → S → Prop) : Exit → Act → World → Prop := fun e a w => e ≠ .outgrown ∧ ∃ w1 S1, MB w0 S0 a.defers w1 S1 ∧ ∃ s g, Rel w1 S1 N g s a.tmps w ∧ Q e s
section
variable {P : Program} {H : (α : Type) → α → α} {TT : Nat → TS} {Tri : Spec} {Yl : Nat → YSp} {TrI : Nat → YSp → Spec} {w0 w1 : World} {S0 S1 : Fr} {N : Nat} {g : G} {s : S} {a : Act} {w : World} {next : Act → World → Prop} {o : Oper} {tmps : Array Value}
theorem Marks.mono {n : Nat} {X X' : Nat → Prop} {w w' : World} (hX : ∀ b, X b → X' b) (hw : ∀ b, X b → w.heap[b]? = some (.deferred (some [])) → w'.heap[b]? = some (.deferred (some []))) : ∀ {ds : List Deferred}, Marks n X w ds → Marks n X' w' ds
  | [], _ => trivial
  | _ :: _, ⟨D, h1, h2, h3, h4, h5⟩ => ⟨D, h1, hw D h3.2 h2, ⟨h3.1, hX D h3.2⟩, h4, Marks.mono hX hw h5⟩
theorem MB.step {Y X2 : Nat → Prop} {w2 : World} {ds ds' : List Deferred} (hb : MB w0 S0 ds w1 S1) (h : Rel w1 S1 N g s tmps w) (hk : Kp Y w w2) (hY : ∀ b, Y b → w0.heap.size ≤ b) (hX1 : ∀ b, S1.X b → X2 b) (hm : Marks w0.heap.size X2 w2 ds') : MB w0 S0 ds' w2 ⟨mine s.σ g, X2, S1.g0⟩ := by
  refine ⟨(hb.kp.trans h.kp (fun b hb' hlt => ?_)).trans hk (fun b hy hlt => ?_), fun b hm => ?_, hb.g0, fun b hx => hX1 b (hb.X b hx), hm⟩
  · rcases hb.fr b hb' with h1 | h1
    · exact h1
    · omega
  · have := hY b hy; omega
  · rcases h.fr b hm with h1 | h1
    · exact hb.fr b h1
    · exact .inr (Nat.le_trans hb.kp.size h1)
/-- the marks are there still -/
theorem MB.marks {ds : List Deferred} (hb : MB w0 S0 ds w1 S1) (h : Rel w1 S1 N g s tmps w) : Marks w0.heap.size S1.X w ds :=
  hb.mks.mono (fun _ h => h) (fun b hx he => (h.kp.block b (h.dj b hx).2 (h.dj b hx).1).trans he)
theorem okD_at {N : Nat} : ∀ {l : List Oper}, okD N l = true → ∀ o ∈ l, ∀ d, o.dst = some d → d < N
  | [], _, o, h => by cases h
  | x :: r, h, o, ho => by
    simp only [okD] at h
    split at h
    · rename_i d hd
      split at h
      · rename_i hb
        rcases List.mem_cons.1 ho with rfl | ho
        · intro d' hd'; rw [hd] at hd'; cases hd'; simpa using hb
        · exact okD_at h o ho
      · cases h
    · rename_i hd
      rcases List.mem_cons.1 ho with rfl | ho
      · intro d' hd'; rw [hd] at hd'; cases hd'
      · exact okD_at h o ho
theorem notDef_at {ops : Array Oper} (h : ops.all (fun o => notDef o.op) = true) (o : Oper) (ho : o ∈ ops) : isDefer o.op = false := by
  have := Array.all_eq_true'.1 h o ho
  cases hop : o.op <;> rw [hop] at this <;> first | rfl | cases this
theorem wpIn_loop_gh {F : Fence} {n : Nat} {P : Program} {Q : Exit → Act → World → Prop} {a : Act} {w : World} {c : Code} (I : Nat → Act → World → Prop) (n₀ : Nat) (h₀ : I n₀ a w)
    (round : ∀ k a w, I k a w → c.wpIn F n P (Exit.then (fun a' w' => ∃ k', k' < k ∧ I k' a' w') Q) a w) : (Code.loop c).wpIn F n P Q a w := by
  refine wpIn_loop (fun a w => ∃ k, I k a w) (fun a w => leastOf (fun k => I k a w)) ⟨n₀, h₀⟩ ?_
  intro a w hI
  refine wpIn_mono (round _ a w (leastOf_spec hI).1) ?_
  intro e a' w' hq
  cases e with
  | normal =>
    obtain ⟨n', hlt, hI'⟩ := hq
    exact show (∃ k, I k a' w') ∧ leastOf (fun k => I k a' w') < leastOf (fun k => I k a w) from ⟨⟨n', hI'⟩, Nat.lt_of_le_of_lt ((leastOf_spec ⟨n', hI'⟩).2 n' hI') hlt⟩
  | exit id => exact hq
  | goto l => exact hq
  | ret => exact hq
  | panic ch => exact hq
  | outgrown => exact hq
theorem yieldOf_eq {o : Oper} {l : Nat} {xs : List V} (h : yieldOf o s = some (l, xs)) : ∃ f args at', o.op = .call ⟨.value f, args, at'⟩ ∧ ev s f = some (.fn (.yield l) []) ∧ evs s args.toList = some xs := by
  obtain ⟨dst, op, ty', pos, aft, guard⟩ := o
  cases op <;> first | (simp [yieldOf] at h; done) | skip
  rename_i c
  obtain ⟨callee, args, argTypes⟩ := c
  cases callee <;> first | (simp [yieldOf] at h; done) | skip
  rename_i f
  simp only [yieldOf] at h
  split at h
  · rename_i l' h1
    obtain ⟨xs', h2, h3⟩ := Option.map_eq_some_iff.1 h
    cases h3
    exact ⟨f, args, argTypes, rfl, h1, h2⟩
  · cases h
variable (hH : ∀ α x, H α x = x) (hT : TTok P TT) (hTri : ∀ f xs σ R, Tri f xs σ R → TriS P f xs σ R) (hYl : ∀ l xs σ R, Yl l xs σ R → TriY P l xs σ R)
include hH hT hTri hYl
theorem vopY_ok {K : V → S → Prop} {r : Option Nat} {n : Nat} {Q : Exit → Act → World → Prop} (hdf : isDefer o.op = false) (h : Rel w0 S0 N g s a.tmps w) (hk : vopY H TT Tri Yl o s K) (hn : Goes w0 S0 N a o next K) : o.wpIn (FF r) n P a w next Q := by
  unfold vopY at hk
  cases hy : yieldOf o s with
  | none => rw [hy] at hk; exact operF hdf (vop_ok hH hT hTri h hk hn)
  | some p =>
    obtain ⟨l, xs⟩ := p
    rw [hy] at hk
    obtain ⟨f, args, at', h1, h2, h3⟩ := yieldOf_eq hy
    obtain ⟨us, e, hus⟩ := ev_ok h h2
    obtain rfl : us = #[] := by
      match hl : us.toList, hus with
      | [], _ => rw [← Array.toList_inj]; exact hl
    have hvs := evs_ok h h3
    have := vcallG_ok (CC := fun vs w R => ∀ m, YieldAt Fence.wide m P l vs.toArray w R) (C0 := True) (fun _ _ _ _ hm hc m => yieldMono hm (hc m)) (fun xs σ R hs => ⟨trivial, hYl l xs σ R hs⟩) h hvs hk
    have hrun : (execOp a.eval o).run P w = (Instr.yield l (args.toList.map a.eval).toArray).run P w := by
      obtain ⟨dst, op, ty', pos, aft, guard⟩ := o
      simp only at h1
      subst h1
      have harr : (args.toList.map a.eval).toArray = args.map a.eval := by simp [← Array.toList_inj]
      rw [harr]
      simp [execOp, resolve, e, Deferred.ofValue, invoke]
    refine yieldF hdf hrun this.2 ?_
    rintro e' w' ⟨q, val, s', g', rfl, k1, k2, k3⟩
    exact ⟨val, rfl, hn _ _ _ _ _ k1 k2 k3⟩
theorem vops_ok {ops : Array Oper} {r : Option Nat} {n : Nat} {d0 : List Deferred} {Q : Exit → S → Prop} : ∀ (l : List Oper), (∀ o ∈ l, isDefer o.op = false ∧ ∀ d, o.dst = some d → d < N) → ∀ {s : S} {g : G} {a : Act} {w : World}, a.defers = d0 → Rel w0 S0 N g s a.tmps w → vops H TT Tri Yl ops l s (Q .normal) → wpListIn (FF r) n P ops (Lift w0 S0 N d0 Q) l a w
  | [], _, s, g, a, w, hd, h, hk => ⟨by simp, hd, s, g, h, hk⟩
  | o :: l, hl, s, g, a, w, hd, h, hk => by
    have hlo := (hl o (by simp)).2
    have ih := @vops_ok ops r n d0 Q l (fun o ho => hl o (by simp [ho]))
    have key : ∀ {s' g'}, Rel w0 S0 N g' s' a.tmps w → vopY H TT Tri Yl o s' (fun v s => vops H TT Tri Yl ops l (put o.dst v s) (Q .normal)) → o.wpIn (FF r) n P a w (wpListIn (FF r) n P ops (Lift w0 S0 N d0 Q) l) (Lift w0 S0 N d0 Q) := fun h' hk' =>
      vopY_ok hH hT hTri hYl (hl o (by simp)).1 h' hk' (fun v s' g' val w' hK hR hv => ih (by rw [put_defers]; exact hd) (hR.putd hlo hv) hK)
    unfold wpListIn
    simp only [vops] at hk
    cases hgd : o.guard with
    | none =>
      simp only [hgd] at hk
      rw [if_pos (by simp [Region.wanted, hgd])]
      exact key h hk
    | some p =>
      obtain ⟨j, want⟩ := p
      simp only [hgd] at hk
      obtain ⟨gv, h1, hk1⟩ := need_some hk
      clear hk
      split at hk1
      · rename_i x
        have hy := yielded_at h h1
        have hagain := h.again h1
        have hundef : ∀ {s'}, Rel w0 S0 N g s' a.tmps w → vops H TT Tri Yl ops l (put o.dst (.v undef) s') (Q .normal) → wpListIn (FF r) n P ops (Lift w0 S0 N d0 Q) l (a.put o.dst undef) w := fun h' hk' =>
          ih (by rw [put_defers]; exact hd) (h'.putd (v := .v undef) (val := undef) hlo rfl) hk'
        cases want <;> cases x <;> simp only at hk1
        · rw [if_pos (by simp [Region.wanted, hgd, hy])]; exact key hagain hk1
        · rw [if_neg (by simp [Region.wanted, hgd, hy])]; exact ⟨fun _ _ => trivial, hundef hagain hk1⟩
        · rw [if_neg (by simp [Region.wanted, hgd, hy])]; exact ⟨fun _ _ => trivial, hundef hagain hk1⟩
        · rw [if_pos (by simp [Region.wanted, hgd, hy])]; exact key hagain hk1
      · have hy := yielded_no h h1
        rw [if_neg (by simp [Region.wanted, hgd, hy])]
        exact ⟨fun _ _ => trivial, ih (by rw [put_defers]; exact hd) (h.putd (v := .v undef) (val := undef) hlo rfl) hk1⟩
      · exact hk1.elim
end
end Go.Proofs.Ytilmhjojbolbeaa.AM

namespace Go.Proofs.Ytilmhjojbolbeaa.AM
open Go

section
variable {P : Program} {H : (α : Type) → α → α} {TT : Nat → TS} {Tri : Spec} {Yl : Nat → YSp} {TrI : Nat → YSp → Spec} {w0 w1 : World} {S0 S1 : Fr} {N : Nat} {g : G} {s : S} {a : Act} {w : World} {tmps : Array Value}
/-- the record's state is turned -/
theorem Rel.recUpd (h : Rel w1 S1 N g s tmps w) {i l : Nat} {rf : LoopState → Option Code → Obj} {st st' : LoopState} {pe pe' : Option Code} {xs : List V} {vs : List Value} (hi : look i s.σ = some (.rw l rf st pe xs vs)) :
    Rel w1 S1 N g { s with σ := AM.upd i (.rw l rf st' pe' xs vs) s.σ } tmps (w.putObj l (rf st' pe')) := by
  obtain ⟨hv, hb, hh, hx⟩ := h.ob.objs i _ hi
  have hm : mine s.σ g l := ⟨i, by rw [hi]; rfl, hv, hb⟩
  have hk : Kp (· = (g i).bl) w (w.putObj l (rf st' pe')) := by rw [hb]; exact kp_putObj w l _
  refine h.upd hi hv hk ⟨hv, hb, ?_, RVs_keep (fun b hn hlt => hk.block b hlt (fun e => hn (.inr (by rw [e, hb]; exact hm)))) hk.size (fun _ _ h => h) _ _ (fun _ _ => rfl) hx⟩
  rw [hb]; exact World.putObj_heap_same (h.lt hm)
theorem Rel.recAt (h : Rel w1 S1 N g s tmps w) {i l : Nat} {rf : LoopState → Option Code → Obj} {st : LoopState} {pe : Option Code} {xs : List V} {vs : List Value} (hi : look i s.σ = some (.rw l rf st pe xs vs)) : w.heap[l]? = some (rf st pe) := by
  obtain ⟨hv, hb, hh, hx⟩ := h.ob.objs i _ hi
  rw [← hb]; exact hh
theorem isRec_eq {l : Nat} {rf : LoopState → Option Code → Obj} {vs : List Value} {st : LoopState} {pe : Option Code} {o : Option O} {K : List V → Prop} (h : isRec l rf vs st pe o K) : ∃ xs, o = some (.rw l rf st pe xs vs) ∧ K xs := by
  unfold isRec at h
  split at h
  · obtain ⟨⟨⟨⟨rfl, rfl⟩, rfl⟩, rfl, rfl⟩, h⟩ := h
    exact ⟨_, rfl, h⟩
  · exact h.elim
/-- what a frame hands back, against its beginning -/
theorem MB.fin {ds : List Deferred} {g' : G} {r : V} {σ' : Sto} {v : Value} {w' : World} (hb : MB w0 S0 ds w1 S1) (h : Rel w1 S1 1 g' ⟨[(0, r)], σ', 100⟩ #[v] w') :
    RV g' w' (own S0 σ' g') r v ∧ Ob S0 g' w' σ' ∧ Kp S0.o w0 w' ∧ (∀ b, mine σ' g' b → S0.o b ∨ w0.heap.size ≤ b) ∧ (∀ i, i < 100 → (look i σ').isSome = true → g' i = S0.g0 i) := by
  have ho : ∀ b, ¬ own S1 σ' g' b → ¬ own S0 σ' g' b := fun b hn hb' => hn (hb'.imp_left (hb.X b))
  refine ⟨RV_weak ho _ _ (h.ra 0 r (by simp [look])), ⟨fun i o hi => RO_weak ho (h.ob.objs i o hi), h.ob.inj⟩, hb.kp.trans h.kp (fun b hb' hlt => ?_), fun b hm => ?_, fun i hi hs => ?_⟩
  · rcases hb.fr b hb' with h1 | h1
    · exact h1
    · omega
  · rcases h.fr b hm with h1 | h1
    · exact hb.fr b h1
    · exact .inr (Nat.le_trans hb.kp.size h1)
  · rw [← hb.g0]; exact h.pin i hi hs
/-- the same for a value laid by hand -/
theorem MB.end1 {ds : List Deferred} {x : V} {v : Value} {r : V} {σ' : Sto} (hb : MB w0 S0 ds w1 S1) (h : Rel w1 S1 N g s tmps w) (hx : RV g w (own S1 s.σ g) x v) (hs : sub ⟨[(0, x)], s.σ, s.nx⟩ ⟨[(0, r)], σ', 100⟩) :
    ∃ g', RV g' w (own S0 σ' g') r v ∧ Ob S0 g' w σ' ∧ Kp S0.o w0 w ∧ (∀ b, mine σ' g' b → S0.o b ∨ w0.heap.size ≤ b) ∧ (∀ i, i < 100 → (look i σ').isSome = true → g' i = S0.g0 i) := by
  have h7 : Rel w1 S1 1 g ⟨[(0, x)], s.σ, s.nx⟩ #[v] w := by
    refine ⟨h.ob, fun t y hy => ?_, rfl, h.kp, h.fr, h.pin, h.nx, h.dj⟩
    simp only [look_cons] at hy
    split at hy
    · rename_i e; subst e; cases hy; exact hx
    · simp [look] at hy
  obtain ⟨g', h8⟩ := sub_ok hs h7
  exact ⟨g', hb.fin h8⟩
theorem ra_zip {ow : Nat → Prop} {T : Array Value} : ∀ {ks : List Nat} {xs : List V}, RVs g w ow xs (ks.map fun k => T.getD k undef) → RA g w ow (zipA ks xs) T
  | [], [], _ => fun t x hx => by simp [zipA, look] at hx
  | k :: ks, x :: xs, h => fun t y hy => by
    simp only [zipA, look_cons] at hy
    split at hy
    · rename_i e; subst e; cases hy; exact h.1
    · exact ra_zip h.2 t y hy
  | [], _ :: _, h => h.elim
  | _ :: _, [], h => h.elim
theorem ra_put {ow : Nat → Prop} : ∀ {ps : List Nat} {xs : List V} {us : List Value} {A : List (Nat × V)} {T : Array Value}, (∀ p ∈ ps, p < T.size) → ps.length = xs.length → RVs g w ow xs us → RA g w ow A T →
    RA g w ow (putPs ps xs A) ((ps.zip us).foldl (fun t (p, v) => t.setIfInBounds p v) T) ∧ ((ps.zip us).foldl (fun t (p, v) => t.setIfInBounds p v) T).size = T.size
  | [], [], [], A, T, _, _, _, hA => ⟨hA, rfl⟩
  | p :: ps, x :: xs, u :: us, A, T, hp, hl, h, hA => by
    simp only [putPs, List.zip_cons_cons, List.foldl_cons]
    have := ra_put (ps := ps) (xs := xs) (us := us) (A := (p, x) :: A) (T := T.setIfInBounds p u) (fun q hq => by simpa using hp q (by simp [hq])) (by simpa using hl) h.2 (fun t y hy => by
      have hlt := hp p (by simp)
      rw [look_cons] at hy
      rw [Array.getD_eq_getD_getElem?]
      split at hy
      · rename_i e; subst e; cases hy
        rw [Array.getElem?_setIfInBounds_self_of_lt hlt]; exact h.1
      · rename_i e
        rw [Array.getElem?_setIfInBounds_ne e]
        have := hA t y hy
        rwa [Array.getD_eq_getD_getElem?] at this)
    exact ⟨this.1, by simpa using this.2⟩
  | [], _ :: _, _, _, _, _, hl, _, _ => by cases hl
  | _ :: _, [], _, _, _, _, hl, _, _ => by cases hl
  | [], [], _ :: _, _, _, _, _, h, _ => h.elim
  | _ :: _, _ :: _, [], _, _, _, _, h, _ => h.elim
theorem looks_ok {ow : Nat → Prop} {A : List (Nat × V)} {T : Array Value} (h : RA g w ow A T) : ∀ {ks : List Nat} {xs : List V}, looks A ks = some xs → RVs g w ow xs (ks.map fun k => T.getD k undef)
  | [], xs, hx => by cases hx; trivial
  | k :: ks, xs, hx => by
    simp only [looks] at hx
    split at hx <;> cases hx
    rename_i x r h1 h2
    exact ⟨h k x h1, looks_ok h h2⟩
theorem looks_refs {A : List (Nat × V)} : ∀ {ks : List Nat} {xs : List V}, looks A ks = some xs → ∀ q, q ∈ refsL xs → q ∈ refsA A
  | [], xs, hx, q, hq => by cases hx; simp [refsL] at hq
  | k :: ks, xs, hx, q, hq => by
    simp only [looks] at hx
    split at hx <;> cases hx
    rename_i x r h1 h2
    simp only [refsL, List.mem_append] at hq
    rcases hq with hq | hq
    · exact refs_look h1 q hq
    · exact looks_refs h2 q hq
/-- what is shown of code -/
def CS (P : Program) (N : Nat) (r : Option Nat) (c : Code) (ev : (Exit → S → Prop) → S → Prop) : Prop :=
  ∀ {n : Nat} {Q : Exit → S → Prop} {s : S} {g : G} {a : Act} {w w0 w1 : World} {S0 S1 : Fr}, MB w0 S0 a.defers w1 S1 → Rel w1 S1 N g s a.tmps w → ev Q s → c.wpIn (FF r) n P (LiftB w0 S0 N Q) a w
/-- a round is sound -/
theorem round_ok {l D : Nat} {fn : FuncId} {tm : Array Value} {ps : Array Tmp} {assign body : Code} {evA evB : (Exit → S → Prop) → S → Prop} (hA : CS P N (some l) assign evA) (hB : CS P N (some l) body evB) (htm : tm.size = N) (hps : ∀ p ∈ ps.toList, p < N) {ks : List Nat}
    {rf : LoopState → Option Code → Obj} {vs : List Value} (hrf : rf = fun st pe => .loop (LRec fn tm ps assign body D st pe)) (hvs : vs = ks.map fun k => tm.getD k undef) {xs : List V} {σ : Sto} {R : V → Sto → Prop}
    (hk : ∃ i, isRec l rf vs .ready none (look i σ) fun xc => Nat.beq ps.size xs.length = true ∧
        evA (fun (e : Exit) s => match e with
          | .normal => isRec l rf vs .ready none (look i s.σ) fun xc => evB (vendY l rf vs i R) { s with σ := upd i (.rw l rf .busy none xc vs) s.σ }
          | _ => False) ⟨putPs ps.toList xs (zipA ks xc), σ, 100⟩) : TriY P l xs σ R := by
  intro X g w us hX hob hus m
  obtain ⟨i, hk⟩ := hk
  obtain ⟨xc, hi, hlen, hk⟩ := isRec_eq hk
  obtain ⟨hv, hbl, hh, hxc⟩ := hob.objs i _ hi
  have hlen : ps.size = xs.length := by simpa using hlen
  have hul := RVs_len hus
  rw [hvs] at hxc
  obtain ⟨hra, hsz⟩ := ra_put (ps := ps.toList) (T := tm) (by rw [htm]; exact hps) (by simpa using hlen) hus (ra_zip hxc)
  have hT : (ps.zip us.toArray).foldl (fun t (p, v) => t.setIfInBounds p v) tm = (ps.toList.zip us).foldl (fun t (p, v) => t.setIfInBounds p v) tm := by
    rw [← Array.foldl_toList]; simp
  have h0 : Rel w ⟨mine σ g, X, g⟩ N g ⟨putPs ps.toList xs (zipA ks xc), σ, 100⟩ ((ps.zip us.toArray).foldl (fun t (p, v) => t.setIfInBounds p v) tm) w := by
    rw [hT]
    exact ⟨hob, hra, hsz.trans htm, Kp.refl _ _, fun b hb => .inl hb, fun _ _ _ => rfl, Nat.le_refl _, hX⟩
  have hl : w.heap[l]? = some (.loop (LRec fn tm ps assign body D .ready none)) := by rw [← hbl, hh, hrf]
  refine rf_round2 hl (by simp; omega) (wpIn_mono (hA (a := ⟨_, []⟩) (MB.refl _ _) h0 hk) ?_)
  rintro e a1 W' ⟨hne, w1, S1, hMB, s1, g1, h1, hk1⟩
  cases e <;> first | exact hk1.elim | skip
  obtain ⟨xc1, hi1, hk1⟩ := isRec_eq hk1
  have hl1 := h1.recAt hi1
  have h2 := h1.recUpd (st' := .busy) (pe' := none) hi1
  have hrf' : ∀ st pe, rf st pe = .loop (LRec fn tm ps assign body D st pe) := fun st pe => by rw [hrf]
  rw [hrf'] at hl1 h2
  refine ⟨hl1, wpIn_mono (hB hMB h2 hk1) ?_⟩
  rintro e a2 W2 ⟨hne2, w2, S2, hMB2, s2, g2, h3, hk3⟩
  have key : ∀ (b : Bool) (st : LoopState) (pe : Option Code), (isRec l rf vs .busy none (look i s2.σ) fun xc => ∃ r σ', R r σ' ∧ closed r σ' = true ∧ sub ⟨[(0, .b b)], upd i (.rw l rf st pe xc vs) s2.σ, s2.nx⟩ ⟨[(0, r)], σ', 100⟩) →
      W2.heap[l]? = some (.loop (LRec fn tm ps assign body D .busy none)) ∧ ∃ r σ' g' v, R r σ' ∧ Ending.returned (.bool b) = .returned v ∧ RV g' (W2.putObj l (.loop (LRec fn tm ps assign body D st pe))) (own ⟨mine σ g, X, g⟩ σ' g') r v ∧ Ob ⟨mine σ g, X, g⟩ g' (W2.putObj l (.loop (LRec fn tm ps assign body D st pe))) σ' ∧ Kp (mine σ g) w (W2.putObj l (.loop (LRec fn tm ps assign body D st pe))) ∧
        (∀ b, mine σ' g' b → mine σ g b ∨ w.heap.size ≤ b) ∧ (∀ i, i < 100 → (look i σ').isSome = true → g' i = g i) ∧ closed r σ' = true := fun b st pe hk => by
    obtain ⟨xc2, hi2, r, σ', hR, hcl, hs⟩ := isRec_eq hk
    have hl2 := h3.recAt hi2
    have h4 := h3.recUpd (st' := st) (pe' := pe) hi2
    rw [hrf'] at hl2 h4
    obtain ⟨g', k1, k2, k3, k4, k5⟩ := hMB2.end1 h4 (x := .b b) (v := .bool b) rfl hs
    exact ⟨hl2, r, σ', g', _, hR, rfl, k1, k2, k3, k4, k5, hcl⟩
  cases e with
  | normal => exact key true .ready none hk3
  | ret => exact key false .done (some .ret) hk3
  | exit id => exact key false .done (some (.exit id)) hk3
  | goto t => exact hk3.elim
  | panic ch => exact hk3.elim
  | outgrown => exact absurd rfl hne2
/-- behind the iterator -/
theorem rf_end {n l D : Nat} {fn : FuncId} {tm : Array Value} {ps : Array Tmp} {assign body : Code} {Q : Exit → Act → World → Prop} {W : World} {v : Value} {st : LoopState} {pe : Option Code}
    (hl : W.heap[l]? = some (.loop (LRec fn tm ps assign body D st pe))) (h : vexit (fun e _ => Q e a (W.putObj l (.loop (LRec fn tm ps assign body D .exhausted pe)))) st pe s) :
    rangePost Fence.wide n P l Q a (.returned v) W := by
  unfold vexit at h
  split at h
  · split at h
    · exact ⟨none, _, run_endLoop (P := P) hl (by simp [LRec]), h⟩
    · exact h.elim
  · split at h
    · rename_i c
      split at h
      · exact ⟨some .ret, _, run_endLoop (P := P) hl (by simp [LRec]), wpIn_ret h⟩
      · exact ⟨some (.exit _), _, run_endLoop (P := P) hl (by simp [LRec]), wpIn_exit h⟩
      · exact h.elim
    · exact h.elim
  · exact h.elim
theorem vexit_mono {Q : Exit → S → Prop} {Q' : Exit → S → Prop} {st : LoopState} {pe : Option Code} {s s' : S} (hm : ∀ e, e ≠ .outgrown → Q e s → Q' e s') (h : vexit Q st pe s) : vexit Q' st pe s' := by
  unfold vexit at h ⊢
  split at h
  · split at h
    · exact hm _ (by simp) h
    · exact h.elim
  · split at h
    · split at h
      · exact hm _ (by simp) h
      · exact hm _ (by simp) h
      · exact h.elim
    · exact h.elim
  · exact h.elim
theorem rf_enter2 {n : Nat} {x : Operand} {ps : Array Tmp} {assign body : Code} {Q : Exit → Act → World → Prop} {gf : Nat} {lb : Array Value}
    (hg : a.eval x = .func (.func gf) #[] lb) (eg : ∀ args w, (callFunc gf args).run P w = .ok (.enter gf args) w)
    (h : ∀ (fn : FuncId), CallsIn Fence.wide (n - 1) P gf (#[.func (.yield (w.heap.size + 1)) #[] #[]] ++ lb) ((w.alloc (.deferred (some []))).alloc (.loop (LRec fn a.tmps ps assign body w.heap.size .ready none))) (rangePost Fence.wide n P (w.heap.size + 1) Q { a with defers := [{ target := .collected w.heap.size, args := #[] }] ++ a.defers })) :
    (Code.rangeFunc x ps assign body).wpIn Fence.wide n P Q a w := by
  refine wpIn_rangeFunc ?_
  intro fn hfn
  have h := h fn
  obtain ⟨W1, hW1⟩ : ∃ W1, (w.alloc (.deferred (some []))).alloc (.loop (LRec fn a.tmps ps assign body w.heap.size .ready none)) = W1 := ⟨_, rfl⟩
  rw [hW1] at h
  refine ⟨w.heap.size + 1, [{ target := .collected w.heap.size, args := #[] }], W1, { target := .fn (.func gf) lb, args := #[.func (.yield (w.heap.size + 1)) #[] #[]] }, W1, gf,
    #[.func (.yield (w.heap.size + 1)) #[] #[]] ++ lb, W1, ?_, ?_, ?_, ?_, fun h => by simp [Fence.wide] at h, ?_⟩
  · rw [← hW1]; exact run_enterLoop_outer _ _ _ _ _
  · simp only [resolve, hg]; simp [go_sem]
  · intro f' _; trivial
  · simp [invoke, go_sem, eg]
  · exact h
end
end Go.Proofs.Ytilmhjojbolbeaa.AM

namespace Go.Proofs.Ytilmhjojbolbeaa.AM
open Go Go.RowKit

section
variable {P : Program} {H : (α : Type) → α → α} {TT : Nat → TS} {Tri : Spec} {Yl : Nat → YSp} {TrI : Nat → YSp → Spec} {w0 w1 : World} {S0 S1 : Fr} {N : Nat} {g : G} {s : S} {a : Act} {w : World}
theorem lift_up {d0 : List Deferred} {Q : Exit → S → Prop} (hb : MB w0 S0 d0 w1 S1) {e : Exit} {a : Act} {w : World} (h : Lift w1 S1 N d0 Q e a w) : LiftB w0 S0 N Q e a w := by
  obtain ⟨h1, h2, s, g, h3⟩ := h
  exact ⟨h1, w1, S1, by rw [h2]; exact hb, s, g, h3⟩
theorem vcall_okF {Tr : Spec} (hF : ∀ f xs σ R, Tr f xs σ R → okF P f = true) {f : FuncId} {xs : List V} {s : S} {K : V → S → Prop} (hk : vcall (Tr f) s xs K) : okF P f = true := by
  obtain ⟨ids, -, xs', σ0, -, -, R, hT, -⟩ := hk
  exact hF _ _ _ _ hT
theorem nw_kp {w w' : World} (h : Nw w w') : Kp (fun _ => False) w w' := ⟨h.os, h.tape, h.output, h.size, fun k hk _ => h.block k hk⟩
variable (hH : ∀ α x, H α x = x) (hT : TTok P TT) (hTri : ∀ f xs σ R, Tri f xs σ R → TriS P f xs σ R) (hYl : ∀ l xs σ R, Yl l xs σ R → TriY P l xs σ R)
  (hTrF : ∀ l J f xs σ R, TrI l J f xs σ R → okF P f = true) (hTrI : ∀ l J f xs σ R, TrI l J f xs σ R → TriIS P l J f xs σ R)
include hTrF hTrI
/-- the statement itself -/
theorem rangeFunc_ok {n : Nat} {x : Operand} {ps : Array Tmp} {assign body : Code} {evA evB : (Exit → S → Prop) → S → Prop} (hA : ∀ l, CS P N (some l) assign evA) (hB : ∀ l, CS P N (some l) body evB) (hps : ∀ p ∈ ps.toList, p < N) {Q : Exit → S → Prop} (hb : MB w0 S0 a.defers w1 S1) (h : Rel w1 S1 N g s a.tmps w)
    {f : FuncId} {cs : List V} (hx : ev s x = some (.fn (.func f) cs)) {ks : List Nat} {xc : List V} (hl : looks s.A ks = some xc)
    (hk : ∀ (l : Nat) (rf : LoopState → Option Code → Obj) (vs : List Value), ∃ J : YSp,
      (∀ xs σ R, J xs σ R → ∃ i, isRec l rf vs .ready none (look i σ) fun xc => Nat.beq ps.size xs.length = true ∧
        evA (fun (e : Exit) s => match e with
          | .normal => isRec l rf vs .ready none (look i s.σ) fun xc => evB (vendY l rf vs i R) { s with σ := upd i (.rw l rf .busy none xc vs) s.σ }
          | _ => False) ⟨putPs ps.toList xs (zipA ks xc), σ, 100⟩) ∧
      fresh s (.rw l rf .ready none xc vs) fun j s1 => vcall (TrI l J f) s1 (.fn (.yield l) [] :: cs) fun _ s' => match look j s'.σ with
        | some (.rw l' rf' st pe xc vs') => ((l' = l ∧ rf' = rf) ∧ vs' = vs) ∧ vexit Q st pe { s' with σ := upd j (.rw l rf .exhausted pe xc vs) s'.σ }
        | _ => False) : (Code.rangeFunc x ps assign body).wpIn (FF none) n P (LiftB w0 S0 N Q) a w := by
  obtain ⟨us, e, hus⟩ := ev_ok h hx
  have hok : okF P f = true := by
    obtain ⟨J, -, hf⟩ := hk 0 (fun _ _ => .deferred none) []
    exact vcall_okF (hTrF 0 J) (fresh_mem hf).2.2.2
  refine rf_enter2 e (fun args w => callFunc_run hok args) ?_
  intro fn
  obtain ⟨rf, hrf⟩ : ∃ rf : LoopState → Option Code → Obj, rf = fun st pe => .loop (LRec fn a.tmps ps assign body w.heap.size st pe) := ⟨_, rfl⟩
  obtain ⟨J, hJ, hf⟩ := hk (w.heap.size + 1) rf (ks.map fun k => a.tmps.getD k undef)
  obtain ⟨hf1, hf2, hf3, hf⟩ := fresh_mem hf
  obtain ⟨Wd, hWd⟩ : ∃ Wd, w.alloc (.deferred (some [])) = Wd := ⟨_, rfl⟩
  have hd1 : Wd.heap.size = w.heap.size + 1 := by rw [← hWd]; simp
  have hkd : Kp (fun _ => False) w Wd := by rw [← hWd]; exact nw_kp (nw_alloc w _)
  have hdD : Wd.heap[w.heap.size]? = some (.deferred (some [])) := by rw [← hWd]; exact World.alloc_heap_new w _
  have hmk := hb.marks h
  have hX1 : ∀ b, S1.X b → b < w.heap.size := fun b hb => Nat.lt_of_lt_of_le (h.dj b hb).2 h.kp.size
  have h1 : Rel Wd ⟨mine s.σ g, fun b => S1.X b ∨ b = w.heap.size, S1.g0⟩ N g s a.tmps Wd := h.rebase hkd (fun b hb => hb.elim) (fun b hb => by
    rcases hb with hb | rfl
    · exact ⟨.inl hb, Nat.lt_of_lt_of_le (hX1 b hb) hkd.size⟩
    · exact ⟨.inr (Nat.le_refl _), by omega⟩) (fun b hb => .inl hb)
  have hb1 : MB w0 S0 ([{ target := .collected w.heap.size, args := #[] }] ++ a.defers) Wd ⟨mine s.σ g, fun b => S1.X b ∨ b = w.heap.size, S1.g0⟩ := by
    refine hb.step h hkd (fun b hb => hb.elim) (fun b hb => .inl hb) ⟨w.heap.size, rfl, hdD, ⟨Nat.le_trans hb.kp.size h.kp.size, .inr rfl⟩, fun d' hd' ed => ?_, hmk.mono (fun b hb => .inl hb) (fun b hb he => (hkd.block b (hX1 b hb) (fun h => h)).trans he)⟩
    have : ∀ {ds : List Deferred}, Marks w0.heap.size S1.X w ds → d' ∈ ds → ∃ D, d' = { target := .collected D, args := #[] } ∧ D < w.heap.size := fun {ds} => by
      induction ds with
      | nil => intro _ h; cases h
      | cons q ds ih =>
        rintro ⟨D, q1, q2, -, -, q3⟩ hm
        rcases List.mem_cons.1 hm with rfl | hm
        · exact ⟨D, q1, blk_size q2⟩
        · exact ih q3 hm
    obtain ⟨D, q1, q2⟩ := this hmk hd'
    rw [q1] at ed
    injection ed with e1
    injection e1 with e1
    omega
  have hW1 : (Wd.alloc (rf .ready none)).heap[w.heap.size + 1]? = some (rf .ready none) := by
    have := World.alloc_heap_new Wd (rf .ready none); rwa [hd1] at this
  have h2 := h1.add (w' := Wd.alloc (rf .ready none)) (.rw (w.heap.size + 1) rf .ready none xc (ks.map fun k => a.tmps.getD k undef)) ⟨w.heap.size + 1, 0, false, 0, 0⟩ hf1 hf2 (nw_kp (nw_alloc Wd _)) (fun _ => by rw [hd1]; exact Nat.le_refl _)
    (fun ow hsub => ⟨rfl, rfl, hW1, RVs_keep (fun b _ hlt => Below.heap_alloc Wd _ b hlt) (by simp) (fun b hlt hn hb => by
      rcases hsub b hb with h | h
      · exact hn h
      · omega) _ _ (fun q hq => if_neg (fun (e : q = s.nx) => hf1 (e ▸ looks_refs hl q hq))) (looks_ok h1.ra hl)⟩)
  obtain ⟨g2, hg2⟩ : ∃ g2 : G, g2 = fun i => if i = s.nx then ⟨w.heap.size + 1, 0, false, 0, 0⟩ else g i := ⟨_, rfl⟩
  rw [← hg2] at h2
  obtain ⟨us2, e2, hus2⟩ := ev_ok (s := { s with σ := (s.nx, .rw (w.heap.size + 1) rf .ready none xc (ks.map fun k => a.tmps.getD k undef)) :: s.σ, nx := s.nx + 1 }) h2 (x := x) (v := .fn (.func f) cs) (by
    cases x <;> exact hx)
  obtain rfl : us2 = us := by rw [e] at e2; injection e2 with _ _ e2; exact e2.symm
  have hcall := vcallG_ok (CC := fun vs w R => Calls P f vs.toArray w R) (C0 := okF P f = true) (fun _ _ _ _ hm hc => hc.mono hm)
    (fun xs σ R hs => hTrI _ _ _ _ _ _ hs (fun xs σ R hj => round_ok (hA _) (hB _) h.sz hps hrf rfl (hJ xs σ R hj))) h2 (xs := .fn (.yield (w.heap.size + 1)) [] :: cs) (vs := .func (.yield (w.heap.size + 1)) #[] #[] :: us2.toList) ⟨⟨#[], rfl, trivial⟩, hus2⟩ hf
  have hrfr : rf .ready none = .loop (LRec fn a.tmps ps assign body w.heap.size .ready none) := by rw [hrf]
  rw [hWd, ← hrfr]
  have harr : (Value.func (.yield (w.heap.size + 1)) #[] #[] :: us2.toList).toArray = #[.func (.yield (w.heap.size + 1)) #[] #[]] ++ us2 := by simp [← Array.toList_inj]
  rw [harr] at hcall
  refine callsIn_wide.2 (hcall.2.mono ?_)
  rintro e' w' ⟨q, val, s', g', rfl, k1, k2, -⟩
  split at k1
  · rename_i l' rf' st pe xc' vs' hlk
    obtain ⟨⟨⟨rfl, rfl⟩, rfl⟩, k1⟩ := k1
    have h3 := k2.recAt hlk
    have h4 := k2.recUpd (st' := .exhausted) (pe' := pe) hlk
    have hrf' : ∀ st pe, rf' st pe = .loop (LRec fn a.tmps ps assign body w.heap.size st pe) := fun st pe => by rw [hrf]
    rw [hrf'] at h3 h4
    refine rf_end (s := s') h3 (vexit_mono (fun e hne hq => ?_) k1)
    exact ⟨hne, _, _, hb1, _, g', h4, hq⟩
  · exact k1.elim
end
end Go.Proofs.Ytilmhjojbolbeaa.AM

namespace Go.Proofs.Ytilmhjojbolbeaa.AM
open Go

section
variable {P : Program} {H : (α : Type) → α → α} {TT : Nat → TS} {Tri : Spec} {Yl : Nat → YSp} {TrI : Nat → YSp → Spec} {N : Nat}
variable (hH : ∀ α x, H α x = x) (hT : TTok P TT) (hTri : ∀ f xs σ R, Tri f xs σ R → TriS P f xs σ R) (hYl : ∀ l xs σ R, Yl l xs σ R → TriY P l xs σ R)
  (hTrF : ∀ l J f xs σ R, TrI l J f xs σ R → okF P f = true) (hTrI : ∀ l J f xs σ R, TrI l J f xs σ R → TriIS P l J f xs σ R)
include hH hT hTri hYl hTrF hTrI
theorem vcode_ok (hm : P.follows .mixedOrders = true) {OR : Nat → List (Nat × List Nat)} : ∀ (c : Code) (r : Option Nat), okC TT N OR c = true → (r.isSome = true → noSR c = true) → CS P N r c (vcode H TT Tri Yl TrI OR c) := by
  intro c
  induction c with
  | skip => intro r _ _ n Q s g a w w0 w1 S0 S1 hd h hk; exact wpIn_skip ⟨by simp, _, _, hd, s, g, h, hk⟩
  | label l => intro r _ _ n Q s g a w w0 w1 S0 S1 hd h hk; exact wpIn_label ⟨by simp, _, _, hd, s, g, h, hk⟩
  | exit id => intro r _ _ n Q s g a w w0 w1 S0 S1 hd h hk; exact wpIn_exit ⟨by simp, _, _, hd, s, g, h, hk⟩
  | ret => intro r _ _ n Q s g a w w0 w1 S0 S1 hd h hk; exact wpIn_ret ⟨by simp, _, _, hd, s, g, h, hk⟩
  | region id ops d =>
    intro r hc _ n Q s g a w w0 w1 S0 S1 hd h hk
    simp only [okC, Bool.and_eq_true] at hc
    refine wpIn_mono ?_ (fun e a' w' hq => lift_up hd hq)
    cases d with
    | false => exact wpIn_region_list (vops_ok hH hT hTri hYl ops.toList (fun o ho => ⟨notDef_at hc.1.2 o (by simpa using ho), fun d hd => okD_at hc.2 o ho d hd⟩) rfl h hk)
    | true => exact wpIn_region_any hm (anyF (fun i o ho => notDef_at hc.1.2 o (Array.mem_of_getElem? ho)) lift_out _ _ _ _ (vdraw_any hH hT hTri hc.1.1 (fun j o d ho hd => okD_at hc.2 o (by simpa using Array.mem_of_getElem? ho) d hd) rfl h hk))
  | seq x y ihx ihy =>
    intro r hc hns n Q s g a w w0 w1 S0 S1 hd h hk
    simp only [okC] at hc
    split at hc
    · rename_i hcx
      have hns2 : r.isSome = true → noSR x = true ∧ noSR y = true := fun hr => by
        have := hns hr
        simp only [noSR] at this
        split at this
        · rename_i h1; exact ⟨h1, this⟩
        · cases this
      refine wpIn_seq (wpIn_mono (ihx r hcx (fun hr => (hns2 hr).1) hd h hk) fun e a' w' hq => ?_)
      obtain ⟨hne, w1', S1', hd', s', g', h', hk'⟩ := hq
      cases e with
      | normal => exact ihy r hc (fun hr => (hns2 hr).2) hd' h' hk'
      | exit id => exact ⟨by simp, _, _, hd', s', g', h', hk'⟩
      | goto id => exact ⟨by simp, _, _, hd', s', g', h', hk'⟩
      | ret => exact ⟨by simp, _, _, hd', s', g', h', hk'⟩
      | panic ch => exact ⟨by simp, _, _, hd', s', g', h', hk'⟩
      | outgrown => exact absurd rfl hne
    · cases hc
  | cond x y z ihy ihz =>
    intro r hc hns n Q s g a w w0 w1 S0 S1 hd h hk
    simp only [okC] at hc
    split at hc
    · rename_i hcy
      have hns2 : r.isSome = true → noSR y = true ∧ noSR z = true := fun hr => by
        have := hns hr
        simp only [noSR] at this
        split at this
        · rename_i h1; exact ⟨h1, this⟩
        · cases this
      simp only [vcode] at hk
      obtain ⟨v, h1, hk1⟩ := need_some hk
      clear hk
      split at hk1
      · rename_i b
        have hv : a.eval x = .bool b := ev_ok h h1
        have h2 : ∀ b', ev s x = some (.b b') → Rel w1 S1 N g (put (slot x) (.b b') s) a.tmps w := fun b' hb => by
          cases x with
          | tmp t => exact h.same (h.ra t _ hb)
          | const => exact h
          | func => exact h
          | global => exact h
        refine wpIn_cond hv ?_
        cases b with
        | true => exact ihy r hcy (fun hr => (hns2 hr).1) hd (h2 true h1) hk1
        | false => exact ihz r hc (fun hr => (hns2 hr).2) hd (h2 false h1) hk1
      · exact hk1.elim
    · cases hc
  | scope c ih =>
    intro r hc hns n Q s g a w w0 w1 S0 S1 hd h hk
    have hr : r = none := by
      cases r with
      | none => rfl
      | some l => have := hns rfl; cases this
    subst hr
    have hc' := @ih none hc (fun hr => by cases hr) n _ s g a w w0 w1 S0 S1 hd h hk
    refine (wpIn_wide (n := n)).2 (wp_scope_straight (wp_mono ((wpIn_wide (n := n)).1 hc') fun e a' w' hq => ?_))
    obtain ⟨hne, w1', S1', hd', s', g', h', hk'⟩ := hq
    cases e with
    | goto l => exact hk'.elim
    | normal => exact ⟨hne, _, _, hd', s', g', h', hk'⟩
    | exit id => exact ⟨hne, _, _, hd', s', g', h', hk'⟩
    | ret => exact ⟨hne, _, _, hd', s', g', h', hk'⟩
    | panic ch => exact ⟨hne, _, _, hd', s', g', h', hk'⟩
    | outgrown => exact absurd rfl hne
  | block id c ih =>
    intro r hc hns n Q s g a w w0 w1 S0 S1 hd h hk
    refine wpIn_block (wpIn_mono (ih r hc hns hd h hk) fun e a' w' hq => ?_)
    obtain ⟨hne, w1', S1', hd', s', g', h', hk'⟩ := hq
    cases e with
    | exit j =>
      simp only [Exit.inBlock]
      simp only at hk'
      split at hk'
      · rename_i hj; rw [if_pos (beq_iff.1 hj)]; exact ⟨by simp, _, _, hd', s', g', h', hk'⟩
      · rename_i hj; rw [if_neg (beq_no hj)]; exact ⟨by simp, _, _, hd', s', g', h', hk'⟩
    | normal => exact ⟨by simp, _, _, hd', s', g', h', hk'⟩
    | goto id => exact ⟨by simp, _, _, hd', s', g', h', hk'⟩
    | ret => exact ⟨by simp, _, _, hd', s', g', h', hk'⟩
    | panic ch => exact ⟨by simp, _, _, hd', s', g', h', hk'⟩
    | outgrown => exact absurd rfl hne
  | loop c ih =>
    intro r hc hns n0 Q s g a w w0 w1 S0 S1 hd h hk
    obtain ⟨u, hk⟩ := hk
    cases u with
    | succ n =>
      have go : ∀ (n : Nat) (s : S) (g : G) (a : Act) (w w1 : World) (S1 : Fr), MB w0 S0 a.defers w1 S1 → Rel w1 S1 N g s a.tmps w → iterP (fun k s => vcode H TT Tri Yl TrI OR c (fun (e : Exit) s => match e with | .normal => k s | e => Q e s) s) n s → Code.roundsIn (FF r) n0 P c (LiftB w0 S0 N Q) n a w := by
        intro n
        induction n with
        | zero => intro s g a w w1 S1 _ _ h; exact h.elim
        | succ n ihn =>
          intro s g a w w1 S1 hd h hk
          refine wpIn_mono (ih r hc hns hd h hk) fun e a' w' hq => ?_
          obtain ⟨hne, w1', S1', hd', s', g', h', hk'⟩ := hq
          cases e with
          | normal => exact ihn s' g' a' w' w1' S1' hd' h' hk'
          | exit id => exact ⟨by simp, _, _, hd', s', g', h', hk'⟩
          | goto id => exact ⟨by simp, _, _, hd', s', g', h', hk'⟩
          | ret => exact ⟨by simp, _, _, hd', s', g', h', hk'⟩
          | panic ch => exact ⟨by simp, _, _, hd', s', g', h', hk'⟩
          | outgrown => exact absurd rfl hne
      exact wpIn_loop_rounds n (go n s g a w w1 S1 hd h hk)
    | zero =>
    obtain ⟨α, st, I, μ, ⟨x, hx, hsub⟩, hround⟩ := hk
    obtain ⟨g1, h1⟩ := sub_ok hsub h
    refine wpIn_loop_gh (fun n a w => ∃ w1 S1, MB w0 S0 a.defers w1 S1 ∧ ∃ x g, I x ∧ μ x = n ∧ Rel w1 S1 N g (st x) a.tmps w) (μ x) ⟨w1, S1, hd, x, g1, hx, rfl, h1⟩ ?_
    rintro n a' w' ⟨w2, S2, hd', y, g2, hy, rfl, h2⟩
    refine wpIn_mono (ih r hc hns hd' h2 (hround y hy)) fun e a'' w'' hq => ?_
    obtain ⟨hne, w3, S3, hd3, s3, g3, h3, hk3⟩ := hq
    cases e with
    | normal =>
      obtain ⟨z, hz, hlt, hsub'⟩ := hk3
      obtain ⟨g4, h4⟩ := sub_ok hsub' h3
      exact ⟨μ z, hlt, w3, S3, hd3, z, g4, hz, rfl, h4⟩
    | exit id => exact ⟨by simp, _, _, hd3, s3, g3, h3, hk3⟩
    | goto id => exact ⟨by simp, _, _, hd3, s3, g3, h3, hk3⟩
    | ret => exact ⟨by simp, _, _, hd3, s3, g3, h3, hk3⟩
    | panic ch => exact ⟨by simp, _, _, hd3, s3, g3, h3, hk3⟩
    | outgrown => exact absurd rfl hne
  | rangeFunc x ps assign body iha ihb =>
    intro r hc hns n Q s g a w w0 w1 S0 S1 hd h hk
    have hr : r = none := by
      cases r with
      | none => rfl
      | some l => have := hns rfl; cases this
    subst hr
    simp only [okC] at hc
    split at hc
    · rename_i h1 h2 h3 h4
      simp only [Bool.and_eq_true] at h3
      simp only [vcode] at hk
      obtain ⟨v, hx, hk1⟩ := need_some hk
      clear hk
      split at hk1
      · rename_i f cs
        obtain ⟨ks, hk1⟩ := hk1
        obtain ⟨xc, hl, hk1⟩ := need_some hk1
        exact rangeFunc_ok hTrF hTrI (fun l => iha (some l) h1 (fun _ => h3.1)) (fun l => ihb (some l) h2 (fun _ => h3.2)) (fun p hp => by
          have := Array.all_eq_true'.1 h4 p (by simpa using hp)
          simpa using this) hd h hx hl hk1
      · exact hk1.elim
    · cases hc
  | _ => intro r hc hns n Q s g a w w0 w1 S0 S1 hd h hk; exact hk.elim
end
end Go.Proofs.Ytilmhjojbolbeaa.AM

namespace Go.Proofs.Ytilmhjojbolbeaa.AM
open Go

section
variable {P : Program} {H : (α : Type) → α → α} {TT : Nat → TS} {Tri : Spec} {w0 : World} {S0 : Fr} {N : Nat} {g : G} {s : S} {a : Act} {w : World} {tmps : Array Value}
theorem mapL_run {α β : Type} {f : α → Sem β} : ∀ {l : List α} {vs : List β}, vs.length = l.length → (∀ (j : Nat) (x : α), l[j]? = some x → ∃ v, vs[j]? = some v ∧ (f x).run P w = .ok v w) → (l.mapM f).run P w = .ok vs w
  | [], [], _, _ => by simp
  | x :: l, v :: vs, hl, h => by
    obtain ⟨u, h1, h2⟩ := h 0 x rfl
    simp at h1; subst h1
    have h3 := mapL_run (l := l) (vs := vs) (by simpa using hl) (fun j y hy => by simpa using h (j + 1) y (by simpa using hy))
    simp [List.mapM_cons, h2, h3]
theorem mapM_run {α β : Type} {f : α → Sem β} {az : Array α} {vs : List β} (hl : vs.length = az.size) (h : ∀ (j : Nat) (x : α), az[j]? = some x → ∃ v, vs[j]? = some v ∧ (f x).run P w = .ok v w) : (az.mapM f).run P w = .ok vs.toArray w := by
  rw [Array.mapM_eq_mapM_toList]
  have := mapL_run (P := P) (w := w) (f := f) (l := az.toList) (vs := vs) (by simpa using hl) (fun j x hx => h j x (by simpa using hx))
  simp [this]
def resF (tmps : Array Value) : ResultVar → Sem Value
  | .tmp t => pure (tmps.getD t undef)
  | .cell a t => do loadVar t (← asAddr (tmps.getD a undef))
theorem results_run {fn : Func} {vs : List Value} (hl : vs.length = fn.results.size) (h : ∀ (j : Nat) (x : ResultVar), fn.results[j]? = some x → ∃ v, vs[j]? = some v ∧ (resF tmps x).run P w = .ok v w) :
    (results fn tmps).run P w = .ok (if h : vs.toArray.size = 1 then vs.toArray[0] else .tuple vs.toArray) w := by
  have h1 := mapM_run (f := resF tmps) hl h
  have h2 : results fn tmps = (do let vs ← fn.results.mapM (resF tmps); pure (if h : vs.size = 1 then vs[0] else .tuple vs)) := rfl
  rw [h2]
  simp [h1]
variable (hH : ∀ α x, H α x = x) (hT : TTok P TT)
include hH hT
theorem vress_ok (h : Rel w0 S0 N g s tmps w) : ∀ {rs : List ResultVar} {K : List V → Prop}, vress H TT s rs K → ∃ vs us, K vs ∧ RVs g w (own S0 s.σ g) vs us ∧ us.length = rs.length ∧ ∀ (j : Nat) (x : ResultVar), rs[j]? = some x → ∃ v, us[j]? = some v ∧ (resF tmps x).run P w = .ok v w
  | [], K, hk => ⟨[], [], hk, trivial, rfl, fun j x hx => by simp at hx⟩
  | .tmp t :: r, K, hk => by
    simp only [vress] at hk
    obtain ⟨v, h1, hk⟩ := need_some hk
    obtain ⟨vs, us, h2, h3, h4, h5⟩ := vress_ok h hk
    refine ⟨_, _ :: us, h2, ⟨h.ra t v h1, h3⟩, by simp [h4], fun j x hx => ?_⟩
    cases j with
    | zero => simp at hx; subst hx; exact ⟨_, rfl, by simp [resF]⟩
    | succ j => simpa using h5 j x (by simpa using hx)
  | .cell a t :: r, K, hk => by
    simp only [vress] at hk
    obtain ⟨p, h1, hk⟩ := need_some hk
    obtain ⟨T, -, hk, hc⟩ := ty_ok hT hk
    obtain ⟨v, val, hk, h6, h7⟩ := vload_ok hH hc h.ob (h.ra a p h1) hk
    obtain ⟨vs, us, h2, h3, h4, h5⟩ := vress_ok h hk
    refine ⟨_, val :: us, h2, ⟨h6, h3⟩, by simp [h4], fun j x hx => ?_⟩
    cases j with
    | zero =>
      simp at hx; subst hx
      refine ⟨_, rfl, ?_⟩
      simp only [resF]
      generalize tmps.getD a undef = u at h7
      unfold Instr.loadAt at h7
      cases u with
      | pointer q =>
        cases q with
        | some q => simpa [Instr.sureAddr, asAddr] using h7
        | none => simp [Instr.sureAddr, stuck] at h7
      | _ => simp [Instr.sureAddr, stuck] at h7
    | succ j => simpa using h5 j x (by simpa using hx)
theorem vend_ok {fn : Func} {R : V → Sto → Prop} {e : Exit} (h : Rel w0 S0 N g s tmps w) (hk : vend H TT fn.results R e s) : (e = .normal ∨ e = .ret) ∧ ∃ r σ' g' v, R r σ' ∧ (results fn tmps).run P w = .ok v w ∧ closed r σ' = true ∧ Rel w0 S0 1 g' ⟨[(0, r)], σ', 100⟩ #[v] w := by
  have key : vress H TT s fn.results.toList (fun vs => ∃ r σ', R r σ' ∧ closed r σ' = true ∧ sub ⟨[(0, one vs)], s.σ, s.nx⟩ ⟨[(0, r)], σ', 100⟩) → ∃ r σ' g' v, R r σ' ∧ (results fn tmps).run P w = .ok v w ∧ closed r σ' = true ∧ Rel w0 S0 1 g' ⟨[(0, r)], σ', 100⟩ #[v] w := fun hk => by
    obtain ⟨vs, us, ⟨r, σ', h1, h2, h3⟩, h4, h5, h6⟩ := vress_ok hH hT h hk
    have hrun := results_run (fn := fn) (tmps := tmps) (P := P) (w := w) (by simpa using h5) (fun j x hx => h6 j x (by simpa using hx))
    have hval : RV g w (own S0 s.σ g) (one vs) (if h : us.toArray.size = 1 then us.toArray[0] else .tuple us.toArray) := by
      match vs, us, h4 with
      | [], [], _ => exact ⟨#[], rfl, trivial⟩
      | [x], [u], h4 => exact h4.1
      | x :: y :: vs, u :: v :: us, h4 => exact ⟨(u :: v :: us).toArray, by simp, h4⟩
    have h7 : Rel w0 S0 1 g ⟨[(0, one vs)], s.σ, s.nx⟩ #[if h : us.toArray.size = 1 then us.toArray[0] else .tuple us.toArray] w := by
      refine ⟨h.ob, fun t x hx => ?_, rfl, h.kp, h.fr, h.pin, h.nx, h.dj⟩
      simp only [look_cons] at hx
      split at hx
      · rename_i e; subst e; cases hx; exact hval
      · simp [look] at hx
    obtain ⟨g', h8⟩ := sub_ok h3 h7
    exact ⟨r, σ', g', _, h1, hrun, h2, h8⟩
  cases e with
  | normal => exact ⟨.inl rfl, key hk⟩
  | ret => exact ⟨.inr rfl, key hk⟩
  | _ => exact hk.elim
omit hH hT in
theorem args0_look {ow : Nat → Prop} : ∀ {xs : List V} {vs : List Value} (n : Nat), RVs g w ow xs vs → ∀ t x, look t (args0 n xs) = some x → ∃ j v, t = n + j ∧ vs[j]? = some v ∧ RV g w ow x v
  | [], [], n, _, t, x, hx => by simp [args0, look] at hx
  | y :: xs, v :: vs, n, h, t, x, hx => by
    simp only [args0, look_cons] at hx
    split at hx
    · rename_i e; cases hx; exact ⟨0, v, by omega, rfl, h.1⟩
    · obtain ⟨j, u, h1, h2, h3⟩ := args0_look (n + 1) h.2 t x hx
      exact ⟨j + 1, u, by omega, by simpa using h2, h3⟩
  | [], _ :: _, _, h, _, _, _ => h.elim
  | _ :: _, [], _, h, _, _, _ => h.elim
omit hH hT in
/-- the marks are taken off -/
theorem leaves_ok {n : Nat} {fn : Func} {R : Ending → World → Prop} : ∀ {ds : List Deferred} {w1 : World} {S1 : Fr} {g : G} {s : S} {w : World}, MB w0 S0 ds w1 S1 → Rel w1 S1 N g s tmps w →
    (∀ w1 S1 g w, MB w0 S0 [] w1 S1 → Rel w1 S1 N g s tmps w → ∃ v, (results fn tmps).run P w = .ok v w ∧ R (.returned v) w) → LeavesInM Fence.wide n P fn tmps R ds .returning w
  | [], w1, S1, g, s, w, hb, h, hk => by
    obtain ⟨v, h1, h2⟩ := hk w1 S1 g w hb h
    exact ⟨_, h1, h2⟩
  | d :: ds, w1, S1, g, s, w, hb, h, hk => by
    obtain ⟨D, rfl, hD, ⟨hn, hx⟩, hne, hms⟩ := hb.marks h
    refine ⟨by simp, .inl ⟨D, _, rfl, run_takeDeferred hD, ?_⟩⟩
    have hk1 := kp_putObj w D (.deferred none)
    have h1 := h.rebase (X2 := S1.X) hk1 (fun b hb hlt => by subst hb; exact hx) (fun b hb => ⟨.inl hb, by rw [World.putObj_size]; exact Nat.lt_of_lt_of_le (h.dj b hb).2 h.kp.size⟩) (fun b hb => hb)
    refine leaves_ok (hb.step h hk1 (fun b hb => by subst hb; exact hn) (fun b hb => hb) ?_) h1 hk
    have go : ∀ {ds' : List Deferred}, (∀ d' ∈ ds', d' ≠ { target := .collected D, args := #[] }) → Marks w0.heap.size S1.X w ds' → Marks w0.heap.size S1.X (w.putObj D (.deferred none)) ds' := fun {ds'} => by
      induction ds' with
      | nil => intro _ _; trivial
      | cons q ds' ih =>
        rintro hq ⟨D', q1, q2, q3, q4, q5⟩
        refine ⟨D', q1, ?_, q3, q4, ih (fun d' hd' => hq d' (by simp [hd'])) q5⟩
        rw [World.putObj_heap_other]
        · exact q2
        · intro e; subst e; exact hq q (by simp) q1
    exact go hne hms
/-- WHAT A FUNCTION DOES, of what the abstract machine shows -/
theorem tri_at (hm : P.follows .mixedOrders = true) {OR : Nat → List (Nat × List Nat)} {fn : Func} {c : Code} {f : FuncId} {xs : List V} {σ : Sto} {R : V → Sto → Prop} {Yl : Nat → YSp} {TrI : Nat → YSp → Spec} (hTri : ∀ f xs σ R, Tri f xs σ R → TriS P f xs σ R) (hYl : ∀ l xs σ R, Yl l xs σ R → TriY P l xs σ R)
    (hTrF : ∀ l J f xs σ R, TrI l J f xs σ R → okF P f = true) (hTrI : ∀ l J f xs σ R, TrI l J f xs σ R → TriIS P l J f xs σ R) (hf : P.funcs[f]? = some fn) (hb : fn.body = some c) (hF : okF P f = true) (hC : okC TT fn.ntmps OR c = true) (hn : xs.length ≤ fn.ntmps) (hv : vfunc H TT Tri Yl TrI OR c fn.results xs σ R) : TriS P f xs σ R := by
  refine ⟨hF, fun X g w vs hX hob hvs => rf_calls 0 hf hb ?_⟩
  have hlen := RVs_len hvs
  have h0 : Rel w ⟨mine σ g, X, g⟩ fn.ntmps g ⟨args0 0 xs, σ, 100⟩ (vs.toArray ++ Array.replicate (fn.ntmps - vs.toArray.size) undef) w := by
    refine ⟨hob, fun t x hx => ?_, by simp; omega, Kp.refl _ _, fun b hb => .inl hb, fun _ _ _ => rfl, Nat.le_refl _, hX⟩
    obtain ⟨j, v, h1, h2, h3⟩ := args0_look 0 hvs t x hx
    obtain rfl : t = j := by omega
    have hlt : t < vs.length := (List.getElem?_eq_some_iff.1 h2).1
    rw [Array.getD_eq_getD_getElem?, Array.getElem?_append_left (by simpa using hlt)]
    simpa [h2] using h3
  refine wp_mono ((wpIn_wide (n := 0)).1 (vcode_ok hH hT hTri hYl hTrF hTrI hm c none hC (fun h => by cases h) (n := 0) (a := ⟨_, []⟩) (MB.refl _ _) h0 hv)) fun e a' w' hq => ?_
  obtain ⟨-, w1, S1, hd, s', g', h1, hk⟩ := hq
  have hend : LeavesInM Fence.wide 0 P fn a'.tmps (fun e w' => ∃ r σ' g' v, R r σ' ∧ e = .returned v ∧ RV g' w' (own ⟨mine σ g, X, g⟩ σ' g') r v ∧ Ob ⟨mine σ g, X, g⟩ g' w' σ' ∧ Kp (mine σ g) w w' ∧ (∀ b, mine σ' g' b → mine σ g b ∨ w.heap.size ≤ b) ∧ (∀ i, i < 100 → (look i σ').isSome = true → g' i = g i) ∧ closed r σ' = true) a'.defers .returning w' := by
    refine leaves_ok hd h1 fun w2 S2 g2 w3 hd2 h2 => ?_
    obtain ⟨-, r, σ', g3, v, k1, k2, k3, k4⟩ := vend_ok hH hT h2 hk
    obtain ⟨q1, q2, q3, q4, q5⟩ := hd2.fin k4
    exact ⟨v, k2, r, σ', g3, v, k1, rfl, q1, q2, q3, q4, q5, k3⟩
  obtain ⟨he, -⟩ := vend_ok hH hT h1 hk
  rcases he with rfl | rfl
  · exact hend
  · exact hend
end
/-- the same, its shield left open -/
theorem tri_of {P : Program} {TT : Nat → TS} (hT : TTok P TT) (hm : P.follows .mixedOrders = true) {OR : Nat → List (Nat × List Nat)} {fn : Func} {c : Code} {f : FuncId} {xs : List V} {σ : Sto} {R : V → Sto → Prop} (hf : P.funcs[f]? = some fn) (hb : fn.body = some c) (hF : okF P f = true) (hC : okC TT fn.ntmps OR c = true) (hn : xs.length ≤ fn.ntmps)
    (hv : ∀ (H : (α : Type) → α → α) (Tri : Spec), (∀ α x, H α x = x) → (∀ f xs σ R, TriS P f xs σ R → Tri f xs σ R) → vfunc H TT Tri (fun _ _ _ _ => False) (fun _ _ _ _ _ _ => False) OR c fn.results xs σ R) : TriS P f xs σ R :=
  tri_at (H := fun _ x => x) (fun _ _ => rfl) hT hm (fun _ _ _ _ h => h) (fun _ _ _ _ h => h.elim) (fun _ _ _ _ _ _ h => h.elim) (fun _ _ _ _ _ _ h => h.elim) hf hb hF hC hn (hv _ _ (fun _ _ => rfl) (fun _ _ _ _ h => h))
/-- a function with loops over functions -/
theorem tri_of2 {P : Program} {TT : Nat → TS} (hT : TTok P TT) (hm : P.follows .mixedOrders = true) {OR : Nat → List (Nat × List Nat)} {fn : Func} {c : Code} {f : FuncId} {xs : List V} {σ : Sto} {R : V → Sto → Prop} (hf : P.funcs[f]? = some fn) (hb : fn.body = some c) (hF : okF P f = true) (hC : okC TT fn.ntmps OR c = true) (hn : xs.length ≤ fn.ntmps)
    (hv : ∀ (H : (α : Type) → α → α) (Tri : Spec) (TrI : Nat → YSp → Spec), (∀ α x, H α x = x) → (∀ f xs σ R, TriS P f xs σ R → Tri f xs σ R) → (∀ l J f xs σ R, okF P f = true → TriIS P l J f xs σ R → TrI l J f xs σ R) → vfunc H TT Tri (fun _ _ _ _ => False) TrI OR c fn.results xs σ R) : TriS P f xs σ R :=
  tri_at (H := fun _ x => x) (TrI := fun l J f xs σ R => okF P f = true ∧ TriIS P l J f xs σ R) (fun _ _ => rfl) hT hm (fun _ _ _ _ h => h) (fun _ _ _ _ h => h.elim) (fun _ _ _ _ _ _ h => h.1) (fun _ _ _ _ _ _ h => h.2) hf hb hF hC hn (hv _ _ _ (fun _ _ => rfl) (fun _ _ _ _ h => h) (fun _ _ _ _ _ _ h1 h2 => ⟨h1, h2⟩))
/-- an iterator -/
theorem tri_it {P : Program} {TT : Nat → TS} (hT : TTok P TT) (hm : P.follows .mixedOrders = true) {OR : Nat → List (Nat × List Nat)} {fn : Func} {c : Code} {f : FuncId} {xs : List V} {σ : Sto} {R : V → Sto → Prop} {l : Nat} {J : YSp} (hf : P.funcs[f]? = some fn) (hb : fn.body = some c) (hF : okF P f = true) (hC : okC TT fn.ntmps OR c = true) (hn : xs.length ≤ fn.ntmps)
    (hv : ∀ (H : (α : Type) → α → α) (Tri : Spec) (Yl : Nat → YSp), (∀ α x, H α x = x) → (∀ f xs σ R, TriS P f xs σ R → Tri f xs σ R) → (∀ xs σ R, J xs σ R → Yl l xs σ R) → vfunc H TT Tri Yl (fun _ _ _ _ _ _ => False) OR c fn.results xs σ R) : TriIS P l J f xs σ R :=
  fun hJ => tri_at (H := fun _ x => x) (Yl := TriY P) (fun _ _ => rfl) hT hm (fun _ _ _ _ h => h) (fun _ _ _ _ h => h) (fun _ _ _ _ _ _ h => h.elim) (fun _ _ _ _ _ _ h => h.elim) hf hb hF hC hn (hv _ _ _ (fun _ _ => rfl) (fun _ _ _ _ h => h) hJ)
def body (f : Func) : Code := match f.body with | some c => c | none => .skip
end Go.Proofs.Ytilmhjojbolbeaa.AM

namespace Go.Proofs.Ytilmhjojbolbeaa.AM
open Go

def OR0 : Nat → List (Nat × List Nat) := fun _ => []
def andF (k : IntKind) (a b : Int) : Int := k.wrap (BitVec.ofInt k.bits a &&& BitVec.ofInt k.bits b).toNat
def orF (k : IntKind) (a b : Int) : Int := k.wrap (BitVec.ofInt k.bits a ||| BitVec.ofInt k.bits b).toNat
def xorF (k : IntKind) (a b : Int) : Int := k.wrap (BitVec.ofInt k.bits a ^^^ BitVec.ofInt k.bits b).toNat
def shrF (k : IntKind) (a b : Int) : Int := a.fdiv (2 ^ min b.toNat k.bits)
def shlF (k : IntKind) (a b : Int) : Int := k.wrap (a * 2 ^ min b.toNat k.bits)
theorem castN {L : Int} {n : Nat} (h : L = NatCast.natCast n) : L = (n : Int) ∧ L.toNat = n ∧ 0 ≤ L := by
  have h' : L = Int.ofNat n := h
  refine ⟨h', ?_, ?_⟩
  · rw [h']; rfl
  · rw [h']; exact Int.natCast_nonneg n
theorem boolS : ((false = true) = False ∧ (true = false) = False ∧ (true = true) = True ∧ (false = false) = True) ∧ (∀ p : Prop, (False ↔ p) = ¬ p) ∧ (∀ p : Prop, (True ↔ p) = p) ∧ (∀ p : Prop, (True → p) = p) ∧ (∀ p : Prop, (False → p) = True) := by
  refine ⟨⟨by simp, by simp, by simp, by simp⟩, fun p => by simp, fun p => by simp, fun p => by simp, fun p => by simp⟩
theorem zeroS : (∀ a : Int, 0 + a = a) ∧ (∀ a : Int, a + 0 = a) ∧ (∀ a : Int, a - 0 = a) ∧ o0 none = 0 ∧ ∀ a : Int, o0 (some a) = a :=
  ⟨Int.zero_add, Int.add_zero, Int.sub_zero, rfl, fun _ => rfl⟩
theorem boolN {p : Prop} [Decidable p] {b : Bool} (h : decide p = b) : b = true ↔ p := by subst h; simp
theorem foldX (k : IntKind) (a b : Int) : k.wrap (NatCast.natCast (BitVec.ofInt k.bits a ^^^ BitVec.ofInt k.bits b).toNat) = xorF k a b := rfl
theorem foldA (k : IntKind) (a b : Int) : k.wrap (NatCast.natCast (BitVec.ofInt k.bits a &&& BitVec.ofInt k.bits b).toNat) = andF k a b := rfl
theorem foldO (k : IntKind) (a b : Int) : k.wrap (NatCast.natCast (BitVec.ofInt k.bits a ||| BitVec.ofInt k.bits b).toNat) = orF k a b := rfl
theorem foldR (k : IntKind) (a b : Int) : a.fdiv (2 ^ min b.toNat k.bits) = shrF k a b := rfl
theorem foldL (k : IntKind) (a b : Int) : k.wrap (a * 2 ^ min b.toNat k.bits) = shlF k a b := rfl
section
variable {R : V → Sto → Prop} {σ : Sto} {nx : Nat} {k k' : IntKind} {n n' : Int} {b b' : Bool} {s s' : Str}
theorem fin_i (h : R (.i k n) []) : ∃ r σ', R r σ' ∧ closed r σ' = true ∧ sub ⟨[(0, one [.i k n])], σ, nx⟩ ⟨[(0, r)], σ', 100⟩ :=
  ⟨_, _, h, rfl, by cbv⟩
theorem fin_b (h : R (.b b) []) : ∃ r σ', R r σ' ∧ closed r σ' = true ∧ sub ⟨[(0, one [.b b])], σ, nx⟩ ⟨[(0, r)], σ', 100⟩ :=
  ⟨_, _, h, rfl, by cbv⟩
theorem fin_s (h : R (.s s) []) : ∃ r σ', R r σ' ∧ closed r σ' = true ∧ sub ⟨[(0, one [.s s])], σ, nx⟩ ⟨[(0, r)], σ', 100⟩ :=
  ⟨_, _, h, rfl, by cbv⟩
theorem fin_si (h : R (.tu [.s s, .i k n]) []) : ∃ r σ', R r σ' ∧ closed r σ' = true ∧ sub ⟨[(0, one [.s s, .i k n])], σ, nx⟩ ⟨[(0, r)], σ', 100⟩ :=
  ⟨_, _, h, rfl, by cbv⟩
theorem fin_ii (h : R (.tu [.i k' n', .i k n]) []) : ∃ r σ', R r σ' ∧ closed r σ' = true ∧ sub ⟨[(0, one [.i k' n', .i k n])], σ, nx⟩ ⟨[(0, r)], σ', 100⟩ :=
  ⟨_, _, h, rfl, by cbv⟩
theorem fin_av {m : Nat} {f : Ix → Int} (h : R (.av k m f) []) : ∃ r σ', R r σ' ∧ closed r σ' = true ∧ sub ⟨[(0, one [.av k m f])], σ, nx⟩ ⟨[(0, r)], σ', 100⟩ :=
  ⟨_, _, h, rfl, by cbv⟩
end
theorem wrapU {k : IntKind} (hk : k = .u8 ∨ k = .u32 ∨ k = .u64) (n : Int) : 0 ≤ k.wrap n ∧ k.wrap n < 2 ^ k.bits := by
  rcases hk with rfl | rfl | rfl <;> (simp [IntKind.wrap, IntKind.bits, IntKind.signed]; omega)
end Go.Proofs.Ytilmhjojbolbeaa.AM

namespace Go.Proofs.Ytilmhjojbolbeaa.AM
open Go
def TT (t : Nat) : TS :=
  match Nat.blt t 252 with
  | false => { id := 0 }
  | true => (match Nat.blt t 126 with | true => (match Nat.blt t 64 with | true => (match Nat.blt t 30 with | true => (match Nat.blt t 14 with | true => (match Nat.blt t 7 with | true => (match Nat.blt t 4 with | true => (match Nat.blt t 2 with | true => { id := 1, z := [.v .nilFunc], nk := 3 } | false => (match Nat.blt t 3 with | true => { id := 2, z := [.i .i64 0], k := some .i64, nk := 10 } | false => { id := 3, z := [.i .i64 0], k := some .i64, nk := 10 })) | false => (match Nat.blt t 5 with | true => { id := 4, z := [.b false], nk := 6 } | false => (match Nat.blt t 6 with | true => { id := 5, z := [.i .u8 0], k := some .u8, nk := 10 } | false => { id := 6, z := [.i .u8 0], k := some .u8, nk := 10 }))) | false => (match Nat.blt t 10 with | true => (match Nat.blt t 8 with | true => { id := 7, ag := true, sz := 4, z := [.i .i64 0, .i .i64 0, .b false, .i .u8 0], fs := [(0, false, 1), (1, false, 1), (2, false, 1), (3, false, 1)], nk := 7 } | false => (match Nat.blt t 9 with | true => { id := 8, ag := true, sz := 4, z := [.i .i64 0, .i .i64 0, .b false, .i .u8 0], fs := [(0, false, 1), (1, false, 1), (2, false, 1), (3, false, 1)], nk := 7 } | false => { id := 9, z := [.s []], nk := 9 })) | false => (match Nat.blt t 12 with | true => (match Nat.blt t 11 with | true => { id := 10, z := [.s []], nk := 9 } | false => { id := 11, z := [.s []], nk := 9 }) | false => (match Nat.blt t 13 with | true => { id := 12, z := [.i .u64 0], k := some .u64, nk := 10 } | false => { id := 13, ag := true, sz := 2, z := [.s [], .i .u64 0], fs := [(0, false, 1), (1, false, 1)], nk := 7 })))) | false => (match Nat.blt t 21 with | true => (match Nat.blt t 17 with | true => (match Nat.blt t 15 with | true => { id := 14, ag := true, sz := 2, z := [.s [], .i .u64 0], fs := [(0, false, 1), (1, false, 1)], nk := 7 } | false => (match Nat.blt t 16 with | true => { id := 15, z := [.v (.pointer none)], el := 239, esz := 4, eb := 40, nk := 1 } | false => { id := 16, z := [.v (.pointer none)], el := 242, esz := 0, eb := 0, nk := 1 })) | false => (match Nat.blt t 19 with | true => (match Nat.blt t 18 with | true => { id := 17, z := [.v (.pointer none)], el := 249, esz := 11, eb := 48, nk := 1 } | false => { id := 18, ag := true, z := [.v (.pointer none)], fs := [(0, false, 1)], nk := 7 }) | false => (match Nat.blt t 20 with | true => { id := 19, ag := true, z := [.v (.pointer none)], fs := [(0, false, 1)], nk := 7 } | false => { id := 20, z := [.v .nilIface] }))) | false => (match Nat.blt t 24 with | true => (match Nat.blt t 22 with | true => { id := 21, z := [.i .i32 0], k := some .i32, nk := 10 } | false => (match Nat.blt t 23 with | true => { id := 22, z := [.l 0 [] true], el := 3, nk := 2 } | false => { id := 23, z := [.v .nilFunc], nk := 3 })) | false => (match Nat.blt t 27 with | true => (match Nat.blt t 25 with | true => { id := 24, z := [.v (.pointer none)], el := 81, esz := 2, eb := 48, nk := 1 } | false => { id := 25, z := [.i .i64 0], k := some .i64, nk := 10 }) | false => (match Nat.blt t 28 with | true => { id := 27, z := [.v .nilFunc], nk := 3 } | false => { id := 28, z := [.v (.pointer none)], el := 83, esz := 2, eb := 48, nk := 1 }))))) | false => (match Nat.blt t 48 with | true => (match Nat.blt t 39 with | true => (match Nat.blt t 35 with | true => (match Nat.blt t 32 with | true => { id := 30, z := [.v .nilFunc], nk := 3 } | false => (match Nat.blt t 34 with | true => { id := 32, z := [.v .nilFunc], nk := 3 } | false => { id := 34, z := [.v .nilFunc], nk := 3 })) | false => (match Nat.blt t 37 with | true => (match Nat.blt t 36 with | true => { id := 35, z := [.v .nilFunc], nk := 3 } | false => { id := 36, z := [.v .nilFunc], nk := 3 }) | false => (match Nat.blt t 38 with | true => { id := 37, z := [.v .nilFunc], nk := 3 } | false => { id := 38, z := [.v .nilFunc], nk := 3 }))) | false => (match Nat.blt t 42 with | true => (match Nat.blt t 40 with | true => { id := 39, z := [.v .nilFunc], nk := 3 } | false => (match Nat.blt t 41 with | true => { id := 40, z := [.l 0 [] true], el := 77, eb := 4, nk := 2 } | false => { id := 41, z := [.l 0 [] true], el := 77, eb := 4, nk := 2 })) | false => (match Nat.blt t 45 with | true => (match Nat.blt t 43 with | true => { id := 42, ag := true, sz := 2, z := [.l 0 [] true, .l 0 [] true], fs := [(0, false, 1), (1, false, 1)], nk := 7 } | false => { id := 43, ag := true, sz := 2, z := [.l 0 [] true, .l 0 [] true], fs := [(0, false, 1), (1, false, 1)], nk := 7 }) | false => (match Nat.blt t 46 with | true => { id := 45, z := [.v .nilFunc], nk := 3 } | false => { id := 46, z := [.v .nilFunc], nk := 3 })))) | false => (match Nat.blt t 55 with | true => (match Nat.blt t 51 with | true => (match Nat.blt t 49 with | true => { id := 48, z := [.v .nilFunc], nk := 3 } | false => (match Nat.blt t 50 with | true => { id := 49, z := [.v .nilFunc], nk := 3 } | false => { id := 50, z := [.v .nilFunc], nk := 3 })) | false => (match Nat.blt t 53 with | true => (match Nat.blt t 52 with | true => { id := 51, ag := true, sz := 4, z := [.l 0 [] true, .l 0 [] true, .l 0 [] true, .l 0 [] true], fs := [(0, false, 1), (1, false, 1), (2, false, 1), (3, false, 1)], nk := 7 } | false => { id := 52, ag := true, sz := 4, z := [.l 0 [] true, .l 0 [] true, .l 0 [] true, .l 0 [] true], fs := [(0, false, 1), (1, false, 1), (2, false, 1), (3, false, 1)], nk := 7 }) | false => (match Nat.blt t 54 with | true => { id := 53, z := [.v .nilFunc], nk := 3 } | false => { id := 54, z := [.v .nilFunc], nk := 3 }))) | false => (match Nat.blt t 59 with | true => (match Nat.blt t 56 with | true => { id := 55, z := [.l 0 [] true], el := 62, eb := 24, nk := 2 } | false => (match Nat.blt t 58 with | true => { id := 56, z := [.v (.pointer none)], el := 128, esz := 6, eb := 80, nk := 1 } | false => { id := 58, z := [.v .nilFunc], nk := 3 })) | false => (match Nat.blt t 62 with | true => (match Nat.blt t 61 with | true => { id := 59, z := [.v (.pointer none)], el := 115, esz := 5, eb := 56, nk := 1 } | false => { id := 61, z := [.v .nilFunc], nk := 3 }) | false => (match Nat.blt t 63 with | true => { id := 62, z := [.l 0 [] true], el := 73, esz := 3, eb := 32, nk := 2 } | false => { id := 63, z := [.v .nilFunc], nk := 3 })))))) | false => (match Nat.blt t 93 with | true => (match Nat.blt t 78 with | true => (match Nat.blt t 70 with | true => (match Nat.blt t 67 with | true => (match Nat.blt t 65 with | true => { id := 64, z := [.v .nilFunc], nk := 3 } | false => (match Nat.blt t 66 with | true => { id := 65, z := [.v .nilFunc], nk := 3 } | false => { id := 66, z := [.v .nilFunc], nk := 3 })) | false => (match Nat.blt t 68 with | true => { id := 67, z := [.v .nilFunc], nk := 3 } | false => (match Nat.blt t 69 with | true => { id := 68, z := [.v .nilFunc], nk := 3 } | false => { id := 69, z := [.v .nilFunc], nk := 3 }))) | false => (match Nat.blt t 73 with | true => (match Nat.blt t 71 with | true => { id := 70, ag := true, sz := 11, z := [.i .i64 0, .i .i64 0, .l 0 [] true, .l 0 [] true, .i .i64 0, .l 0 [] true, .i .i64 0, .i .i64 0, .i .i64 0, .l 0 [] true, .i .i64 0], fs := [(0, false, 1), (1, false, 1), (2, false, 1), (3, false, 1), (4, false, 1), (5, false, 1), (6, false, 1), (7, false, 1), (8, false, 1), (9, false, 1), (10, false, 1)], nk := 7 } | false => (match Nat.blt t 72 with | true => { id := 71, ag := true, sz := 11, z := [.i .i64 0, .i .i64 0, .l 0 [] true, .l 0 [] true, .i .i64 0, .l 0 [] true, .i .i64 0, .i .i64 0, .i .i64 0, .l 0 [] true, .i .i64 0], fs := [(0, false, 1), (1, false, 1), (2, false, 1), (3, false, 1), (4, false, 1), (5, false, 1), (6, false, 1), (7, false, 1), (8, false, 1), (9, false, 1), (10, false, 1)], nk := 7 } | false => { id := 72, ag := true, sz := 3, z := [.i .i64 0, .i .i64 0, .s []], fs := [(0, false, 1), (1, false, 1), (2, false, 1)], nk := 7, eqk := [10, 10, 9] })) | false => (match Nat.blt t 76 with | true => (match Nat.blt t 75 with | true => { id := 73, ag := true, sz := 3, z := [.i .i64 0, .i .i64 0, .s []], fs := [(0, false, 1), (1, false, 1), (2, false, 1)], nk := 7, eqk := [10, 10, 9] } | false => { id := 75, z := [.v .nilFunc], nk := 3 }) | false => (match Nat.blt t 77 with | true => { id := 76, z := [.v .nilFunc], nk := 3 } | false => { id := 77, z := [.i .u32 0], k := some .u32, nk := 10 })))) | false => (match Nat.blt t 85 with | true => (match Nat.blt t 81 with | true => (match Nat.blt t 79 with | true => { id := 78, z := [.v .nilFunc], nk := 3 } | false => (match Nat.blt t 80 with | true => { id := 79, z := [.v .nilFunc], nk := 3 } | false => { id := 80, ag := true, sz := 2, z := [.l 0 [] true, .l 0 [] true], fs := [(0, false, 1), (1, false, 1)], nk := 7 })) | false => (match Nat.blt t 83 with | true => (match Nat.blt t 82 with | true => { id := 81, ag := true, sz := 2, z := [.l 0 [] true, .l 0 [] true], fs := [(0, false, 1), (1, false, 1)], nk := 7 } | false => { id := 82, ag := true, sz := 2, z := [.l 0 [] true, .l 0 [] true], fs := [(0, false, 1), (1, false, 1)], nk := 7 }) | false => (match Nat.blt t 84 with | true => { id := 83, ag := true, sz := 2, z := [.l 0 [] true, .l 0 [] true], fs := [(0, false, 1), (1, false, 1)], nk := 7 } | false => { id := 84, z := [.v .nilFunc], nk := 3 }))) | false => (match Nat.blt t 89 with | true => (match Nat.blt t 86 with | true => { id := 85, z := [.v .nilFunc], nk := 3 } | false => (match Nat.blt t 87 with | true => { id := 86, z := [.v .nilFunc], nk := 3 } | false => { id := 87, z := [.v .nilFunc], nk := 3 })) | false => (match Nat.blt t 91 with | true => (match Nat.blt t 90 with | true => { id := 89, z := [.v .nilFunc], nk := 3 } | false => { id := 90, z := [.v .nilFunc], nk := 3 }) | false => (match Nat.blt t 92 with | true => { id := 91, z := [.v .nilFunc], nk := 3 } | false => { id := 92, z := [.v .nilFunc], nk := 3 }))))) | false => (match Nat.blt t 109 with | true => (match Nat.blt t 101 with | true => (match Nat.blt t 96 with | true => (match Nat.blt t 94 with | true => { id := 93, z := [.v .nilFunc], nk := 3 } | false => (match Nat.blt t 95 with | true => { id := 94, z := [.v .nilFunc], nk := 3 } | false => { id := 95, ag := true, sz := 4, z := [.l 0 [] true, .l 0 [] true, .l 0 [] true, .l 0 [] true], el := 43, esz := 2, eb := 48, fs := [(0, true, 2), (2, true, 2)], nk := 8 })) | false => (match Nat.blt t 98 with | true => (match Nat.blt t 97 with | true => { id := 96, z := [.l 0 [] true], el := 95, esz := 4, eb := 96, nk := 2 } | false => { id := 97, z := [.v .nilFunc], nk := 3 }) | false => (match Nat.blt t 99 with | true => { id := 98, z := [.v .nilFunc], nk := 3 } | false => { id := 99, z := [.v .nilFunc], nk := 3 }))) | false => (match Nat.blt t 104 with | true => (match Nat.blt t 102 with | true => { id := 101, z := [.v .nilFunc], nk := 3 } | false => (match Nat.blt t 103 with | true => { id := 102, z := [.v .nilFunc], nk := 3 } | false => { id := 103, z := [.l 0 [] true], el := 9, eb := 16, nk := 2 })) | false => (match Nat.blt t 106 with | true => (match Nat.blt t 105 with | true => { id := 104, z := [.v .nilFunc], nk := 3 } | false => { id := 105, z := [.v .nilFunc], nk := 3 }) | false => (match Nat.blt t 108 with | true => { id := 106, z := [.v .nilFunc], nk := 3 } | false => { id := 108, z := [.v .nilFunc], nk := 3 })))) | false => (match Nat.blt t 116 with | true => (match Nat.blt t 112 with | true => (match Nat.blt t 110 with | true => { id := 109, ag := true, sz := 8, z := [.i .i64 0, .i .i64 0, .i .i64 0, .i .i64 0, .i .i64 0, .s [], .i .i64 0, .i .u32 0], fs := [(0, false, 1), (1, false, 1), (2, false, 1), (3, true, 3), (6, false, 1), (7, false, 1)], nk := 7, eqk := [10, 10, 10, 10, 10, 9, 10, 10] } | false => (match Nat.blt t 111 with | true => { id := 110, ag := true, sz := 8, z := [.i .i64 0, .i .i64 0, .i .i64 0, .i .i64 0, .i .i64 0, .s [], .i .i64 0, .i .u32 0], fs := [(0, false, 1), (1, false, 1), (2, false, 1), (3, true, 3), (6, false, 1), (7, false, 1)], nk := 7, eqk := [10, 10, 10, 10, 10, 9, 10, 10] } | false => { id := 111, z := [.v .nilFunc], nk := 3 })) | false => (match Nat.blt t 114 with | true => (match Nat.blt t 113 with | true => { id := 112, z := [.v .nilFunc], nk := 3 } | false => { id := 113, z := [.v (.pointer none)], el := 159, esz := 4, eb := 32, nk := 1 }) | false => (match Nat.blt t 115 with | true => { id := 114, ag := true, sz := 5, z := [.v (.pointer none), .v (.pointer none), .i .i64 0, .i .i64 0, .l 0 [] true], fs := [(0, false, 1), (1, false, 1), (2, false, 1), (3, false, 1), (4, false, 1)], nk := 7 } | false => { id := 115, ag := true, sz := 5, z := [.v (.pointer none), .v (.pointer none), .i .i64 0, .i .i64 0, .l 0 [] true], fs := [(0, false, 1), (1, false, 1), (2, false, 1), (3, false, 1), (4, false, 1)], nk := 7 }))) | false => (match Nat.blt t 120 with | true => (match Nat.blt t 117 with | true => { id := 116, z := [.v .nilFunc], nk := 3 } | false => (match Nat.blt t 118 with | true => { id := 117, z := [.v .nilFunc], nk := 3 } | false => { id := 118, z := [.v .nilFunc], nk := 3 })) | false => (match Nat.blt t 123 with | true => (match Nat.blt t 122 with | true => { id := 120, z := [.v .nilFunc], nk := 3 } | false => { id := 122, z := [.v .nilFunc], nk := 3 }) | false => (match Nat.blt t 125 with | true => { id := 123, z := [.v .nilFunc], nk := 3 } | false => { id := 125, z := [.v .nilFunc], nk := 3 }))))))) | false => (match Nat.blt t 192 with | true => (match Nat.blt t 158 with | true => (match Nat.blt t 141 with | true => (match Nat.blt t 133 with | true => (match Nat.blt t 129 with | true => (match Nat.blt t 127 with | true => { id := 126, z := [.l 0 [] true], el := 155, esz := 2, eb := 24, nk := 2 } | false => (match Nat.blt t 128 with | true => { id := 127, ag := true, sz := 6, z := [.l 0 [] true, .l 0 [] true, .i .i64 0, .i .i64 0, .i .i64 0, .i .i64 0], fs := [(0, false, 1), (1, false, 1), (2, false, 1), (3, false, 1), (4, false, 1), (5, false, 1)], nk := 7 } | false => { id := 128, ag := true, sz := 6, z := [.l 0 [] true, .l 0 [] true, .i .i64 0, .i .i64 0, .i .i64 0, .i .i64 0], fs := [(0, false, 1), (1, false, 1), (2, false, 1), (3, false, 1), (4, false, 1), (5, false, 1)], nk := 7 })) | false => (match Nat.blt t 130 with | true => { id := 129, z := [.v (.map none)], nk := 4, mb := true } | false => (match Nat.blt t 131 with | true => { id := 130, z := [.v .nilFunc], nk := 3 } | false => { id := 131, z := [.v .nilFunc], nk := 3 }))) | false => (match Nat.blt t 137 with | true => (match Nat.blt t 134 with | true => { id := 133, z := [.v .nilFunc], nk := 3 } | false => (match Nat.blt t 135 with | true => { id := 134, z := [.v .nilFunc], nk := 3 } | false => { id := 135, z := [.v .nilFunc], nk := 3 })) | false => (match Nat.blt t 139 with | true => (match Nat.blt t 138 with | true => { id := 137, z := [.v .nilFunc], nk := 3 } | false => { id := 138, z := [.v .nilFunc], nk := 3 }) | false => (match Nat.blt t 140 with | true => { id := 139, z := [.v .nilFunc], nk := 3 } | false => { id := 140, z := [.v .nilFunc], nk := 3 })))) | false => (match Nat.blt t 151 with | true => (match Nat.blt t 146 with | true => (match Nat.blt t 143 with | true => { id := 141, z := [.i .u64 0], k := some .u64, nk := 10 } | false => (match Nat.blt t 144 with | true => { id := 143, z := [.v .nilFunc], nk := 3 } | false => { id := 144, z := [.v .nilFunc], nk := 3 })) | false => (match Nat.blt t 148 with | true => (match Nat.blt t 147 with | true => { id := 146, z := [.v .nilFunc], nk := 3 } | false => { id := 147, z := [.v .nilFunc], nk := 3 }) | false => (match Nat.blt t 150 with | true => { id := 148, z := [.v (.pointer none)], el := 193, eb := 24, nk := 1 } | false => { id := 150, z := [.v .nilFunc], nk := 3 }))) | false => (match Nat.blt t 154 with | true => (match Nat.blt t 152 with | true => { id := 151, z := [.v .nilFunc], nk := 3 } | false => (match Nat.blt t 153 with | true => { id := 152, z := [.v .nilFunc], nk := 3 } | false => { id := 153, z := [.v .nilFunc], nk := 3 })) | false => (match Nat.blt t 156 with | true => (match Nat.blt t 155 with | true => { id := 154, ag := true, sz := 2, z := [.i .i64 0, .s []], fs := [(0, false, 1), (1, false, 1)], nk := 7, eqk := [10, 9] } | false => { id := 155, ag := true, sz := 2, z := [.i .i64 0, .s []], fs := [(0, false, 1), (1, false, 1)], nk := 7, eqk := [10, 9] }) | false => (match Nat.blt t 157 with | true => { id := 156, z := [.v .nilFunc], nk := 3 } | false => { id := 157, z := [.v .nilFunc], nk := 3 }))))) | false => (match Nat.blt t 175 with | true => (match Nat.blt t 168 with | true => (match Nat.blt t 161 with | true => (match Nat.blt t 159 with | true => { id := 158, ag := true, sz := 4, z := [.v (.pointer none), .i .i64 0, .i .i64 0, .i .i64 0], fs := [(0, false, 1), (1, false, 1), (2, false, 1), (3, false, 1)], nk := 7 } | false => (match Nat.blt t 160 with | true => { id := 159, ag := true, sz := 4, z := [.v (.pointer none), .i .i64 0, .i .i64 0, .i .i64 0], fs := [(0, false, 1), (1, false, 1), (2, false, 1), (3, false, 1)], nk := 7 } | false => { id := 160, z := [.v .nilFunc], nk := 3 })) | false => (match Nat.blt t 165 with | true => (match Nat.blt t 163 with | true => { id := 161, z := [.v .nilFunc], nk := 3 } | false => { id := 163, z := [.v .nilFunc], nk := 3 }) | false => (match Nat.blt t 167 with | true => { id := 165, z := [.v .nilFunc], nk := 3 } | false => { id := 167, z := [.v .nilFunc], nk := 3 }))) | false => (match Nat.blt t 171 with | true => (match Nat.blt t 169 with | true => { id := 168, z := [.v .nilFunc], nk := 3 } | false => (match Nat.blt t 170 with | true => { id := 169, z := [.v .nilFunc], nk := 3 } | false => { id := 170, z := [.v .nilFunc], nk := 3 })) | false => (match Nat.blt t 173 with | true => (match Nat.blt t 172 with | true => { id := 171, z := [.v .nilFunc], nk := 3 } | false => { id := 172, z := [.v .nilFunc], nk := 3 }) | false => (match Nat.blt t 174 with | true => { id := 173, z := [.v .nilFunc], nk := 3 } | false => { id := 174, z := [.v .nilFunc], nk := 3 })))) | false => (match Nat.blt t 184 with | true => (match Nat.blt t 179 with | true => (match Nat.blt t 176 with | true => { id := 175, z := [.v .nilFunc], nk := 3 } | false => (match Nat.blt t 178 with | true => { id := 176, z := [.v .nilFunc], nk := 3 } | false => { id := 178, z := [.v .nilFunc], nk := 3 })) | false => (match Nat.blt t 182 with | true => (match Nat.blt t 181 with | true => { id := 179, z := [.i .u64 0], k := some .u64, nk := 10 } | false => { id := 181, z := [.v .nilFunc], nk := 3 }) | false => (match Nat.blt t 183 with | true => { id := 182, z := [.v .nilFunc], nk := 3 } | false => { id := 183, z := [.v (.pointer none)], el := 186, esz := 2, eb := 32, nk := 1 }))) | false => (match Nat.blt t 187 with | true => (match Nat.blt t 185 with | true => { id := 184, z := [.l 0 [] true], el := 5, eb := 1, nk := 2 } | false => (match Nat.blt t 186 with | true => { id := 185, ag := true, sz := 2, z := [.v (.pointer none), .l 0 [] true], fs := [(0, false, 1), (1, false, 1)], nk := 7 } | false => { id := 186, ag := true, sz := 2, z := [.v (.pointer none), .l 0 [] true], fs := [(0, false, 1), (1, false, 1)], nk := 7 })) | false => (match Nat.blt t 189 with | true => (match Nat.blt t 188 with | true => { id := 187, z := [.v .nilFunc], nk := 3 } | false => { id := 188, z := [.v .nilIface] }) | false => (match Nat.blt t 191 with | true => { id := 189, z := [.v .nilIface] } | false => { id := 191, z := [.v .nilFunc], nk := 3 })))))) | false => (match Nat.blt t 221 with | true => (match Nat.blt t 206 with | true => (match Nat.blt t 198 with | true => (match Nat.blt t 195 with | true => (match Nat.blt t 193 with | true => { id := 192, ag := true, z := [.l 0 [] true], fs := [(0, false, 1)], nk := 7 } | false => (match Nat.blt t 194 with | true => { id := 193, ag := true, z := [.l 0 [] true], fs := [(0, false, 1)], nk := 7 } | false => { id := 194, z := [.v .nilFunc], nk := 3 })) | false => (match Nat.blt t 196 with | true => { id := 195, z := [.v .nilFunc], nk := 3 } | false => (match Nat.blt t 197 with | true => { id := 196, z := [.v .nilFunc], nk := 3 } | false => { id := 197, z := [.v .nilFunc], nk := 3 }))) | false => (match Nat.blt t 201 with | true => (match Nat.blt t 199 with | true => { id := 198, z := [.v .nilFunc], nk := 3 } | false => (match Nat.blt t 200 with | true => { id := 199, z := [.v .nilFunc], nk := 3 } | false => { id := 200, z := [.v .nilFunc], nk := 3 })) | false => (match Nat.blt t 204 with | true => (match Nat.blt t 203 with | true => { id := 201, z := [.i .i64 0], k := some .i64, nk := 10 } | false => { id := 203, z := [.v .nilFunc], nk := 3 }) | false => (match Nat.blt t 205 with | true => { id := 204, z := [.v .nilFunc], nk := 3 } | false => { id := 205, z := [.v .nilFunc], nk := 3 })))) | false => (match Nat.blt t 214 with | true => (match Nat.blt t 210 with | true => (match Nat.blt t 208 with | true => { id := 206, z := [.v .nilFunc], nk := 3 } | false => (match Nat.blt t 209 with | true => { id := 208, z := [.v .nilFunc], nk := 3 } | false => { id := 209, z := [.v .nilFunc], nk := 3 })) | false => (match Nat.blt t 212 with | true => (match Nat.blt t 211 with | true => { id := 210, z := [.v .nilFunc], nk := 3 } | false => { id := 211, z := [.v .nilFunc], nk := 3 }) | false => (match Nat.blt t 213 with | true => { id := 212, z := [.v (.pointer none)], el := 5, eb := 1, nk := 1 } | false => { id := 213, z := [.v .nilFunc], nk := 3 }))) | false => (match Nat.blt t 217 with | true => (match Nat.blt t 215 with | true => { id := 214, z := [.v .nilFunc], nk := 3 } | false => (match Nat.blt t 216 with | true => { id := 215, ag := true, sz := 5, z := [.i .i64 0, .i .i64 0, .i .i64 0, .i .i64 0, .i .i64 0], el := 3, fs := [(0, false, 1), (1, false, 1), (2, false, 1), (3, false, 1), (4, false, 1)], nk := 8 } | false => { id := 216, z := [.i .u64 0], k := some .u64, nk := 10 })) | false => (match Nat.blt t 219 with | true => (match Nat.blt t 218 with | true => { id := 217, z := [.v .nilFunc], nk := 3 } | false => { id := 218, z := [.v .nilFunc], nk := 3 }) | false => (match Nat.blt t 220 with | true => { id := 219, z := [.v .nilFunc], nk := 3 } | false => { id := 220, z := [.v (.pointer none)], el := 3, nk := 1 }))))) | false => (match Nat.blt t 236 with | true => (match Nat.blt t 228 with | true => (match Nat.blt t 224 with | true => (match Nat.blt t 222 with | true => { id := 221, z := [.v .nilFunc], nk := 3 } | false => (match Nat.blt t 223 with | true => { id := 222, z := [.v .nilFunc], nk := 3 } | false => { id := 223, z := [.v .nilFunc], nk := 3 })) | false => (match Nat.blt t 226 with | true => (match Nat.blt t 225 with | true => { id := 224, z := [.v .nilFunc], nk := 3 } | false => { id := 225, z := [.v (.pointer none)] }) | false => (match Nat.blt t 227 with | true => { id := 226, z := [.v .nilFunc], nk := 3 } | false => { id := 227, z := [.v .nilFunc], nk := 3 }))) | false => (match Nat.blt t 231 with | true => (match Nat.blt t 229 with | true => { id := 228, ag := true, sz := 32, el := 77, eb := 4, arr := some (32, .u32), nk := 8 } | false => (match Nat.blt t 230 with | true => { id := 229, ag := true, sz := 32, el := 77, eb := 4, arr := some (32, .u32), nk := 8 } | false => { id := 230, z := [.v .nilFunc], nk := 3 })) | false => (match Nat.blt t 233 with | true => (match Nat.blt t 232 with | true => { id := 231, z := [.v .nilFunc], nk := 3 } | false => { id := 232, ag := true, sz := 256, el := 77, eb := 4, arr := some (256, .u32), nk := 8 }) | false => (match Nat.blt t 234 with | true => { id := 233, z := [.v .nilFunc], nk := 3 } | false => { id := 234, z := [.v (.pointer none)], el := 216, nk := 1 })))) | false => (match Nat.blt t 245 with | true => (match Nat.blt t 239 with | true => (match Nat.blt t 237 with | true => { id := 236, z := [.v .nilFunc], nk := 3 } | false => (match Nat.blt t 238 with | true => { id := 237, z := [.v (.pointer none)], el := 229, esz := 32, eb := 128, nk := 1 } | false => { id := 238, ag := true, sz := 4, z := [.v (.pointer none), .v (.pointer none), .v (.pointer none), .s []], fs := [(0, false, 1), (1, false, 1), (2, false, 1), (3, false, 1)], nk := 7 })) | false => (match Nat.blt t 243 with | true => (match Nat.blt t 240 with | true => { id := 239, ag := true, sz := 4, z := [.v (.pointer none), .v (.pointer none), .v (.pointer none), .s []], fs := [(0, false, 1), (1, false, 1), (2, false, 1), (3, false, 1)], nk := 7 } | false => { id := 240, ag := true, sz := 0, z := [], el := 16, fs := [], nk := 8 }) | false => (match Nat.blt t 244 with | true => { id := 243, z := [.i .u8 0], k := some .u8, nk := 10 } | false => { id := 244, z := [.i .u8 0], k := some .u8, nk := 10 }))) | false => (match Nat.blt t 248 with | true => (match Nat.blt t 246 with | true => { id := 245, z := [.v .nilFunc], nk := 3 } | false => (match Nat.blt t 247 with | true => { id := 246, z := [.i .i32 0], k := some .i32, nk := 10 } | false => { id := 247, z := [.i .i32 0], k := some .i32, nk := 10 })) | false => (match Nat.blt t 250 with | true => (match Nat.blt t 249 with | true => { id := 248, ag := true, sz := 11, z := [.i .u64 0, .i .u64 0, .i .u32 0, .i .u8 0, .i .u8 0, .i .u8 0, .i .u8 0, .v .nilFunc, .v (.pointer none), .i .i32 0, .i .i32 0], fs := [(0, false, 1), (1, false, 1), (2, false, 1), (3, false, 1), (4, false, 1), (5, false, 1), (6, false, 1), (7, false, 1), (8, false, 1), (9, false, 1), (10, false, 1)], nk := 7 } | false => { id := 249, ag := true, sz := 11, z := [.i .u64 0, .i .u64 0, .i .u32 0, .i .u8 0, .i .u8 0, .i .u8 0, .i .u8 0, .v .nilFunc, .v (.pointer none), .i .i32 0, .i .i32 0], fs := [(0, false, 1), (1, false, 1), (2, false, 1), (3, false, 1), (4, false, 1), (5, false, 1), (6, false, 1), (7, false, 1), (8, false, 1), (9, false, 1), (10, false, 1)], nk := 7 }) | false => (match Nat.blt t 251 with | true => { id := 250, z := [.v .nilFunc], nk := 3 } | false => { id := 251, z := [.v .nilFunc], nk := 3 }))))))))
end Go.Proofs.Ytilmhjojbolbeaa.AM

namespace Go.Proofs.Ytilmhjojbolbeaa.AM
open Go
set_option maxRecDepth 100000
theorem TT_all : (List.range 400).all (fun t => !(Nat.beq (TT t).id t) || chkB Try.prog t (TT t)) = true := by kernel_rfl
theorem TT_big (t : Nat) (h : 400 ≤ t) : (TT t).id ≠ t := by
  unfold TT
  split
  · show 0 ≠ t; omega
  · rename_i hb; simp at hb; omega
theorem TT_ok : TTok Try.prog TT := by
  intro t ht
  by_cases h : t < 400
  · have := List.all_eq_true.1 TT_all t (List.mem_range.2 h)
    simpa [ht] using this
  · exact absurd ht (TT_big t (by omega))
end Go.Proofs.Ytilmhjojbolbeaa.AM

namespace Go.Proofs.Ytilmhjojbolbeaa.AM
open Go Go.RowKit

/-- a function of plain values, described by its calls -/
theorem tri_plain {P : Program} {f : FuncId} {xs : List V} {vs0 : List Value} {x : V} {v : Value} (hF : okF P f = true) (hargs : ∀ g w ow vs, RVs g w ow xs vs → vs = vs0) (hr : ∀ g w ow, RV g w ow x v) (hc : refs x = [])
    (h : ∀ w, Calls P f vs0.toArray w fun e w' => e = .returned v ∧ Below w.heap.size w w') : TriS P f xs [] (fun r σ => r = x ∧ σ = []) := by
  refine ⟨hF, fun X g w vs hX hob hvs => ?_⟩
  rw [hargs g w _ vs hvs]
  refine (h w).mono ?_
  rintro e w' ⟨rfl, hb⟩
  refine ⟨x, [], g, v, ⟨rfl, rfl⟩, rfl, hr _ _ _, ⟨fun i o hi => by simp [look] at hi, fun i j hi => by simp [look] at hi⟩, ⟨hb.os, hb.tape, hb.output, hb.size, fun k hk _ => hb.block k hk⟩, fun b hm => ?_, fun i _ hi => by simp [look] at hi, ?_⟩
  · obtain ⟨i, h1, -⟩ := hm; simp [look] at h1
  · simp [closed, hc, refsS, dom, subl, diff]
end Go.Proofs.Ytilmhjojbolbeaa.AM

namespace Go.Proofs.Ytilmhjojbolbeaa.AM
open Go
theorem q2 {p : Prop} (h : p := by cbv <;> repeat' first | exact rfl | exact trivial | apply And.intro | omega) : p := h
theorem q3 {p : Prop} (h : p := by cbv <;> repeat' first | exact rfl | exact trivial | exact Or.inr trivial | exact Or.inl rfl | apply And.intro | omega | (split <;> first | exact trivial | (exfalso; simp_all; done)) | (subst_vars; simp [o0]; done)) : p := h
/-- an answer -/
theorem fin {R C T : V → Sto → Prop} {r : V} {σ : Sto} (s : T r σ := by cbv <;> repeat' first | exact rfl | exact trivial | apply And.intro) (h : R r σ) (c : C r σ := by rfl) : ∃ r σ, R r σ ∧ C r σ ∧ T r σ := ⟨r, σ, h, c, s⟩
/-- a round's end -/
theorem rnd {α : Type} {I M T : α → Prop} (y : α) (s : T y := by cbv <;> repeat' first | exact rfl | exact trivial | apply And.intro) (h : I y) (m : M y := by simp; omega) : ∃ y, I y ∧ M y ∧ T y := ⟨y, h, m, s⟩
/-- a call -/
theorem cal {A : List Nat → Prop} {X : List Nat → List V → Prop} {Y : List Nat → Sto → Prop} {T : List V → Sto → (V → Sto → Prop) → Prop} {K : List Nat → (V → Sto → Prop) → Prop} (ids : List Nat) {xs : List V} {σ : Sto} {R : V → Sto → Prop}
    (x : X ids xs := by cbv <;> rfl) (y : Y ids σ := by cbv <;> rfl) (t : T xs σ R) (k : K ids R) (a : A ids := by exact ⟨⟨rfl, rfl⟩, rfl⟩) : ∃ ids, A ids ∧ ∃ xs σ, X ids xs ∧ Y ids σ ∧ ∃ R, T xs σ R ∧ K ids R :=
  ⟨ids, a, xs, σ, x, y, R, t, k⟩
end Go.Proofs.Ytilmhjojbolbeaa.AM

