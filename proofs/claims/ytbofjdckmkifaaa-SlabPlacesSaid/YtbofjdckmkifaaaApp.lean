/-
  append in a walk, said of what is owned: plain lemmas for this seat's walks. Conditions: the new slice fits.
-/
import Derived.Test.YtbofjdckmkifaaaMem
namespace Go.Proofs.Ytbofjdckmkifaaa
open Go.RowKit
section
variable {P : Program} {ops : Array Oper} {rest : List Oper} {o : Oper} {a : Act} {Q : Exit → Act → World → Prop}

theorem own_slice {w : World} {base n : Nat} {e : TypeId} {v : Value} {xs : List Value} (h : w.ownsRow base e 1 v n xs) (h0 : 0 < n) : ∃ g c, v = .slice (some ⟨g, 0, none⟩) n c ∧ n ≤ c := by
  rcases h.2 with ⟨_, h1⟩ | ⟨g, cap, cur, rfl, hb, hg, hn, _⟩
  · omega
  · exact ⟨g, cap, rfl, hn⟩

/-- 'append(v, y)': y lies in the variadic's box -/
theorem app1v (hgd : o.guard = none) (s x : Operand) (t e : TypeId) (z : Value) (bytes : Nat)
    (ho : o.op = .call { callee := .builtin .append, args := #[s, x], argTypes := #[t, t] })
    (ht : P.underlying t = some (.slice e)) (hinfo : (P.info? e).map (fun i => (i.zero, i.size, i.bytes)) = some (some z, 1, bytes)) (hz : z.cells.size = 1) (hb0 : 0 < bytes)
    (W : World) (v : Value) (xs : List Value) (y : Value) (hs : a.eval s = v) (hx : a.eval x = .slice (some ⟨W.heap.size, 0, none⟩) 1 1) (h1 : y.oneCell' = true)
    (HO : W.ownsRow 0 e 1 v xs.length xs) (hl : (xs.length + 1) * bytes ≤ 140737488355328)
    (h : ∀ (g c : Nat) (w1 : World), w1.ownsRow 0 e 1 (.slice (some ⟨g, 0, none⟩) (xs.length + 1) c) (xs.length + 1) (xs ++ [y]) → xs.length + 1 ≤ c → Kp (fun b => v.ownBlock = some b) W w1 → (v.ownBlock = some g ∨ W.heap.size ≤ g) →
      wpList P ops Q rest (a.put o.dst (.slice (some ⟨g, 0, none⟩) (xs.length + 1) c)) w1) :
    wpList P ops Q (o :: rest) a (W.alloc (.cells #[y] e)) := by
  obtain ⟨i0, hi, hzz⟩ := Option.map_eq_some_iff.1 hinfo
  simp only [Prod.mk.injEq] at hzz
  obtain ⟨hz0, hz1, hz2⟩ := hzz
  have hlen : xs.length + 1 ≤ 140737488355328 := Nat.le_trans (Nat.le_mul_of_pos_right _ hb0) hl
  refine wpList_append_own_at (W.alloc (.cells #[y] e)) hgd s x t ho 0 e i0 z 1 bytes ht hi hz0 hz1 hz2 hz (by omega) v xs.length xs hs (HO.alloc _) ⟨W.heap.size, 0, none⟩ 1 1 [y] hx rfl
    (fun j u hu => by rw [Addr.add_lit, Nat.zero_add, blk_cell (heap_alloc_new W _)]; simpa using hu) (by simpa using h1) (by simp only [maxLen]; omega) hl (by simp) ?_
  intro v1 w1 hown hg _ hat
  obtain ⟨g, c, rfl, hc⟩ := own_slice hown (by omega)
  refine h g c w1 hown hc (((Kp.refl _ W).alloc _).grown hg (fun k hk _ => hk)) ?_
  rcases hat with hat | hat
  · exact .inl (hat.symm.trans rfl)
  · refine .inr ?_
    simp [Value.ownBlock] at hat
    omega

theorem app1 (hgd : o.guard = none) (s x : Operand) (t e : TypeId) (k : IntKind) (bytes : Nat)
    (ho : o.op = .call { callee := .builtin .append, args := #[s, x], argTypes := #[t, t] })
    (ht : P.underlying t = some (.slice e)) (hinfo : (P.info? e).map (fun i => (i.zero, i.size, i.bytes)) = some (some (.int k 0), 1, bytes)) (hb0 : 0 < bytes)
    (W : World) (v : Value) (xs : List Int) (y : Int) (hs : a.eval s = v) (hx : a.eval x = .slice (some ⟨W.heap.size, 0, none⟩) 1 1)
    (HO : W.ownsRow 0 e 1 v xs.length (iv k xs)) (hl : (xs.length + 1) * bytes ≤ 140737488355328)
    (h : ∀ (g c : Nat) (w1 : World), w1.ownsRow 0 e 1 (.slice (some ⟨g, 0, none⟩) (xs.length + 1) c) (xs ++ [y]).length (iv k (xs ++ [y])) → xs.length + 1 ≤ c → Kp (fun b => v.ownBlock = some b) W w1 → (v.ownBlock = some g ∨ W.heap.size ≤ g) →
      wpList P ops Q rest (a.put o.dst (.slice (some ⟨g, 0, none⟩) (xs.length + 1) c)) w1) :
    wpList P ops Q (o :: rest) a (W.alloc (.cells #[.int k y] e)) :=
  app1v hgd s x t e (.int k 0) bytes ho ht hinfo rfl hb0 W v (iv k xs) (.int k y) hs hx rfl (by simpa using HO) (by simpa using hl)
    fun g c w1 h1 h2 h3 h4 => by
      have := h g c w1 (by simpa [iv] using h1) (by simpa using h2) h3 h4
      simpa using this

/-- 'append(v, ys...)': ys are read at ad (none of them: any address) -/
theorem appN (hgd : o.guard = none) (s x : Operand) (t e : TypeId) (z : Value) (bytes : Nat)
    (ho : o.op = .call { callee := .builtin .append, args := #[s, x], argTypes := #[t, t] })
    (ht : P.underlying t = some (.slice e)) (hinfo : (P.info? e).map (fun i => (i.zero, i.size, i.bytes)) = some (some z, 1, bytes)) (hz : z.cells.size = 1) (hb0 : 0 < bytes)
    (W : World) (v : Value) (xs : List Value) (ys : List Value) (b f cc : Nat) (hs : a.eval s = v) (hx : a.eval x = .slice (some ⟨b, f, none⟩) ys.length cc) (h1 : ∀ u ∈ ys, u.oneCell' = true)
    (hr : ∀ j u, ys[j]? = some u → W.cell? ⟨b, f + j, none⟩ = some u)
    (HO : W.ownsRow 0 e 1 v xs.length xs) (hl : (xs.length + ys.length) * bytes ≤ 140737488355328)
    (h : ∀ (v1 : Value) (w1 : World), w1.ownsRow 0 e 1 v1 (xs.length + ys.length) (xs ++ ys) → Kp (fun b => v.ownBlock = some b) W w1 → (∀ b, v1.ownBlock = some b → v.ownBlock = some b ∨ W.heap.size ≤ b) →
      wpList P ops Q rest (a.put o.dst v1) w1) :
    wpList P ops Q (o :: rest) a W := by
  obtain ⟨i0, hi, hzz⟩ := Option.map_eq_some_iff.1 hinfo
  simp only [Prod.mk.injEq] at hzz
  obtain ⟨hz0, hz1, hz2⟩ := hzz
  have hlen : xs.length + ys.length ≤ 140737488355328 := Nat.le_trans (Nat.le_mul_of_pos_right _ hb0) hl
  refine wpList_append_own_at W hgd s x t ho 0 e i0 z 1 bytes ht hi hz0 hz1 hz2 hz (by omega) v xs.length xs hs HO ⟨b, f, none⟩ ys.length cc ys hx (by simp)
    (fun j u hu => by rw [Addr.add_lit]; exact hr j u hu) h1 (by simp only [maxLen]; omega) hl (by simp) ?_
  intro v1 w1 hown hg _ hat
  refine h v1 w1 hown ((Kp.refl _ W).grown hg (fun k hk _ => hk)) ?_
  intro b' hb'
  rcases hat with hat | hat
  · exact .inl (hat.symm.trans hb')
  · rw [hat] at hb'; injection hb' with hb'; exact .inr (by omega)

/-- 'append(v, ys...)', whatever the address where nothing is appended -/
theorem appAny (hgd : o.guard = none) (s x : Operand) (t e : TypeId) (k : IntKind) (bytes : Nat)
    (ho : o.op = .call { callee := .builtin .append, args := #[s, x], argTypes := #[t, t] })
    (ht : P.underlying t = some (.slice e)) (hinfo : (P.info? e).map (fun i => (i.zero, i.size, i.bytes)) = some (some (.int k 0), 1, bytes)) (hb0 : 0 < bytes)
    (W : World) (v : Value) (xs : List Int) (ys : List Int) (ao : Option Addr) (cc : Nat) (hs : a.eval s = v) (hx : a.eval x = .slice ao ys.length cc)
    (hnone : ao = none → cc = 0) (hr : IR k W ao ys) (HO : W.ownsRow 0 e 1 v xs.length (iv k xs)) (hl : (xs.length + ys.length) * bytes ≤ 140737488355328)
    (h : ∀ (a1 : Option Addr) (c : Nat) (w1 : World), w1.ownsRow 0 e 1 (.slice a1 (xs ++ ys).length c) (xs ++ ys).length (iv k (xs ++ ys)) → Kp (fun b => v.ownBlock = some b) W w1 → (∀ d, a1 = some d → v.ownBlock = some d.block ∨ W.heap.size ≤ d.block) →
      wpList P ops Q rest (a.put o.dst (.slice a1 (xs ++ ys).length c)) w1) :
    wpList P ops Q (o :: rest) a W := by
  cases ao with
  | none =>
    have h0 : ys = [] := by
      cases ys with
      | nil => rfl
      | cons y ys => obtain ⟨b, o', e', _⟩ := hr 0 (by simp); cases e'
    subst h0
    obtain ⟨i0, hi, hzz⟩ := Option.map_eq_some_iff.1 hinfo
    obtain ⟨a1, c, rfl, hc, hcm, -, hcb⟩ := own_IR HO
    obtain rfl := hnone rfl
    have hrun := run_append_owned_none (P := P) W 0 t o.type e i0 1 ht hi _ xs.length (iv k xs) HO
    have := h a1 c W (by simpa using HO) (Kp.refl _ _) (fun d hd => .inl (hcb d hd).2.2.1)
    rw [show (xs ++ ([] : List Int)).length = xs.length by simp] at this
    refine wpList_plain hgd fun K hK' => ?_
    unfold Oper.wp
    simp only [List.length_nil] at hx
    simp [execOp, ho, resolve, invoke, builtin, hs, hx, hrun, Result.andThen]
    exact hK' _ _ this
  | some ad =>
    obtain ⟨i0, hi, hzz⟩ := Option.map_eq_some_iff.1 hinfo
    simp only [Prod.mk.injEq] at hzz
    obtain ⟨hz0, hz1, hz2⟩ := hzz
    have hlen : xs.length + ys.length ≤ 140737488355328 := Nat.le_trans (Nat.le_mul_of_pos_right _ hb0) hl
    refine wpList_append_own_at W hgd s x t ho 0 e i0 (.int k 0) 1 bytes ht hi hz0 hz1 hz2 rfl (by omega) v xs.length (iv k xs) hs HO ad ys.length cc (iv k ys) hx (by simp)
      (fun j u hu => ?_) (fun u hu => by obtain ⟨_, _, rfl⟩ := List.mem_map.1 hu; rfl) (by simp only [maxLen]; omega) hl (by simp) ?_
    · have hj : j < ys.length := by have := (List.getElem?_eq_some_iff.1 hu).1; simpa using this
      rw [iv_get k ys hj] at hu
      obtain ⟨b', o', e', hc⟩ := hr j hj
      cases e'; rw [Addr.add_lit, hc]; exact hu
    · intro v1 w1 hown hg _ hat
      have hown' : w1.ownsRow 0 e 1 v1 (xs ++ ys).length (iv k (xs ++ ys)) := by simpa [iv] using hown
      obtain ⟨a1, c, rfl, hc, hcm, -, hcb⟩ := own_IR hown'
      refine h a1 c w1 hown' ((Kp.refl _ W).grown hg (fun k hk _ => hk)) (fun d hd => ?_)
      have hb := (hcb d hd).2.2.1
      rcases hat with hat | hat
      · exact .inl (hat.symm.trans hb)
      · rw [hat] at hb; injection hb with hb; exact .inr (by omega)
/-- the same for whole numbers, where something stands in the end -/
theorem appI (hgd : o.guard = none) (s x : Operand) (t e : TypeId) (k : IntKind) (bytes : Nat)
    (ho : o.op = .call { callee := .builtin .append, args := #[s, x], argTypes := #[t, t] })
    (ht : P.underlying t = some (.slice e)) (hinfo : (P.info? e).map (fun i => (i.zero, i.size, i.bytes)) = some (some (.int k 0), 1, bytes)) (hb0 : 0 < bytes)
    (W : World) (v : Value) (xs : List Int) (ys : List Int) (b f cc : Nat) (hs : a.eval s = v) (hx : a.eval x = .slice (some ⟨b, f, none⟩) ys.length cc)
    (hr : IR k W (some ⟨b, f, none⟩) ys) (HO : W.ownsRow 0 e 1 v xs.length (iv k xs)) (hl : (xs.length + ys.length) * bytes ≤ 140737488355328) (hpos : 0 < xs.length + ys.length)
    (h : ∀ (g c : Nat) (w1 : World), w1.ownsRow 0 e 1 (.slice (some ⟨g, 0, none⟩) (xs.length + ys.length) c) (xs ++ ys).length (iv k (xs ++ ys)) → xs.length + ys.length ≤ c → Kp (fun b => v.ownBlock = some b) W w1 → (v.ownBlock = some g ∨ W.heap.size ≤ g) →
      wpList P ops Q rest (a.put o.dst (.slice (some ⟨g, 0, none⟩) (xs.length + ys.length) c)) w1) :
    wpList P ops Q (o :: rest) a W := by
  refine appN hgd s x t e (.int k 0) bytes ho ht hinfo rfl hb0 W v (iv k xs) (iv k ys) b f cc hs (by simpa using hx) (fun u hu => by obtain ⟨_, _, rfl⟩ := List.mem_map.1 hu; rfl)
    (fun j u hu => ?_) (by simpa using HO) (by simpa using hl) ?_
  · have hj : j < ys.length := by have := (List.getElem?_eq_some_iff.1 hu).1; simpa using this
    rw [iv_get k ys hj] at hu
    obtain ⟨b', o', e', hc⟩ := hr j hj
    cases e'; rw [hc]; exact hu
  · intro v1 w1 h1 h2 h3
    simp only [iv_length] at h1
    obtain ⟨g, c, rfl, hc⟩ := own_slice h1 hpos
    have := h g c w1 (by simpa [iv] using h1) hc h2 (h3 g rfl)
    simpa using this
end
end Go.Proofs.Ytbofjdckmkifaaa
