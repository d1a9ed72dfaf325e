/-
  What functions of the program compute. No condition beside those that each theorem states.
-/
import Derived.Test.YtilmhjojbolbeaaRX3
import Derived.Test.YtilmhjojbolbeaaRX1
import Derived.Test.YtilmhjojbolbeaaPA4
set_option linter.all false

namespace Go.Proofs.Ytilmhjojbolbeaa.AM
open Go
set_option maxRecDepth 100000
set_option maxHeartbeats 4000000
theorem sorted_le {n : Int} {f c : Ix → Int} (hc : ∀ j : Nat, j < n.toNat → c [(j : Int)] = (sorted (rng n f)).getD j 0) : (∀ i j, 0 ≤ i → i < j → j < n → c [i] ≤ c [j]) ∧ ∀ x, x ∈ rng n c ↔ x ∈ rng n f := by
  have e : rng n c = sorted (rng n f) := by
    refine ext_rd (by rw [sorted_len, rng_len, rng_len]) fun j hj => ?_
    rw [rng_len] at hj
    rw [rd_rng (by omega), hc j hj, rd]
  constructor
  · intro i j h0 h1 h2
    have hp := List.pairwise_mergeSort (le := fun x y : Int => decide (x ≤ y)) (fun a b c h1 h2 => by simp at *; omega) (fun a b => by simp; omega) (rng n f)
    rw [List.pairwise_iff_getElem] at hp
    have hl : (sorted (rng n f)).length = n.toNat := by rw [sorted_len, rng_len]
    have := hp i.toNat j.toNat (by rw [← sorted, hl]; omega) (by rw [← sorted, hl]; omega) (by omega)
    rw [← rd_rngI (n := n) (f := c) h0 (by omega), ← rd_rngI (n := n) (f := c) (by omega) h2, e, rd_eq, rd_eq, List.getElem?_eq_getElem (by rw [hl]; omega), List.getElem?_eq_getElem (by rw [hl]; omega)]
    simp only [Option.getD_some]
    exact of_decide_eq_true this
  · intro x
    rw [e]; exact (List.mergeSort_perm _ _).mem_iff
theorem Uq.mem {cs cs' : List Int} {m : Int} {g : Ix → Int} (h : Uq cs m g) (he : ∀ x, x ∈ cs ↔ x ∈ cs') : Uq cs' m g :=
  ⟨h.up, fun j a b => (he _).1 (h.src j a b), fun x hx => h.all x ((he x).2 hx)⟩
/-- do all numbers stand in whole ranges -/
def AllOk (sz cs : List Int) : Prop := ∀ x, x ∈ cs → ofOk sz cs x = true
abbrev Uq.fn {cs : List Int} {m : Int} {g : Ix → Int} (_ : Uq cs m g) : Ix → Int := g
abbrev Uq.len {cs : List Int} {m : Int} {g : Ix → Int} (_ : Uq cs m g) : Int := m
section
variable {n m i v : Int} {sz cl : List Int} {cs x f c g : Ix → Int}
theorem uq_chain (e : (fun ix => x ((AM.hd ix + 0) :: ix.tail)) = f) (hx : ∀ j, 0 ≤ j → j < n → x [j] = cs [j]) (hc : ∀ j : Nat, j < n.toNat → c [(j : Int)] = (sorted (rng n f)).getD j 0) (hu : Uq (rng n c) m g) : Uq (rng n cs) m g := by
  refine hu.mem fun y => ((sorted_le hc).2 y).trans ?_
  rw [← e, rng_fr0, rng_congr hx]
theorem all_no (h : Uq (rng n cs) m g) (h0 : 0 ≤ i) (h1 : i < m) (hv : g [i] = v) (hb : ofOk sz (rng n cs) v = false) : false = true ↔ AllOk sz (rng n cs) :=
  ⟨fun h => (by cases h), fun ha => (by rw [ha v (hv ▸ h.src i h0 h1)] at hb; cases hb)⟩
theorem all_yes (h : Uq (rng n cs) m g) (hok : ∀ j, 0 ≤ j → j < i → ofOk sz (rng n cs) (g [j]) = true) (hi : m ≤ i) (hn : 1 ≤ n) {b : Bool} (hb : b = true ↔ 0 < m) : b = true ↔ AllOk sz (rng n cs) := by
  have hm : 0 < m := by
    obtain ⟨j, h0, h1, -⟩ := h.all (cs [0]) (mem_rng.2 ⟨0, by omega, by omega, rfl⟩)
    omega
  refine ⟨fun _ y hy => ?_, fun _ => hb.2 hm⟩
  obtain ⟨j, h0, h1, rfl⟩ := h.all y hy
  exact hok j h0 (by omega)
theorem ok_next {i' : Int} (hok : ∀ j, 0 ≤ j → j < i → ofOk sz cl (g [j]) = true) (hi : i + 1 = i') (hv : g [i] = v) (h : ofOk sz cl v = true) : ∀ j, 0 ≤ j → j < i' → ofOk sz cl (g [j]) = true := fun j h0 h1 => by
  by_cases e : j = i
  · subst e; rw [hv]; exact h
  · exact hok j h0 (by omega)
end
section
variable (d n : Int) (zs cs : Ix → Int)
theorem all_tri (hw : Wf (rng d zs) (rng n cs)) : TriS Try.prog 15 [.pt 0 0] (slabS 0 1 2 d n zs cs)
    (fun r σ => ∃ (m : Int) (g : Ix → Int) (b : Bool), (0 ≤ m ∧ m ≤ n) ∧ Uq (rng n cs) m g ∧ (b = true ↔ AllOk (rng d zs) (rng n cs)) ∧ r = .tu [.sl 100 0 m 1 false, .b b] ∧ σ = slabS 0 1 2 d n zs cs ++ [(100, .ar n [.i .i64 g] 3)]) := by
  obtain ⟨hn1, hn2⟩ := wf_n hw
  refine tri_of TT_ok mixed (OR := ORD15) (fn := Try.f15) (c := body Try.f15) (by kernel_rfl) (by kernel_rfl) (by kernel_rfl) (by kernel_rfl) (by simp [Try.f15]) fun H Tri hH hTri => ?_
  cbv
  refine cal [0, 1, 2] (t := hTri _ _ _ _ (scells_tri _ _ _ _ (by assumption))) (k := ?k_1)
  rintro r_2 σ_3 ⟨x_4, ⟨h_5, ⟨rfl, rfl⟩⟩⟩
  cbv
  refine cal [] (t := hTri _ _ _ _ (values_tri _ _ _)) (k := ?k_6)
  rintro r_7 σ_8 ⟨rfl, rfl⟩
  cbv
  generalize e_9 : (fun ix => x_4 ((hd ix + 0) :: ix.tail)) = c_10
  have f_11 := fun (j : Int) => congrFun e_9 [j]
  simp only [AM.hd, List.tail_cons, Int.add_zero] at f_11
  refine cal [220] (t := hTri _ _ _ _ (sorted_tri _ _ _ (by omega))) (k := ?k_12)
  rintro r_13 σ_14 ⟨x_15, ⟨h_16, ⟨rfl, rfl⟩⟩⟩
  cbv
  refine cal [240] (t := hTri _ _ _ _ (compact_tri _ _ (by omega) (by (exact (sorted_le ‹_›).1)))) (k := ?k_17)
  rintro r_18 σ_19 ⟨v_20, ⟨x_21, ⟨⟨h_22, h_23⟩, ⟨h_24, ⟨rfl, rfl⟩⟩⟩⟩⟩
  cbv
  refine' ⟨0, Int, fun (i : Int) => ⟨[(17, V.i IntKind.i64 v_20), (16, V.sl 240 0 v_20 1 false), (4, V.sl 240 0 v_20 1 false), (0, V.pt 0 0), (18, .i .i64 i), (3, V.b false), (2, V.l 0 [] true)], [(240, O.ar n [C.i IntKind.i64 x_21] 3), (220, O.st [V.l n [C.i IntKind.i64 c_10] false] 22), (0, O.st [V.sl 1 0 d 1 false, V.sl 2 0 n 1 false] 81), (1, O.ar d [C.i IntKind.i64 zs] 3), (2, O.ar n [C.i IntKind.i64 cs] 3)], 241⟩, fun (i : Int) => (0 ≤ i ∧ i ≤ Uq.len ‹Uq (rng n _) _ _›) ∧ (∀ j, 0 ≤ j → j < i → ofOk (rng d zs) (rng n cs) (Uq.fn ‹Uq (rng n _) _ _› [j]) = true) ∧ (Uq (rng n cs) (Uq.len ‹Uq (rng n _) _ _›) (Uq.fn ‹Uq (rng n _) _ _›)), fun (i : Int) => (Uq.len ‹Uq (rng n _) _ _› - i).toNat, ⟨0, ⟨(by exact ⟨by omega, by omega⟩), (by omega), (by (exact uq_chain ‹_› ‹_› ‹_› ‹_›))⟩, q3⟩, ?r_25⟩
  rintro i ⟨hi, hok, hu⟩
  cbv
  split
  · rename_i h_26
    simp only [hH, decide_eq_true_eq] at h_26
    cbv
    generalize e_27 : H Int _ = v_28
    simp only [hH, zeroS] at e_27
    generalize e_29 : H Int _ = v_30
    simp only [hH, zeroS] at e_29
    subst e_29
    refine ⟨by rw [hH]; simp; omega, ?_⟩
    cbv
    generalize e_31 : H Bool _ = b_32
    simp only [hH] at e_31
    replace e_31 := boolN e_31
    refine cal [0, 1, 2] (t := hTri _ _ _ _ (of_tri _ _ _ _ _ (by assumption))) (k := ?k_33)
    rintro r_34 σ_35 (⟨h_36, ⟨x_37, ⟨x_38, ⟨h_39, ⟨h_40, ⟨rfl, rfl⟩⟩⟩⟩⟩⟩ | ⟨h_41, ⟨rfl, rfl⟩⟩)
    · cbv
      generalize e_42 : H Int _ = v_43
      simp only [hH, zeroS] at e_42
      replace e_42 := (IntWalk.i64_in _ (by omega)).symm.trans e_42
      exact rnd _ (h := ⟨⟨(by omega), (by omega)⟩, ⟨(by grind), (by assumption)⟩⟩) (s := q3)
    · cbv
      exact fin (h := ⟨_, ⟨_, ⟨_, ⟨⟨(by assumption), (by assumption)⟩, ⟨(by assumption), ⟨(by (exact all_no hu hi.1 (by omega) ‹_› ‹_›)), ⟨rfl, rfl⟩⟩⟩⟩⟩⟩⟩)
  · rename_i h_44
    simp only [hH, decide_eq_false_iff_not, Int.not_lt, Int.not_le] at h_44
    cbv
    generalize e_45 : H Bool _ = b_46
    simp only [hH] at e_45
    replace e_45 := boolN e_45
    exact fin (h := ⟨_, ⟨_, ⟨_, ⟨⟨(by assumption), (by assumption)⟩, ⟨(by assumption), ⟨(by (exact all_yes hu hok (by omega) hn1 (by omega))), ⟨rfl, rfl⟩⟩⟩⟩⟩⟩⟩)
end
end Go.Proofs.Ytilmhjojbolbeaa.AM

namespace Go.Proofs.Ytilmhjojbolbeaa.AM
open Go
set_option maxRecDepth 100000
set_option maxHeartbeats 4000000
section
variable {n i i' j j' a v x : Int} {sz cl : List Int} {cs c g : Ix → Int}
theorem mem_next (h0 : 0 ≤ i) (hi : i + 1 = i') (hv : cs [i] = v) : x ∈ rng i' cs ↔ x ∈ rng i cs ∨ x = v := by
  subst hi hv
  rw [mem_rng, mem_rng]
  constructor
  · rintro ⟨q, a, b, rfl⟩
    by_cases e : q = i
    · subst e; exact .inr rfl
    · exact .inl ⟨q, a, by omega, rfl⟩
  · rintro (⟨q, a, b, rfl⟩ | rfl)
    · exact ⟨q, a, by omega, rfl⟩
    · exact ⟨i, h0, by omega, rfl⟩
theorem Uq.none : Uq (rng 0 cs) 0 c := ⟨fun i j _ _ _ => by omega, fun j _ _ => by omega, fun x hx => by simp [rng] at hx⟩
theorem Uq.old (h : Uq (rng i cs) j c) (h0 : 0 ≤ i) (hi : i + 1 = i') (hv : cs [i] = v) (ha : 0 ≤ a) (haj : a < j) (he : c [a] = v) : Uq (rng i' cs) j c := by
  refine ⟨h.up, fun q a b => (mem_next h0 hi hv).2 (.inl (h.src q a b)), fun x hx => ?_⟩
  rcases (mem_next h0 hi hv).1 hx with hx | rfl
  · exact h.all x hx
  · exact ⟨a, ha, haj, he⟩
theorem Uq.ins (h : Uq (rng i cs) j c) (h0 : 0 ≤ i) (hi : i + 1 = i') (hv : cs [i] = v) (ha : 0 ≤ a ∧ a ≤ j) (hlt : ∀ q, 0 ≤ q → q < a → c [q] < v) (hgt : a < j → v < c [a]) (hj : j + 1 = j') (hg : ∀ q, 0 ≤ q → q < j' → g [q] = if q < a then c [q] else if q = a then v else c [q - 1]) : Uq (rng i' cs) j' g := by
  subst hj
  have hge : ∀ q, a ≤ q → q < j → v < c [q] := fun q b e => by
    by_cases e2 : q = a
    · subst e2; exact hgt e
    · have := h.up a q ha.1 (by omega) e; have := hgt (by omega); omega
  refine ⟨fun p q b e f => ?_, fun q b e => ?_, fun x hx => ?_⟩
  · rw [hg p b (by omega), hg q (by omega) f]
    by_cases p1 : p < a
    · rw [if_pos p1]
      by_cases q1 : q < a
      · rw [if_pos q1]; exact h.up p q b e (by omega)
      · rw [if_neg q1]
        by_cases q2 : q = a
        · rw [if_pos q2]; exact hlt p b p1
        · rw [if_neg q2]; have := hlt p b p1; have := hge (q - 1) (by omega) (by omega); omega
    · rw [if_neg p1, if_neg (show ¬ q < a by omega), if_neg (show ¬ q = a by omega)]
      by_cases p2 : p = a
      · rw [if_pos p2]; exact hge (q - 1) (by omega) (by omega)
      · rw [if_neg p2]; exact h.up (p - 1) (q - 1) (by omega) (by omega) (by omega)
  · rw [hg q b e, mem_next h0 hi hv]
    by_cases q1 : q < a
    · rw [if_pos q1]; exact .inl (h.src q b (by omega))
    · rw [if_neg q1]
      by_cases q2 : q = a
      · rw [if_pos q2]; exact .inr rfl
      · rw [if_neg q2]; exact .inl (h.src (q - 1) (by omega) (by omega))
  · rcases (mem_next h0 hi hv).1 hx with hx | rfl
    · obtain ⟨q, b, e, rfl⟩ := h.all x hx
      by_cases q1 : q < a
      · exact ⟨q, b, by omega, by rw [hg q b (by omega), if_pos q1]⟩
      · exact ⟨q + 1, by omega, by omega, by rw [hg (q + 1) (by omega) (by omega), if_neg (by omega), if_neg (by omega), show q + 1 - 1 = q by omega]⟩
    · exact ⟨a, ha.1, by omega, by rw [hg a ha.1 (by omega), if_neg (by omega), if_pos rfl]⟩
theorem Uq.ins2 {p w : Int} (h : Uq (rng i cs) j c) (h0 : 0 ≤ i) (hi : i + 1 = i') (hv : cs [i] = v) (ha : 0 ≤ a ∧ a ≤ j) (hlt : ∀ q, 0 ≤ q → q < a → c [q] < cs [i]) (hgt : a < j → v < c [a]) (hp : a + 1 = p) (hw : j - a = w) (hj : p + w = j') :
    Uq (rng i' cs) j' (fun ix => bif decide (AM.hd ix < p) then bif decide (AM.hd ix < a) then c ((AM.hd ix + 0) :: ix.tail) else v else c ((AM.hd ((AM.hd ix + -1 * p) :: ix.tail) + a) :: ((AM.hd ix + -1 * p) :: ix.tail).tail)) := by
  refine h.ins h0 hi hv ha (fun q b e => by rw [← hv]; exact hlt q b e) hgt (by omega) fun q b e => ?_
  by_cases q1 : q < a
  · have q2 : q < p := by omega
    simp [AM.hd, q1, q2]
  · by_cases q2 : q = a
    · have q3 : q < p := by omega
      subst q2
      simp [AM.hd, q3]
    · have q3 : ¬ q < p := by omega
      simp only [AM.hd, q1, q2, q3, decide_false, cond_false, if_false, List.tail_cons]
      rw [show q + -1 * p + a = q - 1 by omega]
end
section
variable (d n : Int) (zs cs : Ix → Int)
/-- the first i numbers stand in whole ranges -/
def PreOk (sz cl : List Int) (i : Int) (cs : Ix → Int) : Prop := ∀ x, x ∈ rng i cs → ofOk sz cl x = true
theorem PreOk.none {sz cl : List Int} {cs : Ix → Int} : true = true ↔ PreOk sz cl 0 cs := ⟨fun _ x hx => (by simp [rng] at hx), fun _ => rfl⟩
theorem PreOk.old {sz cl : List Int} {i i' j a v : Int} {cs c : Ix → Int} (hu : Uq (rng i cs) j c) (h0 : 0 ≤ i) (hi : i + 1 = i') (hv : cs [i] = v) (ha : 0 ≤ a) (haj : a < j) (he : c [a] = v) : PreOk sz cl i' cs ↔ PreOk sz cl i cs := by
  constructor
  · intro h x hx; exact h x ((mem_next h0 hi hv).2 (.inl hx))
  · intro h x hx
    rcases (mem_next h0 hi hv).1 hx with hx | rfl
    · exact h x hx
    · exact h _ (he ▸ hu.src a ha haj)
theorem PreOk.new {sz cl : List Int} {i i' v : Int} {cs : Ix → Int} (h0 : 0 ≤ i) (hi : i + 1 = i') (hv : cs [i] = v) : PreOk sz cl i' cs ↔ (PreOk sz cl i cs ∧ ofOk sz cl v = true) := by
  constructor
  · intro h; exact ⟨fun x hx => h x ((mem_next h0 hi hv).2 (.inl hx)), h v ((mem_next h0 hi hv).2 (.inr rfl))⟩
  · rintro ⟨h, h'⟩ x hx
    rcases (mem_next h0 hi hv).1 hx with hx | rfl
    · exact h x hx
    · exact h'
theorem allR_tri (hw : Wf (rng d zs) (rng n cs)) : TriS Try.prog 17 [.pt 0 0] (slabR 0 1 2 d n zs cs)
    (fun r σ => ∃ (m : Int) (g : Ix → Int) (b : Bool), (0 ≤ m ∧ m ≤ n) ∧ Uq (rng n cs) m g ∧ (b = true ↔ AllOk (rng d zs) (rng n cs)) ∧ r = .tu [.sl 100 0 m 1 false, .b b] ∧ σ = slabR 0 1 2 d n zs cs ++ [(100, .ar m [.i .i64 g] 3)]) := by
  obtain ⟨hn1, hn2⟩ := wf_n hw
  refine tri_of TT_ok mixed (OR := ORD17) (fn := Try.f17) (c := body Try.f17) (by kernel_rfl) (by kernel_rfl) (by kernel_rfl) (by kernel_rfl) (by simp [Try.f17]) fun H Tri hH hTri => ?_
  cbv
  refine' ⟨0, Int × Int × Bool × (Ix → Int), fun ((i, j, b, c) : Int × Int × Bool × (Ix → Int)) => ⟨[(3, V.b false), (2, V.l 0 [] true), (0, V.pt 0 0), (6, .i .i64 i), (4, .sl 301 0 j 1 false), (5, .b b)], [(0, O.st [V.sl 1 0 d 1 false, V.sl 2 0 n 1 false] 83), (1, O.ar d [C.i IntKind.i64 zs] 3), (2, O.ar n [C.i IntKind.i64 cs] 3), (301, .ar j [.i .i64 c] 3)], 302⟩, fun ((i, j, b, c) : Int × Int × Bool × (Ix → Int)) => (0 ≤ i ∧ i ≤ n) ∧ (0 ≤ j ∧ j ≤ i) ∧ (Uq (rng i cs) j c) ∧ (b = true ↔ PreOk (rng d zs) (rng n cs) i cs), fun ((i, j, b, c) : Int × Int × Bool × (Ix → Int)) => (n - i).toNat, ⟨(0, 0, true, cs), ⟨(by omega), (by omega), (by (exact Uq.none)), (by (exact PreOk.none))⟩, q3⟩, ?r_1⟩
  rintro ⟨i, j, b, c⟩ ⟨hi, hj, hu, hb⟩
  cbv
  split
  · rename_i h_2
    simp only [hH, decide_eq_true_eq] at h_2
    cbv
    refine' ⟨0, Int, fun (a : Int) => ⟨[(3, V.b false), (2, V.l 0 [] true), (0, V.pt 0 0), (6, V.i IntKind.i64 i), (4, V.sl 301 0 j 1 false), (5, V.b b), (7, .i .i64 a)], [(0, O.st [V.sl 1 0 d 1 false, V.sl 2 0 n 1 false] 83), (1, O.ar d [C.i IntKind.i64 zs] 3), (2, O.ar n [C.i IntKind.i64 cs] 3), (301, O.ar j [C.i IntKind.i64 c] 3)], 302⟩, fun (a : Int) => (0 ≤ a ∧ a ≤ j) ∧ (∀ q, 0 ≤ q → q < a → c [q] < cs [i]), fun (a : Int) => (j - a).toNat, ⟨0, ⟨(by omega), (by omega)⟩, q3⟩, ?r_3⟩
    rintro a ⟨ha, hlt⟩
    cbv
    split
    · rename_i h_4
      simp only [hH, decide_eq_true_eq] at h_4
      cbv
      generalize e_5 : H Int _ = v_6
      simp only [hH, zeroS] at e_5
      generalize e_7 : H Int _ = v_8
      simp only [hH, zeroS] at e_7
      generalize e_9 : H Int _ = v_10
      simp only [hH, zeroS] at e_9
      subst e_9
      generalize e_11 : H Int _ = v_12
      simp only [hH, zeroS] at e_11
      subst e_11
      refine ⟨by rw [hH]; simp; omega, ?_⟩
      cbv
      refine ⟨by rw [hH]; simp; omega, ?_⟩
      cbv
      split
      · rename_i h_13
        simp only [hH, decide_eq_true_eq] at h_13
        cbv
        generalize e_14 : H Int _ = v_15
        simp only [hH, zeroS] at e_14
        replace e_14 := (IntWalk.i64_in _ (by omega)).symm.trans e_14
        exact rnd _ (h := ⟨⟨(by omega), (by omega)⟩, (by grind)⟩)
      · rename_i h_16
        simp only [hH, decide_eq_false_iff_not, Int.not_lt, Int.not_le] at h_16
        cbv
        split
        case h_2 => rename_i hh; exact absurd hh (by rw [hH]; simp; omega)
        cbv
        generalize e_17 : H Int _ = v_18
        simp only [hH, zeroS] at e_17
        obtain rfl := Eq.trans (Eq.symm e_5) e_17
        generalize e_19 : H Int _ = v_20
        simp only [hH, zeroS] at e_19
        obtain rfl := Eq.trans (Eq.symm e_7) e_19
        generalize e_21 : H Int _ = v_22
        simp only [hH, zeroS] at e_21
        subst e_21
        generalize e_23 : H Int _ = v_24
        simp only [hH, zeroS] at e_23
        subst e_23
        refine ⟨by rw [hH]; simp; omega, ?_⟩
        cbv
        refine ⟨by rw [hH]; simp; omega, ?_⟩
        cbv
        split
        · rename_i h_25
          simp only [hH, decide_eq_true_eq] at h_25
          cbv
          generalize e_26 : H Int _ = v_27
          simp only [hH, zeroS] at e_26
          replace e_26 := (IntWalk.i64_in _ (by omega)).symm.trans e_26
          exact rnd (_, (_, (_, _))) (h := ⟨⟨(by omega), (by omega)⟩, ⟨⟨(by omega), (by omega)⟩, ⟨(by (exact hu.old hi.1 ‹_› ‹_› ha.1 (by omega) (by omega))), (by (exact hb.trans (PreOk.old hu hi.1 ‹_› ‹_› ha.1 (by omega) (by omega)).symm))⟩⟩⟩)
        · rename_i h_28
          simp only [hH, decide_eq_false_iff_not, Int.not_lt, Int.not_le] at h_28
          cbv
          generalize e_29 : H Int _ = v_30
          simp only [hH, zeroS] at e_29
          subst e_29
          generalize e_31 : H Int _ = v_32
          simp only [hH, zeroS] at e_31
          subst e_31
          generalize e_33 : H Int _ = v_34
          simp only [hH, zeroS] at e_33
          generalize e_35 : H Int _ = v_36
          simp only [hH, zeroS] at e_35
          generalize e_37 : H Int _ = v_38
          simp only [hH, zeroS] at e_37
          obtain rfl := Eq.trans (Eq.symm e_7) e_37
          generalize e_39 : H Int _ = v_40
          simp only [hH, zeroS] at e_39
          subst e_39
          generalize e_41 : H Int _ = v_42
          simp only [hH, zeroS] at e_41
          generalize e_43 : H Int _ = v_44
          simp only [hH, zeroS] at e_43
          subst e_43
          generalize e_45 : H Int _ = v_46
          simp only [hH, zeroS] at e_45
          subst e_45
          refine ⟨by rw [hH]; simp [o0]; omega, ?_⟩
          cbv
          refine ⟨by rw [hH]; simp, ?_⟩
          cbv
          refine ⟨by rw [hH]; simp; omega, ?_⟩
          cbv
          refine ⟨by rw [hH]; simp; omega, ?_⟩
          cbv
          refine ⟨by rw [hH]; simp, ?_⟩
          cbv
          refine ⟨by rw [hH]; simp; omega, ?_⟩
          cbv
          refine ⟨?q_47, ?_⟩
          case q_47 => ((rw [hH]; refine decide_eq_true ⟨?_, ?_⟩ <;> simp only [o0] <;> omega))
          cbv
          refine ⟨by rw [hH]; simp, ?_⟩
          cbv
          refine ⟨by rw [hH]; simp; omega, ?_⟩
          cbv
          refine ⟨by rw [hH]; simp; omega, ?_⟩
          cbv
          generalize e_48 : H Bool _ = b_49
          simp only [hH] at e_48
          replace e_48 := boolN e_48
          generalize e_50 : H Bool _ = b_51
          simp only [hH] at e_50
          replace e_50 := boolN e_50
          generalize e_52 : H Bool _ = b_53
          simp only [hH] at e_52
          replace e_52 := boolN e_52
          refine cal [0, 1, 2] (t := hTri _ _ _ _ (ofR_tri _ _ _ _ _ (by assumption))) (k := ?k_54)
          rintro r_55 σ_56 (⟨h_57, ⟨x_58, ⟨x_59, ⟨h_60, ⟨h_61, ⟨rfl, rfl⟩⟩⟩⟩⟩⟩ | ⟨h_62, ⟨rfl, rfl⟩⟩)
          · cbv
            rcases b with _ | _
            · simp only [boolS] at hb
              cbv
              generalize e_63 : H Int _ = v_64
              simp only [hH, zeroS] at e_63
              replace e_63 := (IntWalk.i64_in _ (by omega)).symm.trans e_63
              exact rnd (_, (_, (_, _))) (h := ⟨⟨(by omega), (by omega)⟩, ⟨⟨(by omega), (by omega)⟩, ⟨(by (exact hu.ins2 hi.1 ‹_› ‹_› ha hlt (fun _ => by omega) ‹_› ‹_› ‹_›)), (by (exact ⟨fun h => (by cases h), fun h => absurd ((PreOk.new hi.1 ‹_› ‹_›).1 h).1 ‹_›⟩))⟩⟩⟩)
            · simp only [boolS] at hb
              cbv
              generalize e_65 : H Int _ = v_66
              simp only [hH, zeroS] at e_65
              replace e_65 := (IntWalk.i64_in _ (by omega)).symm.trans e_65
              exact rnd (_, (_, (_, _))) (h := ⟨⟨(by omega), (by omega)⟩, ⟨⟨(by omega), (by omega)⟩, ⟨(by (exact hu.ins2 hi.1 ‹_› ‹_› ha hlt (fun _ => by omega) ‹_› ‹_› ‹_›)), (by (exact ⟨fun _ => (PreOk.new hi.1 ‹_› ‹_›).2 ⟨by assumption, by assumption⟩, fun _ => rfl⟩))⟩⟩⟩)
          · cbv
            rcases b with _ | _
            · simp only [boolS] at hb
              cbv
              generalize e_67 : H Int _ = v_68
              simp only [hH, zeroS] at e_67
              replace e_67 := (IntWalk.i64_in _ (by omega)).symm.trans e_67
              exact rnd (_, (_, (_, _))) (h := ⟨⟨(by omega), (by omega)⟩, ⟨⟨(by omega), (by omega)⟩, ⟨(by (exact hu.ins2 hi.1 ‹_› ‹_› ha hlt (fun _ => by omega) ‹_› ‹_› ‹_›)), (by (exact ⟨fun h => (by cases h), fun h => absurd ((PreOk.new hi.1 ‹_› ‹_›).1 h).1 ‹_›⟩))⟩⟩⟩)
            · simp only [boolS] at hb
              cbv
              generalize e_69 : H Int _ = v_70
              simp only [hH, zeroS] at e_69
              replace e_69 := (IntWalk.i64_in _ (by omega)).symm.trans e_69
              exact rnd (_, (_, (_, _))) (h := ⟨⟨(by omega), (by omega)⟩, ⟨⟨(by omega), (by omega)⟩, ⟨(by (exact hu.ins2 hi.1 ‹_› ‹_› ha hlt (fun _ => by omega) ‹_› ‹_› ‹_›)), (by (exact ⟨fun h => (by cases h), fun h => absurd ((PreOk.new hi.1 ‹_› ‹_›).1 h).2 (by rw [‹ofOk _ _ _ = false›]; simp)⟩))⟩⟩⟩)
    · rename_i h_71
      simp only [hH, decide_eq_false_iff_not, Int.not_lt, Int.not_le] at h_71
      cbv
      split
      case h_1 => rename_i hh; exact absurd hh (by rw [hH]; simp; omega)
      cbv
      generalize e_72 : H Int _ = v_73
      simp only [hH, zeroS] at e_72
      subst e_72
      generalize e_74 : H Int _ = v_75
      simp only [hH, zeroS] at e_74
      subst e_74
      generalize e_76 : H Int _ = v_77
      simp only [hH, zeroS] at e_76
      generalize e_78 : H Int _ = v_79
      simp only [hH, zeroS] at e_78
      generalize e_80 : H Int _ = v_81
      simp only [hH, zeroS] at e_80
      generalize e_82 : H Int _ = v_83
      simp only [hH, zeroS] at e_82
      subst e_82
      generalize e_84 : H Int _ = v_85
      simp only [hH, zeroS] at e_84
      generalize e_86 : H Int _ = v_87
      simp only [hH, zeroS] at e_86
      subst e_86
      generalize e_88 : H Int _ = v_89
      simp only [hH, zeroS] at e_88
      subst e_88
      refine ⟨by rw [hH]; simp [o0]; omega, ?_⟩
      cbv
      refine ⟨by rw [hH]; simp, ?_⟩
      cbv
      refine ⟨by rw [hH]; simp; omega, ?_⟩
      cbv
      refine ⟨by rw [hH]; simp; omega, ?_⟩
      cbv
      refine ⟨by rw [hH]; simp, ?_⟩
      cbv
      refine ⟨by rw [hH]; simp; omega, ?_⟩
      cbv
      refine ⟨?q_90, ?_⟩
      case q_90 => ((rw [hH]; refine decide_eq_true ⟨?_, ?_⟩ <;> simp only [o0] <;> omega))
      cbv
      refine ⟨by rw [hH]; simp, ?_⟩
      cbv
      refine ⟨by rw [hH]; simp; omega, ?_⟩
      cbv
      refine ⟨by rw [hH]; simp; omega, ?_⟩
      cbv
      generalize e_91 : H Bool _ = b_92
      simp only [hH] at e_91
      replace e_91 := boolN e_91
      refine cal [0, 1, 2] (t := hTri _ _ _ _ (ofR_tri _ _ _ _ _ (by assumption))) (k := ?k_93)
      rintro r_94 σ_95 (⟨h_96, ⟨x_97, ⟨x_98, ⟨h_99, ⟨h_100, ⟨rfl, rfl⟩⟩⟩⟩⟩⟩ | ⟨h_101, ⟨rfl, rfl⟩⟩)
      · cbv
        rcases b with _ | _
        · simp only [boolS] at hb
          cbv
          generalize e_102 : H Int _ = v_103
          simp only [hH, zeroS] at e_102
          replace e_102 := (IntWalk.i64_in _ (by omega)).symm.trans e_102
          exact rnd (_, (_, (_, _))) (h := ⟨⟨(by omega), (by omega)⟩, ⟨⟨(by omega), (by omega)⟩, ⟨(by (exact hu.ins2 hi.1 ‹_› ‹_› ha hlt (fun _ => by omega) ‹_› ‹_› ‹_›)), (by (exact ⟨fun h => (by cases h), fun h => absurd ((PreOk.new hi.1 ‹_› ‹_›).1 h).1 ‹_›⟩))⟩⟩⟩)
        · simp only [boolS] at hb
          cbv
          generalize e_104 : H Int _ = v_105
          simp only [hH, zeroS] at e_104
          replace e_104 := (IntWalk.i64_in _ (by omega)).symm.trans e_104
          exact rnd (_, (_, (_, _))) (h := ⟨⟨(by omega), (by omega)⟩, ⟨⟨(by omega), (by omega)⟩, ⟨(by (exact hu.ins2 hi.1 ‹_› ‹_› ha hlt (fun _ => by omega) ‹_› ‹_› ‹_›)), (by (exact ⟨fun _ => (PreOk.new hi.1 ‹_› ‹_›).2 ⟨by assumption, by assumption⟩, fun _ => rfl⟩))⟩⟩⟩)
      · cbv
        rcases b with _ | _
        · simp only [boolS] at hb
          cbv
          generalize e_106 : H Int _ = v_107
          simp only [hH, zeroS] at e_106
          replace e_106 := (IntWalk.i64_in _ (by omega)).symm.trans e_106
          exact rnd (_, (_, (_, _))) (h := ⟨⟨(by omega), (by omega)⟩, ⟨⟨(by omega), (by omega)⟩, ⟨(by (exact hu.ins2 hi.1 ‹_› ‹_› ha hlt (fun _ => by omega) ‹_› ‹_› ‹_›)), (by (exact ⟨fun h => (by cases h), fun h => absurd ((PreOk.new hi.1 ‹_› ‹_›).1 h).1 ‹_›⟩))⟩⟩⟩)
        · simp only [boolS] at hb
          cbv
          generalize e_108 : H Int _ = v_109
          simp only [hH, zeroS] at e_108
          replace e_108 := (IntWalk.i64_in _ (by omega)).symm.trans e_108
          exact rnd (_, (_, (_, _))) (h := ⟨⟨(by omega), (by omega)⟩, ⟨⟨(by omega), (by omega)⟩, ⟨(by (exact hu.ins2 hi.1 ‹_› ‹_› ha hlt (fun _ => by omega) ‹_› ‹_› ‹_›)), (by (exact ⟨fun h => (by cases h), fun h => absurd ((PreOk.new hi.1 ‹_› ‹_›).1 h).2 (by rw [‹ofOk _ _ _ = false›]; simp)⟩))⟩⟩⟩)
  · rename_i h_110
    simp only [hH, decide_eq_false_iff_not, Int.not_lt, Int.not_le] at h_110
    cbv
    exact fin (h := ⟨_, ⟨_, ⟨_, ⟨⟨(by omega), (by omega)⟩, ⟨(by grind), ⟨(by ((obtain rfl : i = n := (by omega); exact hb))), ⟨rfl, rfl⟩⟩⟩⟩⟩⟩⟩)
end
end Go.Proofs.Ytilmhjojbolbeaa.AM

namespace Go.Proofs.Ytilmhjojbolbeaa.AM
open Go
set_option maxRecDepth 100000
set_option maxHeartbeats 4000000
theorem ints_tri (n n' : Int) (a b : Ix → Int) (fa fb : Bool) (hn : 0 ≤ n ∧ n ≤ 1000000000) : TriS Try.prog 18 [.l n [.i .i64 a] fa, .l n' [.i .i64 b] fb] [] (fun r σ => ∃ t : Bool, (t = true ↔ n = n' ∧ ∀ j, 0 ≤ j → j < n → a [j] = b [j]) ∧ r = .b t ∧ σ = []) := by
  refine tri_of TT_ok mixed (OR := ORD18) (fn := Try.f18) (c := body Try.f18) (by kernel_rfl) (by kernel_rfl) (by kernel_rfl) (by kernel_rfl) (by simp [Try.f18]) fun H Tri hH hTri => ?_
  cbv
  split
  · rename_i h_1
    simp only [hH, decide_eq_true_eq] at h_1
    cbv
    exact fin (h := ⟨_, ⟨(by simp; omega), ⟨rfl, rfl⟩⟩⟩)
  · rename_i h_2
    simp only [hH, decide_eq_false_iff_not, Int.not_lt, Int.not_le] at h_2
    cbv
    refine' ⟨0, Int, fun (i : Int) => ⟨[(0, V.l n [C.i IntKind.i64 a] fa), (1, V.l n' [C.i IntKind.i64 b] fb), (5, .i .i64 i), (4, V.b false)], [], 100⟩, fun (i : Int) => (0 ≤ i ∧ i ≤ n) ∧ (∀ j, 0 ≤ j → j < i → a [j] = b [j]), fun (i : Int) => (n - i).toNat, ⟨0, ⟨(by omega), (by omega)⟩, q3⟩, ?r_3⟩
    rintro i ⟨hi, hc⟩
    cbv
    split
    · rename_i h_4
      simp only [hH, decide_eq_true_eq] at h_4
      cbv
      generalize e_5 : H Int _ = v_6
      simp only [hH, zeroS] at e_5
      generalize e_7 : H Int _ = v_8
      simp only [hH, zeroS] at e_7
      generalize e_9 : (fun ix => b (i :: ix)) = c_10
      generalize e_11 : (fun ix => a (i :: ix)) = c_12
      refine ⟨by rw [hH]; simp; omega, ?_⟩
      cbv
      refine ⟨by rw [hH]; simp; omega, ?_⟩
      cbv
      split
      · rename_i h_13
        simp only [hH, decide_eq_true_eq] at h_13
        cbv
        exact fin (h := ⟨_, ⟨(by grind), ⟨rfl, rfl⟩⟩⟩)
      · rename_i h_14
        simp only [hH, decide_eq_false_iff_not, Int.not_lt, Int.not_le] at h_14
        cbv
        generalize e_15 : H Int _ = v_16
        simp only [hH, zeroS] at e_15
        replace e_15 := (IntWalk.i64_in _ (by omega)).symm.trans e_15
        exact rnd _ (h := ⟨⟨(by omega), (by omega)⟩, (by grind)⟩) (s := q3)
    · rename_i h_17
      simp only [hH, decide_eq_false_iff_not, Int.not_lt, Int.not_le] at h_17
      cbv
      exact fin (h := ⟨_, ⟨(by grind), ⟨rfl, rfl⟩⟩⟩)
theorem rng_iff {n : Int} {a b : Ix → Int} : rng n a = rng n b ↔ ∀ j, 0 ≤ j → j < n → a [j] = b [j] := by
  constructor
  · intro h j h0 h1
    have h2 := rd_rngI (n := n) (f := a) h0 h1
    rw [h, rd_rngI h0 h1] at h2
    exact h2.symm
  · intro h; exact rng_congr h
/-- two rows that are the same -/
theorem ints_yes (n : Int) (a b : Ix → Int) (fa fb : Bool) (hn : 0 ≤ n ∧ n ≤ 1000000000) (h : rng n a = rng n b) : TriS Try.prog 18 [.l n [.i .i64 a] fa, .l n [.i .i64 b] fb] [] (fun r σ => r = .b true ∧ σ = []) :=
  (ints_tri n n a b fa fb hn).mono' fun r σ ⟨t, h1, h2, h3⟩ => ⟨by rw [h2, h1.2 ⟨rfl, rng_iff.1 h⟩], h3⟩
section
variable (d n x : Int) (zs cs : Ix → Int)
theorem of_yes (hw : Wf (rng d zs) (rng n cs)) (h : ofOk (rng d zs) (rng n cs) x = true) : TriS Try.prog 14 [.pt 0 0, .i .i64 x] (slabS 0 1 2 d n zs cs)
    (fun r σ => ∃ lc hc : Ix → Int, rng d lc = mnC (rng d zs) (rng n cs) x ∧ rng d hc = mxC (rng d zs) (rng n cs) x ∧ r = .tu [.sl 100 0 d 1 false, .sl 101 0 d 1 false, .b true] ∧ σ = slabS 0 1 2 d n zs cs ++ [(100, .ar d [.i .i64 lc] 3), (101, .ar d [.i .i64 hc] 3)]) :=
  (of_tri d n x zs cs hw).mono' fun r σ h' => by
    rcases h' with h' | h'
    · exact h'.2
    · rw [h] at h'; cases h'.1
theorem of_no (hw : Wf (rng d zs) (rng n cs)) (h : ofOk (rng d zs) (rng n cs) x = false) : TriS Try.prog 14 [.pt 0 0, .i .i64 x] (slabS 0 1 2 d n zs cs) (fun r σ => r = .tu [.l 0 [] true, .l 0 [] true, .b false] ∧ σ = slabS 0 1 2 d n zs cs) :=
  (of_tri d n x zs cs hw).mono' fun r σ h' => by
    rcases h' with h' | h'
    · rw [h] at h'; cases h'.1
    · exact h'.2
end
end Go.Proofs.Ytilmhjojbolbeaa.AM

namespace Go.Proofs.Ytilmhjojbolbeaa.AM
open Go
set_option maxRecDepth 100000
set_option maxHeartbeats 4000000
section
variable {zs cs a1 a2 b1 b2 : Ix → Int} {f1 f2 f3 f4 : Bool}
abbrev S14 : List Int := [2, 3]
abbrev C14 : List Int := [1, 1, 2, 1, 1, 3]
abbrev S14' : List Int := [2, 2]
abbrev C14' : List Int := [1, 2, 2, 1]
theorem of14a (hz : rng 2 zs = S14) (hc : rng 6 cs = C14) : TriS Try.prog 12 [.l 2 [.i .i64 zs] f1, .l 6 [.i .i64 cs] f2] [] (fun r σ => ∃ zs' cs', rng 2 zs' = S14 ∧ rng 6 cs' = C14 ∧ r = .tu [.pt 100 0, .i .i64 0] ∧ σ = slabS 100 101 102 2 6 zs' cs') :=
  (of_ok 2 6 zs cs f1 f2 (by omega) (by omega) (by rw [hz, hc]; decide)).mono' fun r σ ⟨z, c, h1, h2, h⟩ => ⟨z, c, h1.trans hz, h2.trans hc, h⟩
theorem of14b (hz : rng 2 zs = S14') (hc : rng 4 cs = C14') : TriS Try.prog 12 [.l 2 [.i .i64 zs] f1, .l 4 [.i .i64 cs] f2] [] (fun r σ => ∃ zs' cs', rng 2 zs' = S14' ∧ rng 4 cs' = C14' ∧ r = .tu [.pt 100 0, .i .i64 0] ∧ σ = slabS 100 101 102 2 4 zs' cs') :=
  (of_ok 2 4 zs cs f1 f2 (by omega) (by omega) (by rw [hz, hc]; decide)).mono' fun r σ ⟨z, c, h1, h2, h⟩ => ⟨z, c, h1.trans hz, h2.trans hc, h⟩
theorem rof14a (hz : rng 2 zs = S14) (hc : rng 6 cs = C14) : TriS Try.prog 14 [.pt 0 0, .i .i64 1] (slabS 0 1 2 2 6 zs cs)
    (fun r σ => ∃ lc hc : Ix → Int, rng 2 lc = [0, 0] ∧ rng 2 hc = [1, 1] ∧ r = .tu [.sl 100 0 2 1 false, .sl 101 0 2 1 false, .b true] ∧ σ = slabS 0 1 2 2 6 zs cs ++ [(100, .ar 2 [.i .i64 lc] 3), (101, .ar 2 [.i .i64 hc] 3)]) :=
  (of_yes 2 6 1 zs cs (by rw [hz, hc]; exact ofB_wf (by decide)) (by rw [hz, hc]; decide)).mono' fun r σ ⟨l, u, h1, h2, h⟩ => ⟨l, u, h1.trans (by rw [hz, hc]; decide), h2.trans (by rw [hz, hc]; decide), h⟩
theorem rof14b (hz : rng 2 zs = S14') (hc : rng 4 cs = C14') : TriS Try.prog 14 [.pt 0 0, .i .i64 1] (slabS 0 1 2 2 4 zs cs) (fun r σ => r = .tu [.l 0 [] true, .l 0 [] true, .b false] ∧ σ = slabS 0 1 2 2 4 zs cs) :=
  of_no 2 4 1 zs cs (by rw [hz, hc]; exact ofB_wf (by decide)) (by rw [hz, hc]; decide)
theorem uq14 : Uq C14 3 (fun ix => AM.hd ix + 1) :=
  ⟨fun i j _ h _ => by simp only [AM.hd]; omega, fun j h0 h1 => by
    rcases (by omega : j = 0 ∨ j = 1 ∨ j = 2) with rfl | rfl | rfl <;> decide, fun x hx => by
    simp only [C14, List.mem_cons, List.not_mem_nil, or_false] at hx
    exact ⟨x - 1, by omega, by omega, by simp only [AM.hd]; omega⟩⟩
theorem rall14a (hz : rng 2 zs = S14) (hc : rng 6 cs = C14) : TriS Try.prog 15 [.pt 0 0] (slabS 0 1 2 2 6 zs cs)
    (fun r σ => ∃ g : Ix → Int, rng 3 g = [1, 2, 3] ∧ r = .tu [.sl 100 0 3 1 false, .b true] ∧ σ = slabS 0 1 2 2 6 zs cs ++ [(100, .ar 6 [.i .i64 g] 3)]) :=
  (all_tri 2 6 zs cs (by rw [hz, hc]; exact ofB_wf (by decide))).mono' fun r σ ⟨m, g, b, hm, hu, hb, h1, h2⟩ => by
    rw [hc] at hu
    have e := (hu.eq uq14).trans (show rng 3 (fun ix => AM.hd ix + 1) = [1, 2, 3] by rfl)
    have e2 := congrArg List.length e
    rw [rng_len] at e2
    obtain rfl : m = 3 := by have : m.toNat = 3 := e2; omega
    have hb := hb.2 (by rw [hz, hc]; intro x hx; revert x; decide)
    subst hb
    exact ⟨g, e, h1, h2⟩
theorem rall14b (hz : rng 2 zs = S14') (hc : rng 4 cs = C14') : TriS Try.prog 15 [.pt 0 0] (slabS 0 1 2 2 4 zs cs)
    (fun r σ => ∃ (m : Int) (g : Ix → Int), (0 ≤ m ∧ m ≤ 4) ∧ r = .tu [.sl 100 0 m 1 false, .b false] ∧ σ = slabS 0 1 2 2 4 zs cs ++ [(100, .ar 4 [.i .i64 g] 3)]) :=
  (all_tri 2 4 zs cs (by rw [hz, hc]; exact ofB_wf (by decide))).mono' fun r σ ⟨m, g, b, hm, hu, hb, h1, h2⟩ => by
    have hb : b = false := by
      rw [hz, hc] at hb
      cases b with
      | false => rfl
      | true => exact absurd (hb.1 rfl 1 (by decide)) (by decide)
    subst hb
    exact ⟨m, g, hm, h1, h2⟩
theorem ints_lit {n : Int} {a b : Ix → Int} {fa fb : Bool} {L : List Int} (hn : 0 ≤ n ∧ n ≤ 1000000000) (h1 : rng n a = L) (h2 : rng n b = L) : TriS Try.prog 18 [.l n [.i .i64 a] fa, .l n [.i .i64 b] fb] [] (fun r σ => r = .b true ∧ σ = []) :=
  ints_yes n a b fa fb hn (h1.trans h2.symm)
/-- boxes of one coordinate -/
theorem one14 {a : Ix → Int} {x : Int} (h : a [0] = x) (hx : 0 ≤ x ∧ x ≤ 4294967295) : U32 1 a := fun j h0 h1 => by
  obtain rfl : j = 0 := by omega
  rw [h]; exact hx
theorem join14a (h1 : a1 [0] = 5) (h2 : a2 [0] = 9) (h3 : b1 [0] = 0) (h4 : b2 [0] = 4) : TriS Try.prog 20 [.ag [.l 1 [.i .u32 a1] f1, .l 1 [.i .u32 a2] f2], .ag [.l 1 [.i .u32 b1] f3, .l 1 [.i .u32 b2] f4]] []
    (fun r σ => ∃ u0 u1 : Ix → Int, u0 [0] = 0 ∧ u1 [0] = 9 ∧ r = .tu [.ag [.sl 100 0 1 1 false, .sl 101 0 1 1 false], .i .i64 0, .b true] ∧ σ = [(100, .ar 1 [.i .u32 u0] 77), (101, .ar 1 [.i .u32 u1] 77)]) :=
  (joined_tri 1 1 1 1 a1 a2 b1 b2 f1 f2 f3 f4 (by omega) (by omega) (by omega) (by omega) (one14 h1 (by omega)) (one14 h2 (by omega)) (one14 h3 (by omega)) (one14 h4 (by omega))).mono' fun r σ h => by
    have hj : Join 1 b1 1 b2 1 a1 1 a2 0 := by
      have hm : midK b1 a2 0 = 4 := by rw [midK, h3, h2]; decide
      refine ⟨⟨⟨by omega, rfl, fun j g0 g1 => ?_⟩, by omega, by omega⟩, rfl, rfl, fun j g0 g1 => ?_, fun j g0 g1 => ?_⟩ <;> obtain rfl : j = 0 := (by omega)
      · omega
      · rw [if_pos rfl, hm, h4]
      · rw [if_pos rfl, hm, h1]
        decide
    rcases h with ⟨t, u0, u1, h, -⟩ | ⟨t, u0, u1, h, e0, e1, g1, g2⟩ | ⟨h, -⟩
    · exact absurd h (hj.not (one14 h3 (by omega)) (one14 h2 (by omega)))
    · obtain rfl := hj.one h (one14 h3 (by omega)) (one14 h2 (by omega))
      exact ⟨u0, u1, (e0 0 (by omega) (by omega)).trans h3, (e1 0 (by omega) (by omega)).trans h2, g1, g2⟩
    · exact absurd hj (h 0 (by omega) (by omega)).2
theorem join14b (h1 : a1 [0] = 0) (h2 : a2 [0] = 5) (h3 : b1 [0] = 6) (h4 : b2 [0] = 9) : TriS Try.prog 20 [.ag [.l 1 [.i .u32 a1] f1, .l 1 [.i .u32 a2] f2], .ag [.l 1 [.i .u32 b1] f3, .l 1 [.i .u32 b2] f4]] []
    (fun r σ => r = .tu [.ag [.l 0 [] true, .l 0 [] true], .i .i64 0, .b false] ∧ σ = []) :=
  (joined_tri 1 1 1 1 a1 a2 b1 b2 f1 f2 f3 f4 (by omega) (by omega) (by omega) (by omega) (one14 h1 (by omega)) (one14 h2 (by omega)) (one14 h3 (by omega)) (one14 h4 (by omega))).mono' fun r σ h => by
    rcases h with ⟨t, u0, u1, h, -⟩ | ⟨t, u0, u1, h, -⟩ | ⟨-, h⟩
    · exfalso
      obtain rfl : t = 0 := by have := h.wide.2.1; omega
      have h5 := h.lo 0 (by omega) (by omega)
      rw [if_pos rfl, midK, h1, h2, h4] at h5
      omega
    · exfalso
      obtain rfl : t = 0 := by have := h.wide.2.1; omega
      have h5 := h.wide.2.2
      omega
    · exact h
theorem rbox_one (h1 : a1 [0] = b1 [0]) (h2 : a2 [0] = b2 [0]) : TriS Try.prog 22 [.ag [.l 1 [.i .u32 a1] f1, .l 1 [.i .u32 a2] f2], .ag [.l 1 [.i .u32 b1] f3, .l 1 [.i .u32 b2] f4]] [] (fun r σ => r = .b true ∧ σ = []) :=
  (rbox_tri 1 1 1 1 a1 a2 b1 b2 f1 f2 f3 f4 (by omega) (by omega) (by omega) (by omega)).mono' fun r σ ⟨v, e, h3, h4⟩ => ⟨by
    rw [h3, e.2 ⟨⟨rfl, fun j g0 g1 => ?_⟩, rfl, fun j g0 g1 => ?_⟩] <;> obtain rfl : j = 0 := (by omega)
    · exact h1
    · exact h2, h4⟩
end
theorem live14 : TriS Try.prog 11 [] [] (fun r σ => r = .b true ∧ σ = []) := by
  refine tri_of TT_ok mixed (OR := ORD11) (fn := Try.f11) (c := body Try.f11) (by kernel_rfl) (by kernel_rfl) (by kernel_rfl) (by kernel_rfl) (by simp [Try.f11]) fun H Tri hH hTri => ?_
  cbv
  refine cal [] (t := hTri _ _ _ _ (of14a (by rfl) (by rfl))) (k := ?k_1)
  rintro r_2 σ_3 ⟨x_4, ⟨x_5, ⟨h_6, ⟨h_7, ⟨rfl, rfl⟩⟩⟩⟩⟩
  cbv
  refine cal [] (t := hTri _ _ _ _ (of14b (by rfl) (by rfl))) (k := ?k_8)
  rintro r_9 σ_10 ⟨x_11, ⟨x_12, ⟨h_13, ⟨h_14, ⟨rfl, rfl⟩⟩⟩⟩⟩
  cbv
  refine cal [200, 201, 202] (t := hTri _ _ _ _ (rof14a (by assumption) (by assumption))) (k := ?k_15)
  rintro r_16 σ_17 ⟨x_18, ⟨x_19, ⟨h_20, ⟨h_21, ⟨rfl, rfl⟩⟩⟩⟩⟩
  cbv
  refine cal [220, 221, 222] (t := hTri _ _ _ _ (rof14b (by assumption) (by assumption))) (k := ?k_22)
  rintro r_23 σ_24 ⟨rfl, rfl⟩
  cbv
  refine cal [200, 201, 202] (t := hTri _ _ _ _ (rall14a (by assumption) (by assumption))) (k := ?k_25)
  rintro r_26 σ_27 ⟨x_28, ⟨h_29, ⟨rfl, rfl⟩⟩⟩
  cbv
  refine cal [220, 221, 222] (t := hTri _ _ _ _ (rall14b (by assumption) (by assumption))) (k := ?k_30)
  rintro r_31 σ_32 ⟨v_33, ⟨x_34, ⟨⟨h_35, h_36⟩, ⟨rfl, rfl⟩⟩⟩⟩
  cbv
  refine cal [] (t := hTri _ _ _ _ (join14a (by rfl) (by rfl) (by rfl) (by rfl))) (k := ?k_37)
  rintro r_38 σ_39 ⟨x_40, ⟨x_41, ⟨h_42, ⟨h_43, ⟨rfl, rfl⟩⟩⟩⟩⟩
  cbv
  refine cal [] (t := hTri _ _ _ _ (join14b (by rfl) (by rfl) (by rfl) (by rfl))) (k := ?k_44)
  rintro r_45 σ_46 ⟨rfl, rfl⟩
  cbv
  refine cal [] (t := hTri _ _ _ _ (ints_lit (by omega) (by assumption) (by rfl))) (k := ?k_47)
  rintro r_48 σ_49 ⟨rfl, rfl⟩
  cbv
  refine cal [] (t := hTri _ _ _ _ (ints_lit (by omega) (by assumption) (by rfl))) (k := ?k_50)
  rintro r_51 σ_52 ⟨rfl, rfl⟩
  cbv
  refine cal [] (t := hTri _ _ _ _ (ints_lit (by omega) (by assumption) (by rfl))) (k := ?k_53)
  rintro r_54 σ_55 ⟨rfl, rfl⟩
  cbv
  split
  case h_2 => rename_i hh; exact absurd hh (by rw [hH]; simp; try omega)
  cbv
  generalize e_56 : H Bool _ = b_57
  simp only [hH] at e_56
  replace e_56 := boolN e_56
  obtain rfl : b_57 = true := e_56.2 (by decide)
  refine cal [] (t := hTri _ _ _ _ (rbox_one (by assumption) (by assumption))) (k := ?k_58)
  rintro r_59 σ_60 ⟨rfl, rfl⟩
  cbv
  exact fin (h := ⟨rfl, rfl⟩)
end Go.Proofs.Ytilmhjojbolbeaa.AM

namespace Go.Proofs.Ytilmhjojbolbeaa.AM
open Go
set_option maxRecDepth 100000
set_option maxHeartbeats 4000000
/-! an empty row may be any -/
theorem rv_nil {g : G} {w : World} {ow : Nat → Prop} {cs cs' : List C} {fl : Bool} {v : Value} (h : RV g w ow (.l 0 cs fl) v) : RV g w ow (.l 0 cs' fl) v := by
  obtain ⟨a, len, cap, h1, h2, h3, h4⟩ := h
  exact ⟨a, len, cap, h1, h2, h3, .inl (by omega)⟩
theorem rvs_nil {g : G} {w : World} {ow : Nat → Prop} {c1 c2 d1 d2 : List C} {f1 f2 : Bool} : ∀ {us : List Value}, RVs g w ow [.l 0 c1 f1, .l 0 c2 f2] us → RVs g w ow [.l 0 d1 f1, .l 0 d2 f2] us
  | [], h => h.elim
  | [_], h => h.2.elim
  | _ :: _ :: _, ⟨h1, h2, h3⟩ => ⟨rv_nil h1, rv_nil h2, h3⟩
section
variable {n n1 n2 m1 m2 m t : Int} {a b a1 a2 b1 b2 x0 y0 x1 y1 c c' u v u0 u1 v0 v1 : Ix → Int} {f1 f2 f3 f4 : Bool}
theorem eqk2 (h : ∀ j, 0 ≤ j → j < n → u [j] = c [j]) (h' : ∀ j, 0 ≤ j → j < n → v [j] = c [j]) : EqK n (fr0 u) n (fr0 v) := by
  rw [EqK.fr]
  exact ⟨rfl, fun j h0 h1 => by rw [show fr0 v [j] = v [j] by simp [fr0, AM.hd], h j h0 h1, h' j h0 h1]⟩
theorem eqk1 (h : ∀ j, 0 ≤ j → j < n → u [j] = c [j]) : EqK n (fr0 u) n c := by
  rw [EqK.fr]
  exact ⟨rfl, h⟩
/-- the box that two are the halves of -/
abbrev joinY (n : Int) (a : Ix → Int) (m : Int) (b : Ix → Int) (t : Int) (r : V) (σ : Sto) : Prop :=
  ∃ u0 u1 : Ix → Int, (∀ j, 0 ≤ j → j < n → u0 [j] = a [j]) ∧ (∀ j, 0 ≤ j → j < m → u1 [j] = b [j]) ∧ r = .tu [.ag [.sl 100 0 n 1 false, .sl 101 0 m 1 false], .i .i64 t, .b true] ∧ σ = [(100, .ar n [.i .u32 u0] 77), (101, .ar m [.i .u32 u1] 77)]
theorem joinR_1 {r : V} {σ : Sto} (h : Join n1 a1 n2 a2 m1 b1 m2 b2 t) (u1 : U32 n1 a1) (u4 : U32 m2 b2) (hr : joinR n1 a1 n2 a2 m1 b1 m2 b2 r σ) : joinY n1 a1 m2 b2 t r σ := by
  rcases hr with ⟨s, x, y, h', hr⟩ | ⟨s, x, y, h', hr⟩ | ⟨h', -⟩
  · obtain rfl := h.one h' u1 u4
    exact ⟨x, y, hr⟩
  · exact absurd h' (h.not u1 u4)
  · exact absurd h (h' t h.wide.2.1.1 h.wide.2.1.2).1
theorem joinR_2 {r : V} {σ : Sto} (h : Join m1 b1 m2 b2 n1 a1 n2 a2 t) (u3 : U32 m1 b1) (u2 : U32 n2 a2) (hr : joinR n1 a1 n2 a2 m1 b1 m2 b2 r σ) : joinY m1 b1 n2 a2 t r σ := by
  rcases hr with ⟨s, x, y, h', hr⟩ | ⟨s, x, y, h', hr⟩ | ⟨h', -⟩
  · exact absurd h' (h.not u3 u2)
  · obtain rfl := h.one h' u3 u2
    exact ⟨x, y, hr⟩
  · exact absurd h (h' t h.wide.2.1.1 (by have := h.wide.2.1.2; have := h.l2; omega)).2
theorem joinR_0 {r : V} {σ : Sto} (h : ∀ t, ¬ Join n1 a1 n2 a2 m1 b1 m2 b2 t ∧ ¬ Join m1 b1 m2 b2 n1 a1 n2 a2 t) (hr : joinR n1 a1 n2 a2 m1 b1 m2 b2 r σ) : r = .tu [.ag [.l 0 [] true, .l 0 [] true], .i .i64 0, .b false] ∧ σ = [] := by
  rcases hr with ⟨s, x, y, h', hr⟩ | ⟨s, x, y, h', hr⟩ | ⟨h', hr⟩
  · exact absurd h' (h s).1
  · exact absurd h' (h s).2
  · exact hr
theorem half_join (hw : Wide n a m b t) (hh : Half n a b t x0 y0 x1 y1) : Join n x0 n y0 n x1 n y1 t := by
  have hw' := hw
  obtain ⟨⟨hn, he, hle⟩, ht, hlt⟩ := hw'
  subst he
  have em := midK_congr ht.1 ht.2 ht.2 (c1 := x0) (c2 := y1) (a1 := a) (a2 := b) hh.x0 hh.y1
  refine ⟨hw.congr hh.x0 hh.y1, rfl, rfl, fun j h0 h1 => ?_, fun j h0 h1 => ?_⟩
  · rw [hh.y0 j h0 h1, em, hh.y1 j h0 h1]
  · rw [hh.x1 j h0 h1, em, hh.x0 j h0 h1]
theorem half_fr (hh : Half n a b t x0 y0 x1 y1) (e0 : ∀ j, 0 ≤ j → j < n → u0 [j] = x0 [j]) (e1 : ∀ j, 0 ≤ j → j < n → u1 [j] = y0 [j]) (e2 : ∀ j, 0 ≤ j → j < n → v0 [j] = x1 [j]) (e3 : ∀ j, 0 ≤ j → j < n → v1 [j] = y1 [j]) : Half n a b t u0 u1 v0 v1 :=
  ⟨fun j h0 h1 => (e0 j h0 h1).trans (hh.x0 j h0 h1), fun j h0 h1 => (e1 j h0 h1).trans (hh.y0 j h0 h1), fun j h0 h1 => (e2 j h0 h1).trans (hh.x1 j h0 h1), fun j h0 h1 => (e3 j h0 h1).trans (hh.y1 j h0 h1)⟩
theorem fr0_at (x : Ix → Int) : ∀ j, 0 ≤ j → j < n → fr0 x [j] = x [j] := fun j _ _ => by simp [fr0, AM.hd]
theorem half_fr0 (hh : Half n a b t x0 y0 x1 y1) : Half n a b t (fr0 x0) (fr0 y0) (fr0 x1) (fr0 y1) := half_fr hh (fr0_at _) (fr0_at _) (fr0_at _) (fr0_at _)
theorem half_u32 (hw : Wide n a m b t) (h1 : U32 n a) (h2 : U32 m b) (hh : Half n a b t x0 y0 x1 y1) : (U32 n x0 ∧ U32 n y0) ∧ U32 n x1 ∧ U32 n y1 := by
  have hw' := hw
  obtain ⟨⟨hn, he, hle⟩, ht, hlt⟩ := hw'
  subst he
  have hm := midK_bd (n := n) h1 h2 ht.1 ht.2 hlt
  have p1 := h1 t ht.1 ht.2
  have p2 := h2 t ht.1 ht.2
  refine ⟨⟨fun j h0 h3 => by rw [hh.x0 j h0 h3]; exact h1 j h0 h3, fun j h0 h3 => ?_⟩, fun j h0 h3 => ?_, fun j h0 h3 => by rw [hh.y1 j h0 h3]; exact h2 j h0 h3⟩
  · rw [hh.y0 j h0 h3]
    split
    · omega
    · exact h2 j h0 h3
  · rw [hh.x1 j h0 h3]
    split
    · omega
    · exact h1 j h0 h3
/-- the halves of a box, joined -/
theorem joined_half (hw : Wide n a m b t) (h1 : U32 n a) (h2 : U32 m b) (hh : Half n a b t x0 y0 x1 y1) : TriS Try.prog 20 [.ag [.l n [.i .u32 x0] f1, .l n [.i .u32 y0] f2], .ag [.l n [.i .u32 x1] f3, .l n [.i .u32 y1] f4]] [] (joinY n a n b t) := by
  have hb := hw.1.1
  obtain ⟨⟨g1, g2⟩, g3, g4⟩ := half_u32 hw h1 h2 hh
  exact (joined_tri n n n n x0 y0 x1 y1 f1 f2 f3 f4 (by omega) (by omega) (by omega) (by omega) g1 g2 g3 g4).mono' fun r σ h => by
    obtain ⟨u, v, e1, e2, h⟩ := joinR_1 (half_join hw hh) g1 g4 h
    exact ⟨u, v, fun j h0 h1 => (e1 j h0 h1).trans (hh.x0 j h0 h1), fun j h0 h1 => (e2 j h0 h1).trans (hh.y1 j h0 h1), h⟩
theorem joined_half' (hw : Wide n a m b t) (h1 : U32 n a) (h2 : U32 m b) (hh : Half n a b t x0 y0 x1 y1) : TriS Try.prog 20 [.ag [.l n [.i .u32 x1] f1, .l n [.i .u32 y1] f2], .ag [.l n [.i .u32 x0] f3, .l n [.i .u32 y0] f4]] [] (joinY n a n b t) := by
  have hb := hw.1.1
  obtain ⟨⟨g1, g2⟩, g3, g4⟩ := half_u32 hw h1 h2 hh
  exact (joined_tri n n n n x1 y1 x0 y0 f1 f2 f3 f4 (by omega) (by omega) (by omega) (by omega) g3 g4 g1 g2).mono' fun r σ h => by
    obtain ⟨u, v, e1, e2, h⟩ := joinR_2 (half_join hw hh) g1 g4 h
    exact ⟨u, v, fun j h0 h1 => (e1 j h0 h1).trans (hh.x0 j h0 h1), fun j h0 h1 => (e2 j h0 h1).trans (hh.y1 j h0 h1), h⟩
theorem rbox_yes (h1 : EqK n a m b) (h2 : EqK n1 a1 m1 b1) (hn : 0 ≤ n ∧ n ≤ 1000000) (hn1 : 0 ≤ n1 ∧ n1 ≤ 1000000) : TriS Try.prog 22 [.ag [.l n [.i .u32 a] f1, .l n1 [.i .u32 a1] f2], .ag [.l m [.i .u32 b] f3, .l m1 [.i .u32 b1] f4]] [] (fun r σ => r = .b true ∧ σ = []) :=
  (rbox_tri n n1 m m1 a a1 b b1 f1 f2 f3 f4 hn hn1 (by have := h1.1; omega) (by have := h2.1; omega)).mono' fun r σ ⟨v, e, h3, h4⟩ => ⟨by rw [h3, e.2 ⟨h1, h2⟩], h4⟩
end
/-- the law, where the two are halves -/
theorem joins_yes (n1 n2 m1 m2 k l t : Int) (a1 a2 b1 b2 c d : Ix → Int) (hn : (0 ≤ n1 ∧ n1 ≤ 20) ∧ (0 ≤ n2 ∧ n2 ≤ 20) ∧ (0 ≤ m1 ∧ m1 ≤ 20) ∧ (0 ≤ m2 ∧ m2 ≤ 20)) (hk : 0 ≤ k ∧ k ≤ 20) (hl : 0 ≤ l ∧ l ≤ 20)
    (c1 : TriS Try.prog 20 [.ag [.l n1 [.i .u32 a1] false, .l n2 [.i .u32 a2] false], .ag [.l m1 [.i .u32 b1] false, .l m2 [.i .u32 b2] false]] [] (joinY k c l d t))
    (c2 : TriS Try.prog 21 [.ag [.l n1 [.i .u32 a1] false, .l n2 [.i .u32 a2] false], .ag [.l m1 [.i .u32 b1] false, .l m2 [.i .u32 b2] false]] [] (joinY k c l d t))
    (c3 : TriS Try.prog 20 [.ag [.l m1 [.i .u32 b1] false, .l m2 [.i .u32 b2] false], .ag [.l n1 [.i .u32 a1] false, .l n2 [.i .u32 a2] false]] [] (joinY k c l d t)) :
    TriS Try.prog 4 [.ag [.l n1 [.i .u32 a1] false, .l n2 [.i .u32 a2] false], .ag [.l m1 [.i .u32 b1] false, .l m2 [.i .u32 b2] false]] [] (fun r _ => r = .b true) := by
  have hlv := live14
  refine tri_of TT_ok mixed (OR := ORD4) (fn := Try.f4) (c := body Try.f4) (by kernel_rfl) (by kernel_rfl) (by kernel_rfl) (by kernel_rfl) (by simp [Try.f4]) fun H Tri hH hTri => ?_
  cbv
  split
  case h_1 => rename_i hh; exact absurd hh (by rw [hH]; simp; omega)
  cbv
  split
  case h_1 => rename_i hh; exact absurd hh (by rw [hH]; simp; omega)
  cbv
  split
  case h_1 => rename_i hh; exact absurd hh (by rw [hH]; simp; omega)
  cbv
  split
  case h_1 => rename_i hh; exact absurd hh (by rw [hH]; simp; omega)
  cbv
  generalize e_1 : H Bool _ = b_2
  simp only [hH] at e_1
  replace e_1 := boolN e_1
  generalize e_3 : H Bool _ = b_4
  simp only [hH] at e_3
  replace e_3 := boolN e_3
  generalize e_5 : H Bool _ = b_6
  simp only [hH] at e_5
  replace e_5 := boolN e_5
  generalize e_7 : H Bool _ = b_8
  simp only [hH] at e_7
  replace e_7 := boolN e_7
  refine cal [] (t := hTri _ _ _ _ c1) (k := ?k_9)
  rintro r_10 σ_11 ⟨x_12, ⟨x_13, ⟨h_14, ⟨h_15, ⟨rfl, rfl⟩⟩⟩⟩⟩
  cbv
  refine cal [] (t := hTri _ _ _ _ c2) (k := ?k_16)
  rintro r_17 σ_18 ⟨x_19, ⟨x_20, ⟨h_21, ⟨h_22, ⟨rfl, rfl⟩⟩⟩⟩⟩
  cbv
  refine cal [] (t := hTri _ _ _ _ c3) (k := ?k_23)
  rintro r_24 σ_25 ⟨x_26, ⟨x_27, ⟨h_28, ⟨h_29, ⟨rfl, rfl⟩⟩⟩⟩⟩
  cbv
  refine cal [] (t := hTri _ _ _ _ (rbox_yes (by (exact eqk2 ‹_› ‹_›)) (by (exact eqk2 ‹_› ‹_›)) (by omega) (by omega))) (k := ?k_30)
  rintro r_31 σ_32 ⟨rfl, rfl⟩
  cbv
  split
  case h_2 => rename_i hh; exact absurd hh (by rw [hH]; simp; try omega)
  cbv
  split
  case h_2 => rename_i hh; exact absurd hh (by rw [hH]; simp; try omega)
  cbv
  generalize e_33 : H Bool _ = b_34
  simp only [hH] at e_33
  replace e_33 := boolN e_33
  obtain rfl : b_34 = true := e_33.2 (by decide)
  generalize e_35 : H Bool _ = b_36
  simp only [hH] at e_35
  replace e_35 := boolN e_35
  obtain rfl : b_36 = true := e_35.2 (by decide)
  refine cal [] (t := hTri _ _ _ _ (rbox_yes (by (exact eqk2 ‹_› ‹_›)) (by (exact eqk2 ‹_› ‹_›)) (by omega) (by omega))) (k := ?k_37)
  rintro r_38 σ_39 ⟨rfl, rfl⟩
  cbv
  split
  case h_2 => rename_i hh; exact absurd hh (by rw [hH]; simp; try omega)
  cbv
  split
  case h_2 => rename_i hh; exact absurd hh (by rw [hH]; simp; try omega)
  cbv
  generalize e_40 : H Bool _ = b_41
  simp only [hH] at e_40
  replace e_40 := boolN e_40
  obtain rfl : b_41 = true := e_40.2 (by decide)
  generalize e_42 : H Bool _ = b_43
  simp only [hH] at e_42
  replace e_42 := boolN e_42
  obtain rfl : b_43 = true := e_42.2 (by decide)
  refine cal [] (t := hTri _ _ _ _ hlv) (k := ?k_44)
  rintro r_45 σ_46 ⟨rfl, rfl⟩
  cbv
  exact fin (σ := []) (h := rfl)
theorem joins_no (n1 n2 m1 m2 : Int) (a1 a2 b1 b2 : Ix → Int) (hn : (0 ≤ n1 ∧ n1 ≤ 20) ∧ (0 ≤ n2 ∧ n2 ≤ 20) ∧ (0 ≤ m1 ∧ m1 ≤ 20) ∧ (0 ≤ m2 ∧ m2 ≤ 20))
    (c1 : TriS Try.prog 20 [.ag [.l n1 [.i .u32 a1] false, .l n2 [.i .u32 a2] false], .ag [.l m1 [.i .u32 b1] false, .l m2 [.i .u32 b2] false]] [] (fun r σ => r = .tu [.ag [.l 0 [] true, .l 0 [] true], .i .i64 0, .b false] ∧ σ = []))
    (c2 : TriS Try.prog 21 [.ag [.l n1 [.i .u32 a1] false, .l n2 [.i .u32 a2] false], .ag [.l m1 [.i .u32 b1] false, .l m2 [.i .u32 b2] false]] [] (fun r σ => r = .tu [.ag [.l 0 [] true, .l 0 [] true], .i .i64 0, .b false] ∧ σ = []))
    (c3 : TriS Try.prog 20 [.ag [.l m1 [.i .u32 b1] false, .l m2 [.i .u32 b2] false], .ag [.l n1 [.i .u32 a1] false, .l n2 [.i .u32 a2] false]] [] (fun r σ => r = .tu [.ag [.l 0 [] true, .l 0 [] true], .i .i64 0, .b false] ∧ σ = [])) :
    TriS Try.prog 4 [.ag [.l n1 [.i .u32 a1] false, .l n2 [.i .u32 a2] false], .ag [.l m1 [.i .u32 b1] false, .l m2 [.i .u32 b2] false]] [] (fun r _ => r = .b true) := by
  have hlv := live14
  have hb : TriS Try.prog 22 [.ag [.l 0 [] true, .l 0 [] true], .ag [.l 0 [] true, .l 0 [] true]] [] (fun r σ => r = .b true ∧ σ = []) := by
    have hz := fun (f : Ix → Int) => rbox_yes (n := 0) (m := 0) (n1 := 0) (m1 := 0) (a := f) (b := f) (a1 := f) (b1 := f) (f1 := true) (f2 := true) (f3 := true) (f4 := true) ⟨rfl, fun _ _ _ => rfl⟩ ⟨rfl, fun _ _ _ => rfl⟩ (by omega) (by omega)
    refine ⟨(hz fun _ => 0).1, fun X g w vs hX hob hvs => (hz fun _ => 0).2 X g w vs hX hob ?_⟩
    match vs, hvs with
    | v1 :: v2 :: vs, ⟨⟨u, e, h1⟩, ⟨u', e', g1⟩, h⟩ => exact ⟨⟨u, e, rvs_nil h1⟩, ⟨u', e', rvs_nil g1⟩, h⟩
  refine tri_of TT_ok mixed (OR := ORD4) (fn := Try.f4) (c := body Try.f4) (by kernel_rfl) (by kernel_rfl) (by kernel_rfl) (by kernel_rfl) (by simp [Try.f4]) fun H Tri hH hTri => ?_
  cbv
  split
  case h_1 => rename_i hh; exact absurd hh (by rw [hH]; simp; omega)
  cbv
  split
  case h_1 => rename_i hh; exact absurd hh (by rw [hH]; simp; omega)
  cbv
  split
  case h_1 => rename_i hh; exact absurd hh (by rw [hH]; simp; omega)
  cbv
  split
  case h_1 => rename_i hh; exact absurd hh (by rw [hH]; simp; omega)
  cbv
  generalize e_1 : H Bool _ = b_2
  simp only [hH] at e_1
  replace e_1 := boolN e_1
  generalize e_3 : H Bool _ = b_4
  simp only [hH] at e_3
  replace e_3 := boolN e_3
  generalize e_5 : H Bool _ = b_6
  simp only [hH] at e_5
  replace e_5 := boolN e_5
  generalize e_7 : H Bool _ = b_8
  simp only [hH] at e_7
  replace e_7 := boolN e_7
  refine cal [] (t := hTri _ _ _ _ c1) (k := ?k_9)
  rintro r_10 σ_11 ⟨rfl, rfl⟩
  cbv
  refine cal [] (t := hTri _ _ _ _ c2) (k := ?k_12)
  rintro r_13 σ_14 ⟨rfl, rfl⟩
  cbv
  refine cal [] (t := hTri _ _ _ _ c3) (k := ?k_15)
  rintro r_16 σ_17 ⟨rfl, rfl⟩
  cbv
  refine cal [] (t := hTri _ _ _ _ hb) (k := ?k_18)
  rintro r_19 σ_20 ⟨rfl, rfl⟩
  cbv
  split
  case h_2 => rename_i hh; exact absurd hh (by rw [hH]; simp; try omega)
  cbv
  split
  case h_2 => rename_i hh; exact absurd hh (by rw [hH]; simp; try omega)
  cbv
  generalize e_21 : H Bool _ = b_22
  simp only [hH] at e_21
  replace e_21 := boolN e_21
  obtain rfl : b_22 = true := e_21.2 (by decide)
  generalize e_23 : H Bool _ = b_24
  simp only [hH] at e_23
  replace e_23 := boolN e_23
  obtain rfl : b_24 = true := e_23.2 (by decide)
  refine cal [] (t := hTri _ _ _ _ hb) (k := ?k_25)
  rintro r_26 σ_27 ⟨rfl, rfl⟩
  cbv
  split
  case h_2 => rename_i hh; exact absurd hh (by rw [hH]; simp; try omega)
  cbv
  split
  case h_2 => rename_i hh; exact absurd hh (by rw [hH]; simp; try omega)
  cbv
  generalize e_28 : H Bool _ = b_29
  simp only [hH] at e_28
  replace e_28 := boolN e_28
  obtain rfl : b_29 = true := e_28.2 (by decide)
  generalize e_30 : H Bool _ = b_31
  simp only [hH] at e_30
  replace e_30 := boolN e_30
  obtain rfl : b_31 = true := e_30.2 (by decide)
  refine cal [] (t := hTri _ _ _ _ hlv) (k := ?k_32)
  rintro r_33 σ_34 ⟨rfl, rfl⟩
  cbv
  exact fin (σ := []) (h := rfl)
theorem joins_big (n1 n2 m1 m2 : Int) (a1 a2 b1 b2 : Ix → Int) (hn : ¬ (n1 ≤ 20 ∧ n2 ≤ 20 ∧ m1 ≤ 20 ∧ m2 ≤ 20)) :
    TriS Try.prog 4 [.ag [.l n1 [.i .u32 a1] false, .l n2 [.i .u32 a2] false], .ag [.l m1 [.i .u32 b1] false, .l m2 [.i .u32 b2] false]] [] (fun r _ => r = .b true) := by
  have hlv := live14
  refine tri_of TT_ok mixed (OR := ORD4) (fn := Try.f4) (c := body Try.f4) (by kernel_rfl) (by kernel_rfl) (by kernel_rfl) (by kernel_rfl) (by simp [Try.f4]) fun H Tri hH hTri => ?_
  cbv
  split
  · rename_i h_1
    simp only [hH, decide_eq_true_eq] at h_1
    cbv
    generalize e_2 : H Bool _ = b_3
    simp only [hH] at e_2
    replace e_2 := boolN e_2
    refine cal [] (t := hTri _ _ _ _ hlv) (k := ?k_4)
    rintro r_5 σ_6 ⟨rfl, rfl⟩
    cbv
    exact fin (σ := []) (h := rfl)
  · rename_i h_7
    simp only [hH, decide_eq_false_iff_not, Int.not_lt, Int.not_le] at h_7
    cbv
    split
    · rename_i h_8
      simp only [hH, decide_eq_true_eq] at h_8
      cbv
      generalize e_9 : H Bool _ = b_10
      simp only [hH] at e_9
      replace e_9 := boolN e_9
      generalize e_11 : H Bool _ = b_12
      simp only [hH] at e_11
      replace e_11 := boolN e_11
      refine cal [] (t := hTri _ _ _ _ hlv) (k := ?k_13)
      rintro r_14 σ_15 ⟨rfl, rfl⟩
      cbv
      exact fin (σ := []) (h := rfl)
    · rename_i h_16
      simp only [hH, decide_eq_false_iff_not, Int.not_lt, Int.not_le] at h_16
      cbv
      split
      · rename_i h_17
        simp only [hH, decide_eq_true_eq] at h_17
        cbv
        generalize e_18 : H Bool _ = b_19
        simp only [hH] at e_18
        replace e_18 := boolN e_18
        generalize e_20 : H Bool _ = b_21
        simp only [hH] at e_20
        replace e_20 := boolN e_20
        generalize e_22 : H Bool _ = b_23
        simp only [hH] at e_22
        replace e_22 := boolN e_22
        refine cal [] (t := hTri _ _ _ _ hlv) (k := ?k_24)
        rintro r_25 σ_26 ⟨rfl, rfl⟩
        cbv
        exact fin (σ := []) (h := rfl)
      · rename_i h_27
        simp only [hH, decide_eq_false_iff_not, Int.not_lt, Int.not_le] at h_27
        cbv
        split
        case h_2 => rename_i hh; exact absurd hh (by rw [hH]; simp; omega)
        cbv
        generalize e_28 : H Bool _ = b_29
        simp only [hH] at e_28
        replace e_28 := boolN e_28
        generalize e_30 : H Bool _ = b_31
        simp only [hH] at e_30
        replace e_30 := boolN e_30
        generalize e_32 : H Bool _ = b_33
        simp only [hH] at e_32
        replace e_32 := boolN e_32
        generalize e_34 : H Bool _ = b_35
        simp only [hH] at e_34
        replace e_34 := boolN e_34
        refine cal [] (t := hTri _ _ _ _ hlv) (k := ?k_36)
        rintro r_37 σ_38 ⟨rfl, rfl⟩
        cbv
        exact fin (σ := []) (h := rfl)
theorem joins_all (n1 n2 m1 m2 : Int) (a1 a2 b1 b2 : Ix → Int) (hp : 0 ≤ n1 ∧ 0 ≤ n2 ∧ 0 ≤ m1 ∧ 0 ≤ m2) (u1 : ∀ n, U32 n a1) (u2 : ∀ n, U32 n a2) (u3 : ∀ n, U32 n b1) (u4 : ∀ n, U32 n b2) :
    TriS Try.prog 4 [.ag [.l n1 [.i .u32 a1] false, .l n2 [.i .u32 a2] false], .ag [.l m1 [.i .u32 b1] false, .l m2 [.i .u32 b2] false]] [] (fun r _ => r = .b true) := by
  by_cases hn : n1 ≤ 20 ∧ n2 ≤ 20 ∧ m1 ≤ 20 ∧ m2 ≤ 20
  case neg => exact joins_big n1 n2 m1 m2 a1 a2 b1 b2 hn
  have c1 := joined_tri n1 n2 m1 m2 a1 a2 b1 b2 false false false false (by omega) (by omega) (by omega) (by omega) (u1 _) (u2 _) (u3 _) (u4 _)
  have c2 := rjoined_tri n1 n2 m1 m2 a1 a2 b1 b2 false false false false (by omega) (by omega) (by omega) (by omega) (u1 _) (u2 _) (u3 _) (u4 _)
  have c3 := joined_tri m1 m2 n1 n2 b1 b2 a1 a2 false false false false (by omega) (by omega) (by omega) (by omega) (u3 _) (u4 _) (u1 _) (u2 _)
  by_cases h1 : ∃ t, Join n1 a1 n2 a2 m1 b1 m2 b2 t
  · obtain ⟨t, h1⟩ := h1
    exact joins_yes n1 n2 m1 m2 n1 m2 t a1 a2 b1 b2 a1 b2 (by omega) (by omega) (by omega) (c1.mono' fun _ _ h => joinR_1 h1 (u1 _) (u4 _) h) (c2.mono' fun _ _ h => joinR_1 h1 (u1 _) (u4 _) h) (c3.mono' fun _ _ h => joinR_2 h1 (u1 _) (u4 _) h)
  by_cases h2 : ∃ t, Join m1 b1 m2 b2 n1 a1 n2 a2 t
  · obtain ⟨t, h2⟩ := h2
    exact joins_yes n1 n2 m1 m2 m1 n2 t a1 a2 b1 b2 b1 a2 (by omega) (by omega) (by omega) (c1.mono' fun _ _ h => joinR_2 h2 (u3 _) (u2 _) h) (c2.mono' fun _ _ h => joinR_2 h2 (u3 _) (u2 _) h) (c3.mono' fun _ _ h => joinR_1 h2 (u3 _) (u2 _) h)
  exact joins_no n1 n2 m1 m2 a1 a2 b1 b2 (by omega) (c1.mono' fun _ _ h => joinR_0 (fun t => ⟨fun e => h1 ⟨t, e⟩, fun e => h2 ⟨t, e⟩⟩) h) (c2.mono' fun _ _ h => joinR_0 (fun t => ⟨fun e => h1 ⟨t, e⟩, fun e => h2 ⟨t, e⟩⟩) h)
    (c3.mono' fun _ _ h => joinR_0 (fun t => ⟨fun e => h2 ⟨t, e⟩, fun e => h1 ⟨t, e⟩⟩) h)
end Go.Proofs.Ytilmhjojbolbeaa.AM

namespace Go.Proofs.Ytilmhjojbolbeaa
section
variable {sz cs low high : List Int} {n : Int}
/-- each number of the least and the greatest cell is that of one of the cells -/
theorem mT_att : ∀ k, eqN cs n k ≠ 0 → ∀ j, j < sz.length → (∃ q, q < k ∧ rd cs q = n ∧ rd (mnT sz cs n k) j = rd (cellL sz (q : Int)) j) ∧ (∃ q, q < k ∧ rd cs q = n ∧ rd (mxT sz cs n k) j = rd (cellL sz (q : Int)) j) := by
  intro k
  induction k with
  | zero => intro h; exact absurd rfl h
  | succ k ih =>
    intro h j hj
    rw [eqN_step] at h
    simp only [mnT, mxT]
    by_cases e : rd cs k = n
    · rw [if_pos e, if_pos e]
      by_cases h0 : eqN cs n k = 0
      · simp only [h0, if_true]
        exact ⟨⟨k, by omega, e, rfl⟩, ⟨k, by omega, e, rfl⟩⟩
      · have h2 := mT_len (sz := sz) k h0
        obtain ⟨⟨q1, a1, b1, c1⟩, ⟨q2, a2, b2, c2⟩⟩ := ih h0 j hj
        simp only [h0, if_false]
        rw [rd_zipL _ _ _ (by omega), rd_zipL _ _ _ (by omega)]
        constructor
        · rcases Int.le_total (rd (mnT sz cs n k) j) (rd (cellL sz (k : Int)) j) with h3 | h3
          · exact ⟨q1, by omega, b1, by rw [Int.min_eq_left h3]; exact c1⟩
          · exact ⟨k, by omega, e, by rw [Int.min_eq_right h3]⟩
        · rcases Int.le_total (rd (mxT sz cs n k) j) (rd (cellL sz (k : Int)) j) with h3 | h3
          · exact ⟨k, by omega, e, by rw [Int.max_eq_right h3]⟩
          · exact ⟨q2, by omega, b2, by rw [Int.max_eq_left h3]; exact c2⟩
    · rw [if_neg e, if_neg e]
      rw [if_neg e] at h
      obtain ⟨⟨q1, a1, b1, c1⟩, ⟨q2, a2, b2, c2⟩⟩ := ih h j hj
      exact ⟨⟨q1, by omega, b1, c1⟩, ⟨q2, by omega, b2, c2⟩⟩
theorem fillL_len : (fillL sz cs low high n).length = cs.length := by simp [fillL, fillT]
theorem fill_wf (hwf : Wf sz cs) : Wf sz (fillL sz cs low high n) := ⟨hwf.lo, hwf.hi, hwf.pos, by rw [fillL_len]; exact hwf.len, by rw [fillL_len]; exact hwf.most⟩
/-- n stands just in the range -/
theorem filled_at (hn : ∀ q, q < cs.length → rd cs q ≠ n) {q : Nat} (hq : q < cs.length) : rd (fillL sz cs low high n) q = n ↔ hitB sz low high q = true := by
  rw [rd_fillL n hq]
  by_cases h : hitB sz low high q = true
  · simp [h]
  · simp [h, hn q hq]
theorem filled_some (hwf : Wf sz cs) (hm : mayB sz low high = true) : eqN (fillL sz cs low high n) n (fillL sz cs low high n).length ≠ 0 := by
  have h1 := vol_eqN hwf hm n
  have h2 := vol_bd hwf hm sz.length (Nat.le_refl _)
  rw [fillL_len]
  omega
theorem filled_mC (hwf : Wf sz cs) (hm : mayB sz low high = true) (hn : ∀ q, q < cs.length → rd cs q ≠ n) : mnC sz (fillL sz cs low high n) n = low ∧ mxC sz (fillL sz cs low high n) n = high := by
  obtain ⟨l1, l2, o1, o2, hle⟩ := may_facts hm
  have hwf2 := fill_wf (low := low) (high := high) (n := n) hwf
  have h0 := filled_some (n := n) hwf hm
  have hl := mT_len (sz := sz) _ h0
  have hlow : isCell sz low = true := by simp only [mayB, Bool.and_eq_true] at hm; exact hm.1.1
  have hhigh : isCell sz high = true := by simp only [mayB, Bool.and_eq_true] at hm; exact hm.1.2
  have pl := plc_lt hwf.pos (Nat.le_refl _) o1
  have ph := plc_lt hwf.pos (Nat.le_refl _) o2
  rw [← hwf.len] at pl ph
  obtain ⟨p, hp⟩ := Int.eq_ofNat_of_zero_le pl.1
  obtain ⟨q, hq⟩ := Int.eq_ofNat_of_zero_le ph.1
  have cp : cellL sz (p : Int) = low := by rw [← hp]; exact cellL_plc hwf.pos l1 o1
  have cq : cellL sz (q : Int) = high := by rw [← hq]; exact cellL_plc hwf.pos l2 o2
  have vp : rd (fillL sz cs low high n) p = n := (filled_at hn (by omega)).2 (hit_iff.2 fun j hj => by rw [cp]; exact ⟨Int.le_refl _, hle j hj⟩)
  have vq : rd (fillL sz cs low high n) q = n := (filled_at hn (by omega)).2 (hit_iff.2 fun j hj => by rw [cq]; exact ⟨hle j hj, Int.le_refl _⟩)
  constructor
  · refine ext_rd (by rw [l1]; exact hl.1) fun j hj => ?_
    rw [show (mnC sz (fillL sz cs low high n) n).length = sz.length from hl.1] at hj
    have h1 := (mT_in (n := n) hwf2 (fillL sz cs low high n).length p (by rw [fillL_len]; omega) vp j hj).1
    obtain ⟨⟨r, a, b, c⟩, -⟩ := mT_att (fillL sz cs low high n).length h0 j hj
    have h2 := (hit_iff.1 ((filled_at hn (by rw [fillL_len] at a; exact a)).1 b) j hj).1
    rw [cp] at h1
    rw [← c] at h2
    exact Int.le_antisymm h1 h2
  · refine ext_rd (by rw [l2]; exact hl.2) fun j hj => ?_
    rw [show (mxC sz (fillL sz cs low high n) n).length = sz.length from hl.2] at hj
    have h1 := (mT_in (n := n) hwf2 (fillL sz cs low high n).length q (by rw [fillL_len]; omega) vq j hj).2
    obtain ⟨-, ⟨r, a, b, c⟩⟩ := mT_att (fillL sz cs low high n).length h0 j hj
    have h2 := (hit_iff.1 ((filled_at hn (by rw [fillL_len] at a; exact a)).1 b) j hj).2
    rw [cq] at h1
    rw [← c] at h2
    exact Int.le_antisymm h2 h1
theorem filled_ok (hwf : Wf sz cs) (hm : mayB sz low high = true) (hn : ∀ q, q < cs.length → rd cs q ≠ n) : ofOk sz (fillL sz cs low high n) n = true := by
  obtain ⟨e1, e2⟩ := filled_mC hwf hm hn
  have h0 := filled_some (n := n) hwf hm
  rw [ofOk, e1, e2, vol_hits hwf hm]
  simp only [Bool.and_eq_true, decide_eq_true_eq]
  refine ⟨h0, ?_⟩
  rw [fillL_len, eqN]
  congr 1
  refine cnt_congr fun k hk => ?_
  have := filled_at (low := low) (high := high) (sz := sz) hn hk
  cases hh : hitB sz low high k with
  | true => rw [hh] at this; simpa using this.2 rfl
  | false => rw [hh] at this; simp at this; simp [this]
/-- what stands nowhere is nowhere -/
theorem none_ok (hn : ∀ q, q < cs.length → rd cs q ≠ n) : ofOk sz cs n = false := by
  have : eqN cs n cs.length = 0 := by
    cases h : eqN cs n cs.length with
    | zero => rfl
    | succ m =>
      obtain ⟨q, hq, hqn⟩ := some_eqN (cs := cs) (n := n) (k := cs.length) (by omega)
      exact absurd hqn (hn q hq)
  simp [ofOk, this]
end
end Go.Proofs.Ytilmhjojbolbeaa

namespace Go.Proofs.Ytilmhjojbolbeaa.AM
open Go
set_option maxRecDepth 100000
set_option maxHeartbeats 4000000
/-! nothing has nothing -/
theorem tri_nil_st {P : Program} {f : FuncId} {xs : List V} {cs : List C} {fl : Bool} {e : Nat} {R : V → Sto → Prop} (h : TriS P f xs [(0, .st [.l 0 cs fl] e)] R) : TriS P f xs [(0, .st [.l 0 [] fl] e)] R := by
  have hl : ∀ (o o' : O) i, (look i [(0, o)]).isSome = (look i [(0, o')]).isSome := fun o o' i => by simp only [look]; split <;> rfl
  have hm : ∀ g, mine [(0, O.st [.l 0 [] fl] e)] g = mine [(0, O.st [.l 0 cs fl] e)] g := fun g => by
    funext b; simp only [mine, hl (O.st [.l 0 [] fl] e) (O.st [.l 0 cs fl] e)]
  have ho : ∀ (S0 : Fr) g, own S0 [(0, O.st [.l 0 [] fl] e)] g = own S0 [(0, O.st [.l 0 cs fl] e)] g := fun S0 g => by
    funext b; simp only [own, hm]
  refine ⟨h.1, fun X g w vs hX hob hvs => ?_⟩
  rw [ho] at hvs
  rw [hm] at hX hvs hob ⊢
  refine h.2 X g w vs hX ⟨fun i o hi => ?_, fun i j h1 h2 => hob.inj i j ((hl _ _ i).trans h1) ((hl _ _ j).trans h2)⟩ hvs
  have h1 := hob.objs i
  rw [ho] at h1
  simp only [look] at hi h1
  split at hi
  · rename_i hi0
    cases hi
    have h2 := h1 _ (by rw [hi0])
    obtain ⟨a, vs, b, c⟩ := h2
    refine ⟨a, vs, b, ?_⟩
    match hv : vs.toList, c with
    | v :: r, ⟨c1, c2⟩ => exact ⟨rv_nil c1, c2⟩
  · cases hi
theorem values_nil : TriS Try.prog 46 [.l 0 [] true] [] (fun r σ => r = .fn (.func 78) [.pt 100 0] ∧ σ = [(100, .st [.l 0 [] true] 22)]) := by
  refine tri_of TT_ok mixed (OR := ORD46) (fn := Try.f46) (c := body Try.f46) (by kernel_rfl) (by kernel_rfl) (by kernel_rfl) (by kernel_rfl) (by simp [Try.f46]) fun H Tri hH hTri => ?_
  cbv
  exact fin (h := ⟨rfl, rfl⟩)
theorem sorted_nil : TriS Try.prog 45 [.fn (.func 78) [.pt 0 0]] [(0, .st [.l 0 [] true] 22)]
    (fun x σ => ∃ c : Ix → Int, x = .sl 100 0 0 1 false ∧ σ = [(0, .st [.l 0 [.i .i64 fun _ => 0] true] 22), (100, .ar 0 [.i .i64 c] 3)]) :=
  (tri_nil_st (sorted_tri 0 (fun _ => 0) true (by omega))).mono' fun r σ ⟨c, _, h⟩ => ⟨c, h⟩
theorem compact_none (f : Ix → Int) : TriS Try.prog 47 [.sl 0 0 0 1 false] [(0, .ar 0 [.i .i64 f] 3)] (fun r σ => ∃ g : Ix → Int, r = .sl 0 0 0 1 false ∧ σ = [(0, .ar 0 [.i .i64 g] 3)]) :=
  (compact_tri 0 f (by omega) (fun i j _ _ _ => by omega)).mono' fun r σ ⟨m, g, hm, _, h⟩ => by
    obtain rfl : m = 0 := by omega
    exact ⟨g, h⟩
theorem all_nil : TriS Try.prog 15 [nilp] [] (fun r σ => ∃ g : Ix → Int, r = .tu [.sl 100 0 0 1 false, .b false] ∧ σ = [(100, .ar 0 [.i .i64 g] 3)]) := by
  refine tri_of TT_ok mixed (OR := ORD15) (fn := Try.f15) (c := body Try.f15) (by kernel_rfl) (by kernel_rfl) (by kernel_rfl) (by kernel_rfl) (by simp [Try.f15]) fun H Tri hH hTri => ?_
  cbv
  refine cal [] (t := hTri _ _ _ _ scells_nil) (k := ?k_1)
  rintro r_2 σ_3 ⟨rfl, rfl⟩
  cbv
  refine cal [] (t := hTri _ _ _ _ values_nil) (k := ?k_4)
  rintro r_5 σ_6 ⟨rfl, rfl⟩
  cbv
  refine cal [220] (t := hTri _ _ _ _ sorted_nil) (k := ?k_7)
  rintro r_8 σ_9 ⟨x_10, ⟨rfl, rfl⟩⟩
  cbv
  refine cal [240] (t := hTri _ _ _ _ (compact_none _)) (k := ?k_11)
  rintro r_12 σ_13 ⟨x_14, ⟨rfl, rfl⟩⟩
  cbv
  refine' ⟨0, Int, fun (i : Int) => ⟨[(17, V.i IntKind.i64 0), (16, V.sl 240 0 0 1 false), (4, V.sl 240 0 0 1 false), (0, V.v (Value.pointer none)), (18, .i .i64 i), (3, V.b false), (2, V.l 0 [] true)], [(240, O.ar 0 [C.i IntKind.i64 x_14] 3), (220, O.st [V.l 0 [C.i IntKind.i64 fun x => 0] true] 22)], 241⟩, fun (i : Int) => (i = 0), fun (i : Int) => 0, ⟨0, (by rfl), q3⟩, ?r_15⟩
  rintro i hi
  cbv
  split
  case h_1 => rename_i hh; exact absurd hh (by rw [hH]; simp; omega)
  cbv
  generalize e_16 : H Bool _ = b_17
  simp only [hH] at e_16
  replace e_16 := boolN e_16
  obtain rfl : b_17 = false := Bool.eq_false_iff.2 fun q => absurd (e_16.1 q) (by decide)
  exact fin (h := ⟨_, ⟨rfl, rfl⟩⟩)
end Go.Proofs.Ytilmhjojbolbeaa.AM

namespace Go.Proofs.Ytilmhjojbolbeaa.AM
open Go
set_option maxRecDepth 100000
set_option maxHeartbeats 4000000
section
variable {d n n' x : Int} {zs cs a b : Ix → Int} {fa fb f1 f2 : Bool} {Z C : List Int}
/-- all stand in whole ranges -/
def allB (Z C : List Int) : Bool := C.all fun x => ofOk Z C x
theorem allB_iff : allB Z C = true ↔ AllOk Z C := by simp [allB, AllOk]
theorem ints_uq (h1 : Uq C n a) (h2 : Uq C n' b) (hn : 0 ≤ n ∧ n ≤ 1000000000) (hn' : 0 ≤ n' ∧ n' ≤ 1000000000) : TriS Try.prog 18 [.l n [.i .i64 fun ix => a ((AM.hd ix + 0) :: ix.tail)] fa, .l n' [.i .i64 fun ix => b ((AM.hd ix + 0) :: ix.tail)] fb] [] (fun r σ => r = .b true ∧ σ = []) := by
  have e := h1.eq h2
  have e2 := congrArg List.length e
  rw [rng_len, rng_len] at e2
  obtain rfl : n = n' := by omega
  exact ints_yes n _ _ fa fb hn (by rw [rng_fr0, rng_fr0]; exact e)
theorem ofS (hd : 0 ≤ d ∧ d ≤ 20) (hn : 0 ≤ n ∧ n ≤ 300) (hz : rng d zs = Z) (hc : rng n cs = C) (h : ofB Z C = true) : TriS Try.prog 12 [.l d [.i .i64 zs] f1, .l n [.i .i64 cs] f2] [] (fun r σ => ∃ zs' cs', rng d zs' = Z ∧ rng n cs' = C ∧ r = .tu [.pt 100 0, .i .i64 0] ∧ σ = slabS 100 101 102 d n zs' cs') :=
  (of_ok d n zs cs f1 f2 (by omega) (by omega) (by rw [hz, hc]; exact h)).mono' fun r σ ⟨z, c, h1, h2, h⟩ => ⟨z, c, h1.trans hz, h2.trans hc, h⟩
theorem ofR (hd : 0 ≤ d ∧ d ≤ 20) (hn : 0 ≤ n ∧ n ≤ 300) (hz : rng d zs = Z) (hc : rng n cs = C) (h : ofB Z C = true) : TriS Try.prog 13 [.l d [.i .i64 zs] f1, .l n [.i .i64 cs] f2] [] (fun r σ => ∃ zs' cs', rng d zs' = Z ∧ rng n cs' = C ∧ r = .tu [.pt 100 0, .i .i64 0] ∧ σ = slabR 100 101 102 d n zs' cs') :=
  (ofR_ok d n zs cs f1 f2 (by omega) (by omega) (by rw [hz, hc]; exact h)).mono' fun r σ ⟨z, c, h1, h2, h⟩ => ⟨z, c, h1.trans hz, h2.trans hc, h⟩
theorem scellsS (hw : Wf Z C) (hz : rng d zs = Z) (hc : rng n cs = C) : TriS Try.prog 19 [.pt 0 0] (slabS 0 1 2 d n zs cs) (fun r σ => ∃ c : Ix → Int, rng n c = C ∧ r = .sl 100 0 n 1 false ∧ σ = slabS 0 1 2 d n zs cs ++ [(100, .ar n [.i .i64 c] 3)]) :=
  (scells_tri d n zs cs (by rw [hz, hc]; exact hw)).mono' fun r σ ⟨c, h, h'⟩ => ⟨c, (rng_congr h).trans hc, h'⟩
theorem allS (hw : Wf Z C) (hz : rng d zs = Z) (hc : rng n cs = C) {A : Bool} (hA : allB Z C = A) : TriS Try.prog 15 [.pt 0 0] (slabS 0 1 2 d n zs cs)
    (fun r σ => ∃ (m : Int) (g : Ix → Int), (0 ≤ m ∧ m ≤ n) ∧ Uq C m g ∧ r = .tu [.sl 100 0 m 1 false, .b A] ∧ σ = slabS 0 1 2 d n zs cs ++ [(100, .ar n [.i .i64 g] 3)]) :=
  (all_tri d n zs cs (by rw [hz, hc]; exact hw)).mono' fun r σ ⟨m, g, b, hm, hu, hb, h1, h2⟩ => by
    rw [hz, hc, ← allB_iff, hA] at hb
    obtain rfl : b = A := by cases b <;> cases A <;> simp_all
    exact ⟨m, g, hm, hc ▸ hu, h1, h2⟩
theorem allR (hw : Wf Z C) (hz : rng d zs = Z) (hc : rng n cs = C) {A : Bool} (hA : allB Z C = A) : TriS Try.prog 17 [.pt 0 0] (slabR 0 1 2 d n zs cs)
    (fun r σ => ∃ (m : Int) (g : Ix → Int), (0 ≤ m ∧ m ≤ n) ∧ Uq C m g ∧ r = .tu [.sl 100 0 m 1 false, .b A] ∧ σ = slabR 0 1 2 d n zs cs ++ [(100, .ar m [.i .i64 g] 3)]) :=
  (allR_tri d n zs cs (by rw [hz, hc]; exact hw)).mono' fun r σ ⟨m, g, b, hm, hu, hb, h1, h2⟩ => by
    rw [hz, hc, ← allB_iff, hA] at hb
    obtain rfl : b = A := by cases b <;> cases A <;> simp_all
    exact ⟨m, g, hm, hc ▸ hu, h1, h2⟩
theorem ofS_yes (hw : Wf Z C) (hz : rng d zs = Z) (hc : rng n cs = C) (h : ofOk Z C x = true) : TriS Try.prog 14 [.pt 0 0, .i .i64 x] (slabS 0 1 2 d n zs cs)
    (fun r σ => ∃ lc hc : Ix → Int, rng d lc = mnC Z C x ∧ rng d hc = mxC Z C x ∧ r = .tu [.sl 100 0 d 1 false, .sl 101 0 d 1 false, .b true] ∧ σ = slabS 0 1 2 d n zs cs ++ [(100, .ar d [.i .i64 lc] 3), (101, .ar d [.i .i64 hc] 3)]) := by
  subst hz hc
  exact of_yes d n x zs cs hw h
theorem ofS_no (hw : Wf Z C) (hz : rng d zs = Z) (hc : rng n cs = C) (h : ofOk Z C x = false) : TriS Try.prog 14 [.pt 0 0, .i .i64 x] (slabS 0 1 2 d n zs cs) (fun r σ => r = .tu [.l 0 [] true, .l 0 [] true, .b false] ∧ σ = slabS 0 1 2 d n zs cs) := by
  subst hz hc
  exact of_no d n x zs cs hw h
theorem ofR_yes (hw : Wf Z C) (hz : rng d zs = Z) (hc : rng n cs = C) (h : ofOk Z C x = true) : TriS Try.prog 16 [.pt 0 0, .i .i64 x] (slabR 0 1 2 d n zs cs)
    (fun r σ => ∃ lc hc : Ix → Int, rng d lc = mnC Z C x ∧ rng d hc = mxC Z C x ∧ r = .tu [.sl 100 0 d 1 false, .sl 101 0 d 1 false, .b true] ∧ σ = slabR 0 1 2 d n zs cs ++ [(100, .ar d [.i .i64 lc] 3), (101, .ar d [.i .i64 hc] 3)]) := by
  subst hz hc
  exact (ofR_tri d n x zs cs hw).mono' fun r σ h' => by
    rcases h' with h' | h'
    · exact h'.2
    · rw [h] at h'; cases h'.1
theorem ofR_no (hw : Wf Z C) (hz : rng d zs = Z) (hc : rng n cs = C) (h : ofOk Z C x = false) : TriS Try.prog 16 [.pt 0 0, .i .i64 x] (slabR 0 1 2 d n zs cs) (fun r σ => r = .tu [.l 0 [] true, .l 0 [] true, .b false] ∧ σ = slabR 0 1 2 d n zs cs) := by
  subst hz hc
  exact (ofR_tri d n x zs cs hw).mono' fun r σ h' => by
    rcases h' with h' | h'
    · rw [h] at h'; cases h'.1
    · exact h'.2
theorem ints_none : TriS Try.prog 18 [.l 0 [] true, .l 0 [] true] [] (fun r σ => r = .b true ∧ σ = []) := by
  have hz := ints_yes 0 (fun _ => 0) (fun _ => 0) true true (by omega) rfl
  refine ⟨hz.1, fun X g w vs hX hob hvs => hz.2 X g w vs hX hob ?_⟩
  match vs, hvs with
  | v1 :: v2 :: vs, ⟨h1, h2, h3⟩ => exact ⟨rv_nil h1, rv_nil h2, h3⟩
end
section
variable (d n x : Int) (zs cs : Ix → Int)
theorem finds_big (h : ¬ (d ≤ 20 ∧ n ≤ 300)) : TriS Try.prog 3 [.l d [.i .i64 zs] false, .l n [.i .i64 cs] false, .i .i64 x] [] (fun r _ => r = .b true) := by
  have hlv := live14
  refine tri_of TT_ok mixed (OR := ORD3) (fn := Try.f3) (c := body Try.f3) (by kernel_rfl) (by kernel_rfl) (by kernel_rfl) (by kernel_rfl) (by simp [Try.f3]) fun H Tri hH hTri => ?_
  cbv
  split
  · rename_i h_1
    simp only [hH, decide_eq_true_eq] at h_1
    cbv
    generalize e_2 : H Bool _ = b_3
    simp only [hH] at e_2
    replace e_2 := boolN e_2
    refine cal [] (t := hTri _ _ _ _ hlv) (k := ?k_4)
    rintro r_5 σ_6 ⟨rfl, rfl⟩
    cbv
    exact fin (σ := []) (h := rfl)
  · rename_i h_7
    simp only [hH, decide_eq_false_iff_not, Int.not_lt, Int.not_le] at h_7
    cbv
    split
    case h_2 => rename_i hh; exact absurd hh (by rw [hH]; simp; omega)
    cbv
    generalize e_8 : H Bool _ = b_9
    simp only [hH] at e_8
    replace e_8 := boolN e_8
    generalize e_10 : H Bool _ = b_11
    simp only [hH] at e_10
    replace e_10 := boolN e_10
    refine cal [] (t := hTri _ _ _ _ hlv) (k := ?k_12)
    rintro r_13 σ_14 ⟨rfl, rfl⟩
    cbv
    exact fin (σ := []) (h := rfl)
theorem finds_bad (hd : 0 ≤ d ∧ d ≤ 20) (hn : 0 ≤ n ∧ n ≤ 300) (h : ofB (rng d zs) (rng n cs) = false) : TriS Try.prog 3 [.l d [.i .i64 zs] false, .l n [.i .i64 cs] false, .i .i64 x] [] (fun r _ => r = .b true) := by
  have hlv := live14
  have h1 := of_bad d n zs cs false false (by omega) (by omega) h
  have h2 := ofR_bad d n zs cs false false (by omega) (by omega) h
  refine tri_of TT_ok mixed (OR := ORD3) (fn := Try.f3) (c := body Try.f3) (by kernel_rfl) (by kernel_rfl) (by kernel_rfl) (by kernel_rfl) (by simp [Try.f3]) fun H Tri hH hTri => ?_
  cbv
  split
  case h_1 => rename_i hh; exact absurd hh (by rw [hH]; simp; omega)
  cbv
  split
  case h_1 => rename_i hh; exact absurd hh (by rw [hH]; simp; omega)
  cbv
  generalize e_1 : H Bool _ = b_2
  simp only [hH] at e_1
  replace e_1 := boolN e_1
  generalize e_3 : H Bool _ = b_4
  simp only [hH] at e_3
  replace e_3 := boolN e_3
  refine cal [] (t := hTri _ _ _ _ h1) (k := ?k_5)
  rintro r_6 σ_7 ⟨rfl, rfl⟩
  cbv
  refine cal [] (t := hTri _ _ _ _ h2) (k := ?k_8)
  rintro r_9 σ_10 ⟨rfl, rfl⟩
  cbv
  split
  case h_1 => rename_i hh; exact absurd hh (by rw [hH]; simp; try omega)
  cbv
  split
  case h_1 => rename_i hh; exact absurd hh (by simp [hH])
  cbv
  generalize e_11 : H Bool _ = b_12
  simp only [hH] at e_11
  generalize e_13 : H Bool _ = b_14
  simp only [hH] at e_13
  replace e_13 := boolN e_13
  obtain rfl : b_14 = false := Bool.eq_false_iff.2 fun q => absurd (e_13.1 q) (by decide)
  refine cal [] (t := hTri _ _ _ _ (of_nil _)) (k := ?k_15)
  rintro r_16 σ_17 ⟨rfl, rfl⟩
  cbv
  refine cal [] (t := hTri _ _ _ _ all_nil) (k := ?k_18)
  rintro r_19 σ_20 ⟨x_21, ⟨rfl, rfl⟩⟩
  cbv
  split
  case h_2 => rename_i hh; exact absurd hh (by rw [hH]; simp; try omega)
  cbv
  generalize e_22 : H Bool _ = b_23
  simp only [hH] at e_22
  replace e_22 := boolN e_22
  obtain rfl : b_23 = true := e_22.2 (by decide)
  refine cal [] (t := hTri _ _ _ _ hlv) (k := ?k_24)
  rintro r_25 σ_26 ⟨rfl, rfl⟩
  cbv
  exact fin (σ := []) (h := rfl)
theorem finds_yes (Z C : List Int) (A : Bool) (hd : 0 ≤ d ∧ d ≤ 20) (hn : 0 ≤ n ∧ n ≤ 300) (hz : rng d zs = Z) (hc : rng n cs = C) (hw : Wf Z C) (h : ofB Z C = true) (hA : allB Z C = A) (ho : ofOk Z C x = true) : TriS Try.prog 3 [.l d [.i .i64 zs] false, .l n [.i .i64 cs] false, .i .i64 x] [] (fun r _ => r = .b true) := by
  have hlv := live14
  refine tri_of TT_ok mixed (OR := ORD3) (fn := Try.f3) (c := body Try.f3) (by kernel_rfl) (by kernel_rfl) (by kernel_rfl) (by kernel_rfl) (by simp [Try.f3]) fun H Tri hH hTri => ?_
  cbv
  split
  case h_1 => rename_i hh; exact absurd hh (by rw [hH]; simp; omega)
  cbv
  split
  case h_1 => rename_i hh; exact absurd hh (by rw [hH]; simp; omega)
  cbv
  generalize e_1 : H Bool _ = b_2
  simp only [hH] at e_1
  replace e_1 := boolN e_1
  generalize e_3 : H Bool _ = b_4
  simp only [hH] at e_3
  replace e_3 := boolN e_3
  refine cal [] (t := hTri _ _ _ _ (ofS (by assumption) (by assumption) (by assumption) (by assumption) (by assumption))) (k := ?k_5)
  rintro r_6 σ_7 ⟨x_8, ⟨x_9, ⟨h_10, ⟨h_11, ⟨rfl, rfl⟩⟩⟩⟩⟩
  cbv
  refine cal [] (t := hTri _ _ _ _ (ofR (by assumption) (by assumption) (by assumption) (by assumption) (by assumption))) (k := ?k_12)
  rintro r_13 σ_14 ⟨x_15, ⟨x_16, ⟨h_17, ⟨h_18, ⟨rfl, rfl⟩⟩⟩⟩⟩
  cbv
  split
  case h_1 => rename_i hh; exact absurd hh (by rw [hH]; simp; try omega)
  cbv
  split
  case h_1 => rename_i hh; exact absurd hh (by simp [hH])
  cbv
  generalize e_19 : H Bool _ = b_20
  simp only [hH] at e_19
  generalize e_21 : H Bool _ = b_22
  simp only [hH] at e_21
  replace e_21 := boolN e_21
  obtain rfl : b_22 = false := Bool.eq_false_iff.2 fun q => absurd (e_21.1 q) (by decide)
  refine cal [200, 201, 202] (t := hTri _ _ _ _ (ofS_yes (by assumption) (by assumption) (by assumption) (by assumption))) (k := ?k_23)
  rintro r_24 σ_25 ⟨x_26, ⟨x_27, ⟨h_28, ⟨h_29, ⟨rfl, rfl⟩⟩⟩⟩⟩
  cbv
  refine cal [220, 221, 222] (t := hTri _ _ _ _ (ofR_yes (by assumption) (by assumption) (by assumption) (by assumption))) (k := ?k_30)
  rintro r_31 σ_32 ⟨x_33, ⟨x_34, ⟨h_35, ⟨h_36, ⟨rfl, rfl⟩⟩⟩⟩⟩
  cbv
  refine cal [200, 201, 202] (t := hTri _ _ _ _ (allS (by assumption) (by assumption) (by assumption) (by assumption))) (k := ?k_37)
  rintro r_38 σ_39 ⟨v_40, ⟨x_41, ⟨⟨h_42, h_43⟩, ⟨h_44, ⟨rfl, rfl⟩⟩⟩⟩⟩
  cbv
  refine cal [220, 221, 222] (t := hTri _ _ _ _ (allR (by assumption) (by assumption) (by assumption) (by assumption))) (k := ?k_45)
  rintro r_46 σ_47 ⟨v_48, ⟨x_49, ⟨⟨h_50, h_51⟩, ⟨h_52, ⟨rfl, rfl⟩⟩⟩⟩⟩
  cbv
  refine cal [] (t := hTri _ _ _ _ (ints_lit (by omega) (by assumption) (by assumption))) (k := ?k_53)
  rintro r_54 σ_55 ⟨rfl, rfl⟩
  cbv
  refine cal [] (t := hTri _ _ _ _ (ints_lit (by omega) (by assumption) (by assumption))) (k := ?k_56)
  rintro r_57 σ_58 ⟨rfl, rfl⟩
  cbv
  split
  case h_2 => rename_i hh; exact absurd hh (by rw [hH]; simp; try omega)
  cbv
  generalize e_59 : H Bool _ = b_60
  simp only [hH] at e_59
  replace e_59 := boolN e_59
  obtain rfl : b_60 = true := e_59.2 (by decide)
  refine cal [] (t := hTri _ _ _ _ (ints_uq (by assumption) (by assumption) (by omega) (by omega))) (k := ?k_61)
  rintro r_62 σ_63 ⟨rfl, rfl⟩
  cbv
  split
  case h_2 => rename_i hh; exact absurd hh (by rw [hH]; simp; try omega)
  cbv
  generalize e_64 : H Bool _ = b_65
  simp only [hH] at e_64
  replace e_64 := boolN e_64
  obtain rfl : b_65 = true := e_64.2 (by decide)
  refine cal [200, 201, 202] (t := hTri _ _ _ _ (scellsS (by assumption) (by assumption) (by assumption))) (k := ?k_66)
  rintro r_67 σ_68 ⟨x_69, ⟨h_70, ⟨rfl, rfl⟩⟩⟩
  cbv
  refine cal [] (t := hTri _ _ _ _ (ints_lit (by omega) (by assumption) (by assumption))) (k := ?k_71)
  rintro r_72 σ_73 ⟨rfl, rfl⟩
  cbv
  refine cal [] (t := hTri _ _ _ _ hlv) (k := ?k_74)
  rintro r_75 σ_76 ⟨rfl, rfl⟩
  cbv
  exact fin (σ := []) (h := rfl)
theorem finds_no (Z C : List Int) (A : Bool) (hd : 0 ≤ d ∧ d ≤ 20) (hn : 0 ≤ n ∧ n ≤ 300) (hz : rng d zs = Z) (hc : rng n cs = C) (hw : Wf Z C) (h : ofB Z C = true) (hA : allB Z C = A) (ho : ofOk Z C x = false) : TriS Try.prog 3 [.l d [.i .i64 zs] false, .l n [.i .i64 cs] false, .i .i64 x] [] (fun r _ => r = .b true) := by
  have hlv := live14
  refine tri_of TT_ok mixed (OR := ORD3) (fn := Try.f3) (c := body Try.f3) (by kernel_rfl) (by kernel_rfl) (by kernel_rfl) (by kernel_rfl) (by simp [Try.f3]) fun H Tri hH hTri => ?_
  cbv
  split
  case h_1 => rename_i hh; exact absurd hh (by rw [hH]; simp; omega)
  cbv
  split
  case h_1 => rename_i hh; exact absurd hh (by rw [hH]; simp; omega)
  cbv
  generalize e_1 : H Bool _ = b_2
  simp only [hH] at e_1
  replace e_1 := boolN e_1
  generalize e_3 : H Bool _ = b_4
  simp only [hH] at e_3
  replace e_3 := boolN e_3
  refine cal [] (t := hTri _ _ _ _ (ofS (by assumption) (by assumption) (by assumption) (by assumption) (by assumption))) (k := ?k_5)
  rintro r_6 σ_7 ⟨x_8, ⟨x_9, ⟨h_10, ⟨h_11, ⟨rfl, rfl⟩⟩⟩⟩⟩
  cbv
  refine cal [] (t := hTri _ _ _ _ (ofR (by assumption) (by assumption) (by assumption) (by assumption) (by assumption))) (k := ?k_12)
  rintro r_13 σ_14 ⟨x_15, ⟨x_16, ⟨h_17, ⟨h_18, ⟨rfl, rfl⟩⟩⟩⟩⟩
  cbv
  split
  case h_1 => rename_i hh; exact absurd hh (by rw [hH]; simp; try omega)
  cbv
  split
  case h_1 => rename_i hh; exact absurd hh (by simp [hH])
  cbv
  generalize e_19 : H Bool _ = b_20
  simp only [hH] at e_19
  generalize e_21 : H Bool _ = b_22
  simp only [hH] at e_21
  replace e_21 := boolN e_21
  obtain rfl : b_22 = false := Bool.eq_false_iff.2 fun q => absurd (e_21.1 q) (by decide)
  refine cal [200, 201, 202] (t := hTri _ _ _ _ (ofS_no (by assumption) (by assumption) (by assumption) (by assumption))) (k := ?k_23)
  rintro r_24 σ_25 ⟨rfl, rfl⟩
  cbv
  refine cal [220, 221, 222] (t := hTri _ _ _ _ (ofR_no (by assumption) (by assumption) (by assumption) (by assumption))) (k := ?k_26)
  rintro r_27 σ_28 ⟨rfl, rfl⟩
  cbv
  refine cal [200, 201, 202] (t := hTri _ _ _ _ (allS (by assumption) (by assumption) (by assumption) (by assumption))) (k := ?k_29)
  rintro r_30 σ_31 ⟨v_32, ⟨x_33, ⟨⟨h_34, h_35⟩, ⟨h_36, ⟨rfl, rfl⟩⟩⟩⟩⟩
  cbv
  refine cal [220, 221, 222] (t := hTri _ _ _ _ (allR (by assumption) (by assumption) (by assumption) (by assumption))) (k := ?k_37)
  rintro r_38 σ_39 ⟨v_40, ⟨x_41, ⟨⟨h_42, h_43⟩, ⟨h_44, ⟨rfl, rfl⟩⟩⟩⟩⟩
  cbv
  refine cal [] (t := hTri _ _ _ _ ints_none) (k := ?k_45)
  rintro r_46 σ_47 ⟨rfl, rfl⟩
  cbv
  refine cal [] (t := hTri _ _ _ _ ints_none) (k := ?k_48)
  rintro r_49 σ_50 ⟨rfl, rfl⟩
  cbv
  split
  case h_2 => rename_i hh; exact absurd hh (by rw [hH]; simp; try omega)
  cbv
  generalize e_51 : H Bool _ = b_52
  simp only [hH] at e_51
  replace e_51 := boolN e_51
  obtain rfl : b_52 = true := e_51.2 (by decide)
  refine cal [] (t := hTri _ _ _ _ (ints_uq (by assumption) (by assumption) (by omega) (by omega))) (k := ?k_53)
  rintro r_54 σ_55 ⟨rfl, rfl⟩
  cbv
  split
  case h_2 => rename_i hh; exact absurd hh (by rw [hH]; simp; try omega)
  cbv
  generalize e_56 : H Bool _ = b_57
  simp only [hH] at e_56
  replace e_56 := boolN e_56
  obtain rfl : b_57 = true := e_56.2 (by decide)
  refine cal [200, 201, 202] (t := hTri _ _ _ _ (scellsS (by assumption) (by assumption) (by assumption))) (k := ?k_58)
  rintro r_59 σ_60 ⟨x_61, ⟨h_62, ⟨rfl, rfl⟩⟩⟩
  cbv
  refine cal [] (t := hTri _ _ _ _ (ints_lit (by omega) (by assumption) (by assumption))) (k := ?k_63)
  rintro r_64 σ_65 ⟨rfl, rfl⟩
  cbv
  refine cal [] (t := hTri _ _ _ _ hlv) (k := ?k_66)
  rintro r_67 σ_68 ⟨rfl, rfl⟩
  cbv
  exact fin (σ := []) (h := rfl)
theorem finds_all (hd : 0 ≤ d) (hn : 0 ≤ n) : TriS Try.prog 3 [.l d [.i .i64 zs] false, .l n [.i .i64 cs] false, .i .i64 x] [] (fun r _ => r = .b true) := by
  by_cases h : d ≤ 20 ∧ n ≤ 300
  case neg => exact finds_big d n x zs cs h
  cases hb : ofB (rng d zs) (rng n cs) with
  | false => exact finds_bad d n x zs cs (by omega) (by omega) hb
  | true =>
    cases ho : ofOk (rng d zs) (rng n cs) x with
    | true => exact finds_yes d n x zs cs _ _ _ (by omega) (by omega) rfl rfl (ofB_wf hb) hb rfl ho
    | false => exact finds_no d n x zs cs _ _ _ (by omega) (by omega) rfl rfl (ofB_wf hb) hb rfl ho
end
end Go.Proofs.Ytilmhjojbolbeaa.AM

namespace Go.Proofs.Ytilmhjojbolbeaa.AM
open Go
set_option maxRecDepth 100000
set_option maxHeartbeats 4000000
section
variable {d n k1 k2 i x : Int} {zs cs lo hi : Ix → Int} {f1 f2 : Bool} {Z C L U : List Int}
theorem top_ne (hc : rng n cs = C) (hb : ∀ j, 0 ≤ j → j < i → cs [j] < x) (hi : n ≤ i) : ∀ q, q < C.length → rd C q ≠ x := by
  subst hc
  intro q hq
  rw [rng_len] at hq
  have := hb (q : Int) (by omega) (by omega)
  rw [rd_rng (by omega)]
  omega
theorem max_top {a v : Int} (e : (if x < IntKind.i64.wrap (a + 1) then IntKind.i64.wrap (a + 1) else x) = v) (ha : -1000000000 ≤ a ∧ a ≤ 1000000000) : x ≤ v ∧ a < v ∧ (v = x ∨ v = a + 1) := by
  rw [IntWalk.i64_in (a + 1) (by omega)] at e
  split at e <;> omega
theorem top_next {a v i' : Int} (hb : ∀ j, 0 ≤ j → j < i → cs [j] < x) (e : (if x < IntKind.i64.wrap (a + 1) then IntKind.i64.wrap (a + 1) else x) = v) (ha : -1000000000 ≤ a ∧ a ≤ 1000000000) (hi : i + 1 = i') (hv : cs [i] = a) : ∀ j, 0 ≤ j → j < i' → cs [j] < v := fun j h0 h1 => by
  have h := max_top e ha
  by_cases q : j = i
  · subst q; omega
  · have := hb j h0 (by omega); omega
theorem fillS_ok (hd : 0 ≤ d ∧ d ≤ 20) (hz : rng d zs = Z) (hc : rng n cs = C) (hL : rng d lo = L) (hU : rng d hi = U) (hw : Wf Z C) (hm : mayB Z L U = true) :
    TriS Try.prog 24 [.pt 0 0, .l d [.i .i64 lo] f1, .l d [.i .i64 hi] f2, .i .i64 x] (slabS 0 1 2 d n zs cs) (fun r σ => ∃ c', rng n c' = fillL Z C L U x ∧ r = .i .i64 0 ∧ σ = slabS 0 1 2 d n zs c') := by
  subst hz hc hL hU
  exact sfill_ok d n x zs cs lo hi f1 f2 d d (by omega) (by omega) hw hm
theorem fillS_bad (hz : rng d zs = Z) (hc : rng n cs = C) (hL : rng k1 lo = L) (hU : rng k2 hi = U) (hk1 : 0 ≤ k1 ∧ k1 ≤ 20) (hk2 : 0 ≤ k2 ∧ k2 ≤ 20) (hw : Wf Z C) (hm : mayB Z L U = false) :
    TriS Try.prog 24 [.pt 0 0, .l k1 [.i .i64 lo] f1, .l k2 [.i .i64 hi] f2, .i .i64 x] (slabS 0 1 2 d n zs cs) (fun r σ => r = .i .i64 1 ∧ σ = slabS 0 1 2 d n zs cs) := by
  subst hz hc hL hU
  exact sfill_bad d n x zs cs lo hi f1 f2 k1 k2 (by omega) (by omega) hw hm
theorem of_fill (hz : rng d zs = Z) (hc : rng n cs = fillL Z C L U x) (hw : Wf Z C) (hm : mayB Z L U = true) (hx : ∀ q, q < C.length → rd C q ≠ x) : TriS Try.prog 14 [.pt 0 0, .i .i64 x] (slabS 0 1 2 d n zs cs)
    (fun r σ => ∃ lc hc : Ix → Int, rng d lc = L ∧ rng d hc = U ∧ r = .tu [.sl 100 0 d 1 false, .sl 101 0 d 1 false, .b true] ∧ σ = slabS 0 1 2 d n zs cs ++ [(100, .ar d [.i .i64 lc] 3), (101, .ar d [.i .i64 hc] 3)]) :=
  (ofS_yes (fill_wf hw) hz hc (filled_ok hw hm hx)).mono' fun r σ ⟨l, u, h1, h2, h⟩ => ⟨l, u, h1.trans (filled_mC hw hm hx).1, h2.trans (filled_mC hw hm hx).2, h⟩
theorem of_free (hz : rng d zs = Z) (hc : rng n cs = C) (hw : Wf Z C) (hx : ∀ q, q < C.length → rd C q ≠ x) : TriS Try.prog 14 [.pt 0 0, .i .i64 x] (slabS 0 1 2 d n zs cs) (fun r σ => r = .tu [.l 0 [] true, .l 0 [] true, .b false] ∧ σ = slabS 0 1 2 d n zs cs) :=
  ofS_no hw hz hc (none_ok hx)
end
section
variable (d n k1 k2 : Int) (zs cs lo hi : Ix → Int)
theorem filled_big (h : ¬ (d ≤ 20 ∧ n ≤ 300 ∧ k1 ≤ 20 ∧ k2 ≤ 20)) : TriS Try.prog 7 [.ag [.l d [.i .i64 zs] false, .l n [.i .i64 cs] false, .l k1 [.i .i64 lo] false, .l k2 [.i .i64 hi] false]] [] (fun r _ => r = .b true) := by
  have hlv := live14
  refine tri_of TT_ok mixed (OR := ORD7) (fn := Try.f7) (c := body Try.f7) (by kernel_rfl) (by kernel_rfl) (by kernel_rfl) (by kernel_rfl) (by simp [Try.f7]) fun H Tri hH hTri => ?_
  cbv
  split
  · rename_i h_1
    simp only [hH, decide_eq_true_eq] at h_1
    cbv
    generalize e_2 : H Bool _ = b_3
    simp only [hH] at e_2
    replace e_2 := boolN e_2
    refine cal [] (t := hTri _ _ _ _ hlv) (k := ?k_4)
    rintro r_5 σ_6 ⟨rfl, rfl⟩
    cbv
    exact fin (σ := []) (h := rfl)
  · rename_i h_7
    simp only [hH, decide_eq_false_iff_not, Int.not_lt, Int.not_le] at h_7
    cbv
    split
    · rename_i h_8
      simp only [hH, decide_eq_true_eq] at h_8
      cbv
      generalize e_9 : H Bool _ = b_10
      simp only [hH] at e_9
      replace e_9 := boolN e_9
      generalize e_11 : H Bool _ = b_12
      simp only [hH] at e_11
      replace e_11 := boolN e_11
      refine cal [] (t := hTri _ _ _ _ hlv) (k := ?k_13)
      rintro r_14 σ_15 ⟨rfl, rfl⟩
      cbv
      exact fin (σ := []) (h := rfl)
    · rename_i h_16
      simp only [hH, decide_eq_false_iff_not, Int.not_lt, Int.not_le] at h_16
      cbv
      split
      · rename_i h_17
        simp only [hH, decide_eq_true_eq] at h_17
        cbv
        generalize e_18 : H Bool _ = b_19
        simp only [hH] at e_18
        replace e_18 := boolN e_18
        generalize e_20 : H Bool _ = b_21
        simp only [hH] at e_20
        replace e_20 := boolN e_20
        generalize e_22 : H Bool _ = b_23
        simp only [hH] at e_22
        replace e_22 := boolN e_22
        refine cal [] (t := hTri _ _ _ _ hlv) (k := ?k_24)
        rintro r_25 σ_26 ⟨rfl, rfl⟩
        cbv
        exact fin (σ := []) (h := rfl)
      · rename_i h_27
        simp only [hH, decide_eq_false_iff_not, Int.not_lt, Int.not_le] at h_27
        cbv
        split
        case h_2 => rename_i hh; exact absurd hh (by rw [hH]; simp; omega)
        cbv
        generalize e_28 : H Bool _ = b_29
        simp only [hH] at e_28
        replace e_28 := boolN e_28
        generalize e_30 : H Bool _ = b_31
        simp only [hH] at e_30
        replace e_30 := boolN e_30
        generalize e_32 : H Bool _ = b_33
        simp only [hH] at e_32
        replace e_32 := boolN e_32
        generalize e_34 : H Bool _ = b_35
        simp only [hH] at e_34
        replace e_34 := boolN e_34
        refine cal [] (t := hTri _ _ _ _ hlv) (k := ?k_36)
        rintro r_37 σ_38 ⟨rfl, rfl⟩
        cbv
        exact fin (σ := []) (h := rfl)
theorem filled_bad (hd : 0 ≤ d ∧ d ≤ 20) (hn : 0 ≤ n ∧ n ≤ 300) (hk1 : 0 ≤ k1 ∧ k1 ≤ 20) (hk2 : 0 ≤ k2 ∧ k2 ≤ 20) (h : ofB (rng d zs) (rng n cs) = false) : TriS Try.prog 7 [.ag [.l d [.i .i64 zs] false, .l n [.i .i64 cs] false, .l k1 [.i .i64 lo] false, .l k2 [.i .i64 hi] false]] [] (fun r _ => r = .b true) := by
  have hlv := live14
  have h1 := of_bad d n zs cs false false (by omega) (by omega) h
  refine tri_of TT_ok mixed (OR := ORD7) (fn := Try.f7) (c := body Try.f7) (by kernel_rfl) (by kernel_rfl) (by kernel_rfl) (by kernel_rfl) (by simp [Try.f7]) fun H Tri hH hTri => ?_
  cbv
  split
  case h_1 => rename_i hh; exact absurd hh (by rw [hH]; simp; omega)
  cbv
  split
  case h_1 => rename_i hh; exact absurd hh (by rw [hH]; simp; omega)
  cbv
  split
  case h_1 => rename_i hh; exact absurd hh (by rw [hH]; simp; omega)
  cbv
  split
  case h_1 => rename_i hh; exact absurd hh (by rw [hH]; simp; omega)
  cbv
  generalize e_1 : H Bool _ = b_2
  simp only [hH] at e_1
  replace e_1 := boolN e_1
  generalize e_3 : H Bool _ = b_4
  simp only [hH] at e_3
  replace e_3 := boolN e_3
  generalize e_5 : H Bool _ = b_6
  simp only [hH] at e_5
  replace e_5 := boolN e_5
  generalize e_7 : H Bool _ = b_8
  simp only [hH] at e_7
  replace e_7 := boolN e_7
  refine cal [] (t := hTri _ _ _ _ h1) (k := ?k_9)
  rintro r_10 σ_11 ⟨rfl, rfl⟩
  cbv
  split
  case h_2 => rename_i hh; exact absurd hh (by rw [hH]; simp; try omega)
  cbv
  generalize e_12 : H Bool _ = b_13
  simp only [hH] at e_12
  replace e_12 := boolN e_12
  obtain rfl : b_13 = true := e_12.2 (by decide)
  refine cal [] (t := hTri _ _ _ _ hlv) (k := ?k_14)
  rintro r_15 σ_16 ⟨rfl, rfl⟩
  cbv
  exact fin (σ := []) (h := rfl)
theorem filled_not (Z C L U : List Int) (hd : 0 ≤ d ∧ d ≤ 20) (hn : 0 ≤ n ∧ n ≤ 300) (hk1 : 0 ≤ k1 ∧ k1 ≤ 20) (hk2 : 0 ≤ k2 ∧ k2 ≤ 20) (hz : rng d zs = Z) (hc : rng n cs = C) (hL : rng k1 lo = L) (hU : rng k2 hi = U) (hw : Wf Z C) (h : ofB Z C = true) (hm : mayB Z L U = false) : TriS Try.prog 7 [.ag [.l d [.i .i64 zs] false, .l n [.i .i64 cs] false, .l k1 [.i .i64 lo] false, .l k2 [.i .i64 hi] false]] [] (fun r _ => r = .b true) := by
  have hlv := live14
  refine tri_of TT_ok mixed (OR := ORD7) (fn := Try.f7) (c := body Try.f7) (by kernel_rfl) (by kernel_rfl) (by kernel_rfl) (by kernel_rfl) (by simp [Try.f7]) fun H Tri hH hTri => ?_
  cbv
  split
  case h_1 => rename_i hh; exact absurd hh (by rw [hH]; simp; omega)
  cbv
  split
  case h_1 => rename_i hh; exact absurd hh (by rw [hH]; simp; omega)
  cbv
  split
  case h_1 => rename_i hh; exact absurd hh (by rw [hH]; simp; omega)
  cbv
  split
  case h_1 => rename_i hh; exact absurd hh (by rw [hH]; simp; omega)
  cbv
  generalize e_1 : H Bool _ = b_2
  simp only [hH] at e_1
  replace e_1 := boolN e_1
  generalize e_3 : H Bool _ = b_4
  simp only [hH] at e_3
  replace e_3 := boolN e_3
  generalize e_5 : H Bool _ = b_6
  simp only [hH] at e_5
  replace e_5 := boolN e_5
  generalize e_7 : H Bool _ = b_8
  simp only [hH] at e_7
  replace e_7 := boolN e_7
  refine cal [] (t := hTri _ _ _ _ (ofS (by assumption) (by assumption) (by assumption) (by assumption) (by assumption))) (k := ?k_9)
  rintro r_10 σ_11 ⟨x_12, ⟨x_13, ⟨h_14, ⟨h_15, ⟨rfl, rfl⟩⟩⟩⟩⟩
  cbv
  split
  case h_1 => rename_i hh; exact absurd hh (by rw [hH]; simp; try omega)
  cbv
  refine' ⟨0, Int × Int, fun ((i, x) : Int × Int) => ⟨[(7, V.pt 201 0), (6, V.l k2 [AM.C.i IntKind.i64 hi] false), (5, V.l k1 [AM.C.i IntKind.i64 lo] false), (4, V.l n [AM.C.i IntKind.i64 cs] false), (10, .i .i64 i), (9, .i .i64 x), (2, V.b false)], [(201, O.st [V.sl 202 0 d 1 false, V.sl 203 0 n 1 false] 81), (202, O.ar d [AM.C.i IntKind.i64 x_12] 3), (203, O.ar n [AM.C.i IntKind.i64 x_13] 3), (100, O.st [V.l d [AM.C.i IntKind.i64 zs] false, V.l n [AM.C.i IntKind.i64 cs] false, V.l k1 [AM.C.i IntKind.i64 lo] false, V.l k2 [AM.C.i IntKind.i64 hi] false] 52)], 204⟩, fun ((i, x) : Int × Int) => (0 ≤ i ∧ i ≤ n) ∧ (0 ≤ x ∧ x ≤ 1000000001) ∧ (∀ j, 0 ≤ j → j < i → cs [j] < x), fun ((i, x) : Int × Int) => (n - i).toNat, ⟨(0, 0), ⟨(by omega), (by omega), (by omega)⟩, q3⟩, ?r_16⟩
  rintro ⟨i, x⟩ ⟨hi1, hx, hb⟩
  cbv
  split
  · rename_i h_17
    simp only [hH, decide_eq_true_eq] at h_17
    cbv
    generalize e_18 : H Int _ = v_19
    simp only [hH, zeroS] at e_18
    generalize e_20 : (fun ix => cs (i :: ix)) = c_21
    refine ⟨by rw [hH]; simp; omega, ?_⟩
    cbv
    split
    · rename_i h_22
      simp only [hH, decide_eq_true_eq] at h_22
      cbv
      generalize e_23 : H Bool _ = b_24
      simp only [hH] at e_23
      replace e_23 := boolN e_23
      generalize e_25 : H Bool _ = b_26
      simp only [hH] at e_25
      replace e_25 := boolN e_25
      refine cal [] (t := hTri _ _ _ _ hlv) (k := ?k_27)
      rintro r_28 σ_29 ⟨rfl, rfl⟩
      cbv
      exact fin (σ := []) (h := rfl)
    · rename_i h_30
      simp only [hH, decide_eq_false_iff_not, Int.not_lt, Int.not_le] at h_30
      cbv
      generalize e_31 : H Int _ = v_32
      simp only [hH, zeroS] at e_31
      obtain rfl := Eq.trans (Eq.symm e_18) e_31
      generalize e_33 : (fun ix => cs (i :: ix)) = c_34
      refine ⟨by rw [hH]; simp; omega, ?_⟩
      cbv
      split
      · rename_i h_35
        simp only [hH, decide_eq_true_eq] at h_35
        cbv
        generalize e_36 : H Bool _ = b_37
        simp only [hH] at e_36
        replace e_36 := boolN e_36
        generalize e_38 : H Bool _ = b_39
        simp only [hH] at e_38
        replace e_38 := boolN e_38
        generalize e_40 : H Bool _ = b_41
        simp only [hH] at e_40
        replace e_40 := boolN e_40
        refine cal [] (t := hTri _ _ _ _ hlv) (k := ?k_42)
        rintro r_43 σ_44 ⟨rfl, rfl⟩
        cbv
        exact fin (σ := []) (h := rfl)
      · rename_i h_45
        simp only [hH, decide_eq_false_iff_not, Int.not_lt, Int.not_le] at h_45
        cbv
        generalize e_46 : H Int _ = v_47
        simp only [hH, zeroS] at e_46
        replace e_46 := (IntWalk.i64_in _ (by omega)).symm.trans e_46
        generalize e_48 : H Int _ = v_49
        simp only [hH, zeroS] at e_48
        rw [e_18] at e_48
        generalize e_50 : H Int _ = v_51
        simp only [hH, zeroS] at e_50
        rw [e_18] at e_50
        replace e_50 := (IntWalk.i64_in _ (by omega)).symm.trans e_50
        generalize e_52 : H Int _ = v_53
        simp only [hH, zeroS] at e_52
        obtain rfl := Eq.trans (Eq.symm e_18) e_52
        generalize e_54 : (fun ix => cs (i :: ix)) = c_55
        refine ⟨by rw [hH]; simp; omega, ?_⟩
        cbv
        exact rnd (_, _) (h := ⟨⟨(by omega), (by omega)⟩, ⟨⟨(by omega), (by ((have := max_top ‹(if _ then _ else _) = _› (by omega); omega)))⟩, (by (exact top_next hb ‹(if _ then _ else _) = _› (by omega) ‹_› ‹_›))⟩⟩) (s := q3)
  · rename_i h_56
    simp only [hH, decide_eq_false_iff_not, Int.not_lt, Int.not_le] at h_56
    cbv
    generalize e_57 : H Bool _ = b_58
    simp only [hH] at e_57
    replace e_57 := boolN e_57
    refine cal [201, 202, 203] (t := hTri _ _ _ _ (fillS_bad (by assumption) (by assumption) (by assumption) (by assumption) (by assumption) (by assumption) (by assumption) (by assumption))) (k := ?k_59)
    rintro r_60 σ_61 ⟨rfl, rfl⟩
    cbv
    split
    case h_2 => rename_i hh; exact absurd hh (by rw [hH]; simp; try omega)
    cbv
    generalize e_62 : H Bool _ = b_63
    simp only [hH] at e_62
    replace e_62 := boolN e_62
    obtain rfl : b_63 = true := e_62.2 (by decide)
    refine cal [201, 202, 203] (t := hTri _ _ _ _ (of_free (by assumption) (by assumption) (by assumption) (by (exact top_ne hc hb (by omega))))) (k := ?k_64)
    rintro r_65 σ_66 ⟨rfl, rfl⟩
    cbv
    refine cal [] (t := hTri _ _ _ _ hlv) (k := ?k_67)
    rintro r_68 σ_69 ⟨rfl, rfl⟩
    cbv
    exact fin (σ := []) (h := rfl)
theorem filled_yes (Z C L U : List Int) (hd : 0 ≤ d ∧ d ≤ 20) (hn : 0 ≤ n ∧ n ≤ 300) (hz : rng d zs = Z) (hc : rng n cs = C) (hL : rng d lo = L) (hU : rng d hi = U) (hw : Wf Z C) (h : ofB Z C = true) (hm : mayB Z L U = true) : TriS Try.prog 7 [.ag [.l d [.i .i64 zs] false, .l n [.i .i64 cs] false, .l d [.i .i64 lo] false, .l d [.i .i64 hi] false]] [] (fun r _ => r = .b true) := by
  have hlv := live14
  refine tri_of TT_ok mixed (OR := ORD7) (fn := Try.f7) (c := body Try.f7) (by kernel_rfl) (by kernel_rfl) (by kernel_rfl) (by kernel_rfl) (by simp [Try.f7]) fun H Tri hH hTri => ?_
  cbv
  split
  case h_1 => rename_i hh; exact absurd hh (by rw [hH]; simp; omega)
  cbv
  split
  case h_1 => rename_i hh; exact absurd hh (by rw [hH]; simp; omega)
  cbv
  split
  case h_1 => rename_i hh; exact absurd hh (by rw [hH]; simp; omega)
  cbv
  split
  case h_1 => rename_i hh; exact absurd hh (by rw [hH]; simp; omega)
  cbv
  generalize e_1 : H Bool _ = b_2
  simp only [hH] at e_1
  replace e_1 := boolN e_1
  generalize e_3 : H Bool _ = b_4
  simp only [hH] at e_3
  replace e_3 := boolN e_3
  refine cal [] (t := hTri _ _ _ _ (ofS (by assumption) (by assumption) (by assumption) (by assumption) (by assumption))) (k := ?k_5)
  rintro r_6 σ_7 ⟨x_8, ⟨x_9, ⟨h_10, ⟨h_11, ⟨rfl, rfl⟩⟩⟩⟩⟩
  cbv
  split
  case h_1 => rename_i hh; exact absurd hh (by rw [hH]; simp; try omega)
  cbv
  refine' ⟨0, Int × Int, fun ((i, x) : Int × Int) => ⟨[(7, V.pt 201 0), (6, V.l d [AM.C.i IntKind.i64 hi] false), (5, V.l d [AM.C.i IntKind.i64 lo] false), (4, V.l n [AM.C.i IntKind.i64 cs] false), (10, .i .i64 i), (9, .i .i64 x), (2, V.b false)], [(201, O.st [V.sl 202 0 d 1 false, V.sl 203 0 n 1 false] 81), (202, O.ar d [AM.C.i IntKind.i64 x_8] 3), (203, O.ar n [AM.C.i IntKind.i64 x_9] 3), (100, O.st [V.l d [AM.C.i IntKind.i64 zs] false, V.l n [AM.C.i IntKind.i64 cs] false, V.l d [AM.C.i IntKind.i64 lo] false, V.l d [AM.C.i IntKind.i64 hi] false] 52)], 204⟩, fun ((i, x) : Int × Int) => (0 ≤ i ∧ i ≤ n) ∧ (0 ≤ x ∧ x ≤ 1000000001) ∧ (∀ j, 0 ≤ j → j < i → cs [j] < x), fun ((i, x) : Int × Int) => (n - i).toNat, ⟨(0, 0), ⟨(by omega), (by omega), (by omega)⟩, q3⟩, ?r_12⟩
  rintro ⟨i, x⟩ ⟨hi1, hx, hb⟩
  cbv
  split
  · rename_i h_13
    simp only [hH, decide_eq_true_eq] at h_13
    cbv
    generalize e_14 : H Int _ = v_15
    simp only [hH, zeroS] at e_14
    generalize e_16 : (fun ix => cs (i :: ix)) = c_17
    refine ⟨by rw [hH]; simp; omega, ?_⟩
    cbv
    split
    · rename_i h_18
      simp only [hH, decide_eq_true_eq] at h_18
      cbv
      generalize e_19 : H Bool _ = b_20
      simp only [hH] at e_19
      replace e_19 := boolN e_19
      generalize e_21 : H Bool _ = b_22
      simp only [hH] at e_21
      replace e_21 := boolN e_21
      refine cal [] (t := hTri _ _ _ _ hlv) (k := ?k_23)
      rintro r_24 σ_25 ⟨rfl, rfl⟩
      cbv
      exact fin (σ := []) (h := rfl)
    · rename_i h_26
      simp only [hH, decide_eq_false_iff_not, Int.not_lt, Int.not_le] at h_26
      cbv
      generalize e_27 : H Int _ = v_28
      simp only [hH, zeroS] at e_27
      obtain rfl := Eq.trans (Eq.symm e_14) e_27
      generalize e_29 : (fun ix => cs (i :: ix)) = c_30
      refine ⟨by rw [hH]; simp; omega, ?_⟩
      cbv
      split
      · rename_i h_31
        simp only [hH, decide_eq_true_eq] at h_31
        cbv
        generalize e_32 : H Bool _ = b_33
        simp only [hH] at e_32
        replace e_32 := boolN e_32
        generalize e_34 : H Bool _ = b_35
        simp only [hH] at e_34
        replace e_34 := boolN e_34
        generalize e_36 : H Bool _ = b_37
        simp only [hH] at e_36
        replace e_36 := boolN e_36
        refine cal [] (t := hTri _ _ _ _ hlv) (k := ?k_38)
        rintro r_39 σ_40 ⟨rfl, rfl⟩
        cbv
        exact fin (σ := []) (h := rfl)
      · rename_i h_41
        simp only [hH, decide_eq_false_iff_not, Int.not_lt, Int.not_le] at h_41
        cbv
        generalize e_42 : H Int _ = v_43
        simp only [hH, zeroS] at e_42
        replace e_42 := (IntWalk.i64_in _ (by omega)).symm.trans e_42
        generalize e_44 : H Int _ = v_45
        simp only [hH, zeroS] at e_44
        rw [e_14] at e_44
        generalize e_46 : H Int _ = v_47
        simp only [hH, zeroS] at e_46
        rw [e_14] at e_46
        replace e_46 := (IntWalk.i64_in _ (by omega)).symm.trans e_46
        generalize e_48 : H Int _ = v_49
        simp only [hH, zeroS] at e_48
        obtain rfl := Eq.trans (Eq.symm e_14) e_48
        generalize e_50 : (fun ix => cs (i :: ix)) = c_51
        refine ⟨by rw [hH]; simp; omega, ?_⟩
        cbv
        exact rnd (_, _) (h := ⟨⟨(by omega), (by omega)⟩, ⟨⟨(by omega), (by ((have := max_top ‹(if _ then _ else _) = _› (by omega); omega)))⟩, (by (exact top_next hb ‹(if _ then _ else _) = _› (by omega) ‹_› ‹_›))⟩⟩) (s := q3)
  · rename_i h_52
    simp only [hH, decide_eq_false_iff_not, Int.not_lt, Int.not_le] at h_52
    cbv
    generalize e_53 : H Bool _ = b_54
    simp only [hH] at e_53
    replace e_53 := boolN e_53
    refine cal [201, 202, 203] (t := hTri _ _ _ _ (fillS_ok (by assumption) (by assumption) (by assumption) (by assumption) (by assumption) (by assumption) (by assumption))) (k := ?k_55)
    rintro r_56 σ_57 ⟨x_58, ⟨h_59, ⟨rfl, rfl⟩⟩⟩
    cbv
    split
    case h_1 => rename_i hh; exact absurd hh (by rw [hH]; simp; try omega)
    cbv
    generalize e_60 : H Bool _ = b_61
    simp only [hH] at e_60
    replace e_60 := boolN e_60
    obtain rfl : b_61 = false := Bool.eq_false_iff.2 fun q => absurd (e_60.1 q) (by decide)
    refine cal [201, 202, 203] (t := hTri _ _ _ _ (of_fill (by assumption) (by assumption) (by assumption) (by assumption) (by (exact top_ne hc hb (by omega))))) (k := ?k_62)
    rintro r_63 σ_64 ⟨x_65, ⟨x_66, ⟨h_67, ⟨h_68, ⟨rfl, rfl⟩⟩⟩⟩⟩
    cbv
    refine cal [] (t := hTri _ _ _ _ (ints_lit (by omega) (by assumption) (by assumption))) (k := ?k_69)
    rintro r_70 σ_71 ⟨rfl, rfl⟩
    cbv
    refine cal [] (t := hTri _ _ _ _ (ints_lit (by omega) (by assumption) (by assumption))) (k := ?k_72)
    rintro r_73 σ_74 ⟨rfl, rfl⟩
    cbv
    refine cal [] (t := hTri _ _ _ _ hlv) (k := ?k_75)
    rintro r_76 σ_77 ⟨rfl, rfl⟩
    cbv
    exact fin (σ := []) (h := rfl)
theorem filled_all (hd : 0 ≤ d) (hn : 0 ≤ n) (hk1 : 0 ≤ k1) (hk2 : 0 ≤ k2) : TriS Try.prog 7 [.ag [.l d [.i .i64 zs] false, .l n [.i .i64 cs] false, .l k1 [.i .i64 lo] false, .l k2 [.i .i64 hi] false]] [] (fun r _ => r = .b true) := by
  by_cases h : d ≤ 20 ∧ n ≤ 300 ∧ k1 ≤ 20 ∧ k2 ≤ 20
  case neg => exact filled_big d n k1 k2 zs cs lo hi h
  cases hb : ofB (rng d zs) (rng n cs) with
  | false => exact filled_bad d n k1 k2 zs cs lo hi (by omega) (by omega) (by omega) (by omega) hb
  | true =>
    cases hm : mayB (rng d zs) (rng k1 lo) (rng k2 hi) with
    | false => exact filled_not d n k1 k2 zs cs lo hi _ _ _ _ (by omega) (by omega) (by omega) (by omega) rfl rfl rfl rfl (ofB_wf hb) hb hm
    | true =>
      obtain ⟨l1, l2, -⟩ := may_facts hm
      rw [rng_len, rng_len] at l1 l2
      obtain rfl : k1 = d := by omega
      obtain rfl : k2 = k1 := by omega
      exact filled_yes k2 n zs cs lo hi _ _ _ _ (by omega) (by omega) rfl rfl rfl rfl (ofB_wf hb) hb hm
end
end Go.Proofs.Ytilmhjojbolbeaa.AM

namespace Go.Proofs.Ytilmhjojbolbeaa.AM
open Go
set_option maxRecDepth 100000
set_option maxHeartbeats 4000000
section
variable {n t s : Int} {a b x0 y0 x1 y1 c c' u v u0 u1 v0 v1 : Ix → Int} {f1 f2 f3 f4 : Bool}
theorem eqk3 (h : ∀ j, 0 ≤ j → j < n → u [j] = c [j]) : EqK n (fr0 u) n (fr0 c) := eqk2 h fun _ _ _ => rfl
theorem half_fr' (e0 : ∀ j, 0 ≤ j → j < n → u0 [j] = x0 [j]) (e1 : ∀ j, 0 ≤ j → j < n → u1 [j] = y0 [j]) (e2 : ∀ j, 0 ≤ j → j < n → v0 [j] = x1 [j]) (e3 : ∀ j, 0 ≤ j → j < n → v1 [j] = y1 [j]) (hh : Half n a b t x0 y0 x1 y1) : Half n a b t u0 u1 v0 v1 := half_fr hh e0 e1 e2 e3
theorem fr0_ix (x : Ix → Int) (j : Int) : fr0 x [j] = x [j] := by simp [fr0, AM.hd]
theorem wide_fr : Wide n (fr0 a) n (fr0 b) t ↔ Wide n a n b t := by
  have e1 : ∀ j, fr0 a [j] = a [j] := fr0_ix a
  have e2 : ∀ j, fr0 b [j] = b [j] := fr0_ix b
  simp only [Wide, BoxOk, e1, e2]
theorem half_un (h : Half n (fr0 a) (fr0 b) t x0 y0 x1 y1) : Half n a b t x0 y0 x1 y1 := by
  have e1 : ∀ j, fr0 a [j] = a [j] := fr0_ix a
  have e2 : ∀ j, fr0 b [j] = b [j] := fr0_ix b
  have e : midK (fr0 a) (fr0 b) t = midK a b t := by simp only [midK, e1, e2]
  refine ⟨fun j h0 h1 => ?_, fun j h0 h1 => ?_, fun j h0 h1 => ?_, fun j h0 h1 => ?_⟩
  · rw [h.x0 j h0 h1, fr0_ix]
  · rw [h.y0 j h0 h1, fr0_ix, e]
  · rw [h.x1 j h0 h1, fr0_ix, e]
  · rw [h.y1 j h0 h1, fr0_ix]
theorem u32_fr (h : U32 n a) : U32 n (fr0 a) := fun j h0 h1 => by rw [fr0_ix]; exact h j h0 h1
/-- a half of a box, halved -/
abbrev halfR (n : Int) (a b : Ix → Int) (s : Int) (r : V) (σ : Sto) : Prop :=
  (Wide n a n b s ∧ ∃ x0 y0 x1 y1 : Ix → Int, Half n a b s x0 y0 x1 y1 ∧ r = .tu [.ag [.sl 100 0 n 1 false, .sl 101 0 n 1 false], .ag [.sl 102 0 n 1 false, .sl 103 0 n 1 false], .b true] ∧ σ = halfS 100 102 n x0 y0 x1 y1) ∨
      (¬ Wide n a n b s ∧ r = .tu [.ag [.l 0 [] true, .l 0 [] true], .ag [.l 0 [] true, .l 0 [] true], .b false] ∧ σ = [])
theorem rhalf_fr (hn : 0 ≤ n ∧ n ≤ 6) (h1 : U32 n a) (h2 : U32 n b) : TriS Try.prog 23 [.ag [.l n [.i .u32 (fr0 a)] f1, .l n [.i .u32 (fr0 b)] f2], .i .i64 s] [] (halfR n a b s) :=
  (rhalves_tri n n s (fr0 a) (fr0 b) f1 f2 (by omega) (by omega) (u32_fr h1) (u32_fr h2)).mono' fun r σ h => by
    rcases h with ⟨h, x, y, z, w, hh, g⟩ | ⟨h, g⟩
    · exact .inl ⟨wide_fr.1 h, x, y, z, w, half_un hh, g⟩
    · exact .inr ⟨fun e => h (wide_fr.2 e), g⟩
theorem rhalf_lo (hh : Half n a b t x0 y0 x1 y1) (hw : Wide n a n b t) (h1 : U32 n a) (h2 : U32 n b) : TriS Try.prog 23 [.ag [.l n [.i .u32 fun ix => x0 ((AM.hd ix + 0) :: ix.tail)] f1, .l n [.i .u32 fun ix => y0 ((AM.hd ix + 0) :: ix.tail)] f2], .i .i64 s] [] (halfR n x0 y0 s) :=
  rhalf_fr (by have := hw.1.1; omega) (half_u32 hw h1 h2 hh).1.1 (half_u32 hw h1 h2 hh).1.2
theorem rhalf_up (hh : Half n a b t x0 y0 x1 y1) (hw : Wide n a n b t) (h1 : U32 n a) (h2 : U32 n b) : TriS Try.prog 23 [.ag [.l n [.i .u32 fun ix => x1 ((AM.hd ix + 0) :: ix.tail)] f1, .l n [.i .u32 fun ix => y1 ((AM.hd ix + 0) :: ix.tail)] f2], .i .i64 s] [] (halfR n x1 y1 s) :=
  rhalf_fr (by have := hw.1.1; omega) (half_u32 hw h1 h2 hh).2.1 (half_u32 hw h1 h2 hh).2.2
theorem join_h (hh : Half n a b t x0 y0 x1 y1) (hw : Wide n a n b t) (h1 : U32 n a) (h2 : U32 n b) : TriS Try.prog 20 [.ag [.l n [.i .u32 fun ix => x0 ((AM.hd ix + 0) :: ix.tail)] f1, .l n [.i .u32 fun ix => y0 ((AM.hd ix + 0) :: ix.tail)] f2], .ag [.l n [.i .u32 fun ix => x1 ((AM.hd ix + 0) :: ix.tail)] f3, .l n [.i .u32 fun ix => y1 ((AM.hd ix + 0) :: ix.tail)] f4]] [] (joinY n a n b t) := joined_half hw h1 h2 (half_fr0 hh)
theorem join_h' (hh : Half n a b t x0 y0 x1 y1) (hw : Wide n a n b t) (h1 : U32 n a) (h2 : U32 n b) : TriS Try.prog 20 [.ag [.l n [.i .u32 fun ix => x1 ((AM.hd ix + 0) :: ix.tail)] f1, .l n [.i .u32 fun ix => y1 ((AM.hd ix + 0) :: ix.tail)] f2], .ag [.l n [.i .u32 fun ix => x0 ((AM.hd ix + 0) :: ix.tail)] f3, .l n [.i .u32 fun ix => y0 ((AM.hd ix + 0) :: ix.tail)] f4]] [] (joinY n a n b t) := joined_half' hw h1 h2 (half_fr0 hh)
theorem rhalves_nil (s : Int) : TriS Try.prog 23 [.ag [.l 0 [] true, .l 0 [] true], .i .i64 s] [] (fun r σ => r = .tu [.ag [.l 0 [] true, .l 0 [] true], .ag [.l 0 [] true, .l 0 [] true], .b false] ∧ σ = []) := by
  have hz := rhalves_bad 0 0 s (fun _ => 0) (fun _ => 0) true true (by omega) (by omega) (fun h => by have := h.1.1; omega)
  refine ⟨hz.1, fun X g w vs hX hob hvs => hz.2 X g w vs hX hob ?_⟩
  match vs, hvs with
  | v1 :: vs, ⟨⟨u, e, h1⟩, h⟩ => exact ⟨⟨u, e, rvs_nil h1⟩, h⟩
end
section
variable (n m t s : Int) (a b : Ix → Int)
theorem back_big (hn : ¬ (n ≤ 6 ∧ m ≤ 6)) : TriS Try.prog 5 [.ag [.l n [.i .u32 a] false, .l m [.i .u32 b] false], .i .i64 t] [] (fun r _ => r = .b true) := by
  have hlv := live14
  refine tri_of TT_ok mixed (OR := ORD5) (fn := Try.f5) (c := body Try.f5) (by kernel_rfl) (by kernel_rfl) (by kernel_rfl) (by kernel_rfl) (by simp [Try.f5]) fun H Tri hH hTri => ?_
  cbv
  split
  · rename_i h_1
    simp only [hH, decide_eq_true_eq] at h_1
    cbv
    generalize e_2 : H Bool _ = b_3
    simp only [hH] at e_2
    replace e_2 := boolN e_2
    refine cal [] (t := hTri _ _ _ _ hlv) (k := ?k_4)
    rintro r_5 σ_6 ⟨rfl, rfl⟩
    cbv
    exact fin (σ := []) (h := rfl)
  · rename_i h_7
    simp only [hH, decide_eq_false_iff_not, Int.not_lt, Int.not_le] at h_7
    cbv
    split
    case h_2 => rename_i hh; exact absurd hh (by rw [hH]; simp; omega)
    cbv
    generalize e_8 : H Bool _ = b_9
    simp only [hH] at e_8
    replace e_8 := boolN e_8
    generalize e_10 : H Bool _ = b_11
    simp only [hH] at e_10
    replace e_10 := boolN e_10
    refine cal [] (t := hTri _ _ _ _ hlv) (k := ?k_12)
    rintro r_13 σ_14 ⟨rfl, rfl⟩
    cbv
    exact fin (σ := []) (h := rfl)
theorem back_no (hn : 0 ≤ n ∧ n ≤ 6) (hm : 0 ≤ m ∧ m ≤ 6) (hw : ¬ Wide n a m b t) : TriS Try.prog 5 [.ag [.l n [.i .u32 a] false, .l m [.i .u32 b] false], .i .i64 t] [] (fun r _ => r = .b true) := by
  have hlv := live14
  have hh := rhalves_bad n m t a b false false (by omega) (by omega) hw
  refine tri_of TT_ok mixed (OR := ORD5) (fn := Try.f5) (c := body Try.f5) (by kernel_rfl) (by kernel_rfl) (by kernel_rfl) (by kernel_rfl) (by simp [Try.f5]) fun H Tri hH hTri => ?_
  cbv
  split
  case h_1 => rename_i hh; exact absurd hh (by rw [hH]; simp; omega)
  cbv
  split
  case h_1 => rename_i hh; exact absurd hh (by rw [hH]; simp; omega)
  cbv
  generalize e_1 : H Bool _ = b_2
  simp only [hH] at e_1
  replace e_1 := boolN e_1
  generalize e_3 : H Bool _ = b_4
  simp only [hH] at e_3
  replace e_3 := boolN e_3
  refine cal [] (t := hTri _ _ _ _ hh) (k := ?k_5)
  rintro r_6 σ_7 ⟨rfl, rfl⟩
  cbv
  refine cal [] (t := hTri _ _ _ _ hlv) (k := ?k_8)
  rintro r_9 σ_10 ⟨rfl, rfl⟩
  cbv
  exact fin (σ := []) (h := rfl)
theorem back_yes (hn : 0 ≤ n ∧ n ≤ 6) (hw : Wide n a n b t) (h1 : U32 n a) (h2 : U32 n b) : TriS Try.prog 5 [.ag [.l n [.i .u32 a] false, .l n [.i .u32 b] false], .i .i64 t] [] (fun r _ => r = .b true) := by
  have hlv := live14
  have hv := rhalves_ok n n t a b false false hw h1 h2
  refine tri_of TT_ok mixed (OR := ORD5) (fn := Try.f5) (c := body Try.f5) (by kernel_rfl) (by kernel_rfl) (by kernel_rfl) (by kernel_rfl) (by simp [Try.f5]) fun H Tri hH hTri => ?_
  cbv
  split
  case h_1 => rename_i hh; exact absurd hh (by rw [hH]; simp; omega)
  cbv
  split
  case h_1 => rename_i hh; exact absurd hh (by rw [hH]; simp; omega)
  cbv
  generalize e_1 : H Bool _ = b_2
  simp only [hH] at e_1
  replace e_1 := boolN e_1
  refine cal [] (t := hTri _ _ _ _ hv) (k := ?k_3)
  rintro r_4 σ_5 ⟨x_6, ⟨x_7, ⟨x_8, ⟨x_9, ⟨h_10, ⟨rfl, rfl⟩⟩⟩⟩⟩⟩
  cbv
  refine cal [] (t := hTri _ _ _ _ (join_h (by assumption) (by assumption) (by assumption) (by assumption))) (k := ?k_11)
  rintro r_12 σ_13 ⟨x_14, ⟨x_15, ⟨h_16, ⟨h_17, ⟨rfl, rfl⟩⟩⟩⟩⟩
  cbv
  split
  case h_2 => rename_i hh; exact absurd hh (by rw [hH]; simp; try omega)
  cbv
  generalize e_18 : H Bool _ = b_19
  simp only [hH] at e_18
  replace e_18 := boolN e_18
  obtain rfl : b_19 = true := e_18.2 (by decide)
  refine cal [] (t := hTri _ _ _ _ (rbox_yes (by intros; simp only [AM.hd, Int.add_zero, List.tail_cons]; solve_by_elim) (by intros; simp only [AM.hd, Int.add_zero, List.tail_cons]; solve_by_elim) (by omega) (by omega))) (k := ?k_20)
  rintro r_21 σ_22 ⟨rfl, rfl⟩
  cbv
  refine cal [] (t := hTri _ _ _ _ hlv) (k := ?k_23)
  rintro r_24 σ_25 ⟨rfl, rfl⟩
  cbv
  exact fin (σ := []) (h := rfl)
theorem back_all (hn : 0 ≤ n) (hm : 0 ≤ m) (u1 : ∀ n, U32 n a) (u2 : ∀ n, U32 n b) : TriS Try.prog 5 [.ag [.l n [.i .u32 a] false, .l m [.i .u32 b] false], .i .i64 t] [] (fun r _ => r = .b true) := by
  by_cases h : n ≤ 6 ∧ m ≤ 6
  case neg => exact back_big n m t a b h
  by_cases hw : Wide n a m b t
  · obtain rfl := hw.1.2.1
    exact back_yes n t a b (by omega) hw (u1 _) (u2 _)
  · exact back_no n m t a b (by omega) (by omega) hw
theorem fours_big (hn : ¬ (n ≤ 6 ∧ m ≤ 6)) : TriS Try.prog 6 [.ag [.l n [.i .u32 a] false, .l m [.i .u32 b] false], .i .i64 t, .i .i64 s] [] (fun r _ => r = .b true) := by
  have hlv := live14
  refine tri_of TT_ok mixed (OR := ORD6) (fn := Try.f6) (c := body Try.f6) (by kernel_rfl) (by kernel_rfl) (by kernel_rfl) (by kernel_rfl) (by simp [Try.f6]) fun H Tri hH hTri => ?_
  cbv
  split
  · rename_i h_1
    simp only [hH, decide_eq_true_eq] at h_1
    cbv
    generalize e_2 : H Bool _ = b_3
    simp only [hH] at e_2
    replace e_2 := boolN e_2
    refine cal [] (t := hTri _ _ _ _ hlv) (k := ?k_4)
    rintro r_5 σ_6 ⟨rfl, rfl⟩
    cbv
    exact fin (σ := []) (h := rfl)
  · rename_i h_7
    simp only [hH, decide_eq_false_iff_not, Int.not_lt, Int.not_le] at h_7
    cbv
    split
    case h_2 => rename_i hh; exact absurd hh (by rw [hH]; simp; omega)
    cbv
    generalize e_8 : H Bool _ = b_9
    simp only [hH] at e_8
    replace e_8 := boolN e_8
    generalize e_10 : H Bool _ = b_11
    simp only [hH] at e_10
    replace e_10 := boolN e_10
    refine cal [] (t := hTri _ _ _ _ hlv) (k := ?k_12)
    rintro r_13 σ_14 ⟨rfl, rfl⟩
    cbv
    exact fin (σ := []) (h := rfl)
theorem fours_no (hn : 0 ≤ n ∧ n ≤ 6) (hm : 0 ≤ m ∧ m ≤ 6) (hw : ¬ Wide n a m b t) : TriS Try.prog 6 [.ag [.l n [.i .u32 a] false, .l m [.i .u32 b] false], .i .i64 t, .i .i64 s] [] (fun r _ => r = .b true) := by
  have hlv := live14
  have hh := rhalves_bad n m t a b false false (by omega) (by omega) hw
  refine tri_of TT_ok mixed (OR := ORD6) (fn := Try.f6) (c := body Try.f6) (by kernel_rfl) (by kernel_rfl) (by kernel_rfl) (by kernel_rfl) (by simp [Try.f6]) fun H Tri hH hTri => ?_
  cbv
  split
  case h_1 => rename_i hh; exact absurd hh (by rw [hH]; simp; omega)
  cbv
  split
  case h_1 => rename_i hh; exact absurd hh (by rw [hH]; simp; omega)
  cbv
  generalize e_1 : H Bool _ = b_2
  simp only [hH] at e_1
  replace e_1 := boolN e_1
  generalize e_3 : H Bool _ = b_4
  simp only [hH] at e_3
  replace e_3 := boolN e_3
  refine cal [] (t := hTri _ _ _ _ hh) (k := ?k_5)
  rintro r_6 σ_7 ⟨rfl, rfl⟩
  cbv
  refine cal [] (t := hTri _ _ _ _ (rhalves_nil _)) (k := ?k_8)
  rintro r_9 σ_10 ⟨rfl, rfl⟩
  cbv
  refine cal [] (t := hTri _ _ _ _ (rhalves_nil _)) (k := ?k_11)
  rintro r_12 σ_13 ⟨rfl, rfl⟩
  cbv
  refine cal [] (t := hTri _ _ _ _ hlv) (k := ?k_14)
  rintro r_15 σ_16 ⟨rfl, rfl⟩
  cbv
  exact fin (σ := []) (h := rfl)
theorem fours_yes (hn : 0 ≤ n ∧ n ≤ 6) (hw : Wide n a n b t) (h1 : U32 n a) (h2 : U32 n b) : TriS Try.prog 6 [.ag [.l n [.i .u32 a] false, .l n [.i .u32 b] false], .i .i64 t, .i .i64 s] [] (fun r _ => r = .b true) := by
  have hlv := live14
  have hv := rhalves_ok n n t a b false false hw h1 h2
  refine tri_of TT_ok mixed (OR := ORD6) (fn := Try.f6) (c := body Try.f6) (by kernel_rfl) (by kernel_rfl) (by kernel_rfl) (by kernel_rfl) (by simp [Try.f6]) fun H Tri hH hTri => ?_
  cbv
  split
  case h_1 => rename_i hh; exact absurd hh (by rw [hH]; simp; omega)
  cbv
  split
  case h_1 => rename_i hh; exact absurd hh (by rw [hH]; simp; omega)
  cbv
  generalize e_1 : H Bool _ = b_2
  simp only [hH] at e_1
  replace e_1 := boolN e_1
  refine cal [] (t := hTri _ _ _ _ hv) (k := ?k_3)
  rintro r_4 σ_5 ⟨x_6, ⟨x_7, ⟨x_8, ⟨x_9, ⟨h_10, ⟨rfl, rfl⟩⟩⟩⟩⟩⟩
  cbv
  refine cal [] (t := hTri _ _ _ _ (rhalf_lo (by assumption) (by assumption) (by assumption) (by assumption))) (k := ?k_11)
  rintro r_12 σ_13 (⟨h_14, ⟨x_15, ⟨x_16, ⟨x_17, ⟨x_18, ⟨h_19, ⟨rfl, rfl⟩⟩⟩⟩⟩⟩⟩ | ⟨h_20, ⟨rfl, rfl⟩⟩)
  · cbv
    refine cal [] (t := hTri _ _ _ _ (rhalf_up (by assumption) (by assumption) (by assumption) (by assumption))) (k := ?k_21)
    rintro r_22 σ_23 (⟨h_24, ⟨x_25, ⟨x_26, ⟨x_27, ⟨x_28, ⟨h_29, ⟨rfl, rfl⟩⟩⟩⟩⟩⟩⟩ | ⟨h_30, ⟨rfl, rfl⟩⟩)
    · cbv
      refine cal [] (t := hTri _ _ _ _ (join_h (by assumption) (by assumption) (by (exact (half_u32 hw h1 h2 ‹_›).1.1)) (by (exact (half_u32 hw h1 h2 ‹_›).1.2)))) (k := ?k_31)
      rintro r_32 σ_33 ⟨x_34, ⟨x_35, ⟨h_36, ⟨h_37, ⟨rfl, rfl⟩⟩⟩⟩⟩
      cbv
      refine cal [] (t := hTri _ _ _ _ (join_h' (by assumption) (by assumption) (by (exact (half_u32 hw h1 h2 ‹_›).2.1)) (by (exact (half_u32 hw h1 h2 ‹_›).2.2)))) (k := ?k_38)
      rintro r_39 σ_40 ⟨x_41, ⟨x_42, ⟨h_43, ⟨h_44, ⟨rfl, rfl⟩⟩⟩⟩⟩
      cbv
      refine cal [] (t := hTri _ _ _ _ (join_h (by (exact half_fr' ‹_› ‹_› ‹_› ‹_› ‹_›)) (by assumption) (by assumption) (by assumption))) (k := ?k_45)
      rintro r_46 σ_47 ⟨x_48, ⟨x_49, ⟨h_50, ⟨h_51, ⟨rfl, rfl⟩⟩⟩⟩⟩
      cbv
      split
      case h_2 => rename_i hh; exact absurd hh (by rw [hH]; simp; try omega)
      cbv
      split
      case h_2 => rename_i hh; exact absurd hh (by rw [hH]; simp; try omega)
      cbv
      split
      case h_2 => rename_i hh; exact absurd hh (by rw [hH]; simp; try omega)
      cbv
      generalize e_52 : H Bool _ = b_53
      simp only [hH] at e_52
      replace e_52 := boolN e_52
      obtain rfl : b_53 = true := e_52.2 (by decide)
      generalize e_54 : H Bool _ = b_55
      simp only [hH] at e_54
      replace e_54 := boolN e_54
      obtain rfl : b_55 = true := e_54.2 (by decide)
      refine cal [] (t := hTri _ _ _ _ (rbox_yes (by intros; simp only [AM.hd, Int.add_zero, List.tail_cons]; solve_by_elim) (by intros; simp only [AM.hd, Int.add_zero, List.tail_cons]; solve_by_elim) (by omega) (by omega))) (k := ?k_56)
      rintro r_57 σ_58 ⟨rfl, rfl⟩
      cbv
      refine cal [] (t := hTri _ _ _ _ (rbox_yes (by intros; simp only [AM.hd, Int.add_zero, List.tail_cons]; solve_by_elim) (by intros; simp only [AM.hd, Int.add_zero, List.tail_cons]; solve_by_elim) (by omega) (by omega))) (k := ?k_59)
      rintro r_60 σ_61 ⟨rfl, rfl⟩
      cbv
      refine cal [] (t := hTri _ _ _ _ (rbox_yes (by intros; simp only [AM.hd, Int.add_zero, List.tail_cons]; solve_by_elim) (by intros; simp only [AM.hd, Int.add_zero, List.tail_cons]; solve_by_elim) (by omega) (by omega))) (k := ?k_62)
      rintro r_63 σ_64 ⟨rfl, rfl⟩
      cbv
      refine cal [] (t := hTri _ _ _ _ hlv) (k := ?k_65)
      rintro r_66 σ_67 ⟨rfl, rfl⟩
      cbv
      exact fin (σ := []) (h := rfl)
    · cbv
      generalize e_68 : (fun ix => x_8 ((hd ix + 0) :: ix.tail)) = c_69
      have f_70 := fun (j : Int) => congrFun e_68 [j]
      simp only [AM.hd, List.tail_cons, Int.add_zero] at f_70
      generalize e_71 : (fun ix => x_9 ((hd ix + 0) :: ix.tail)) = c_72
      have f_73 := fun (j : Int) => congrFun e_71 [j]
      simp only [AM.hd, List.tail_cons, Int.add_zero] at f_73
      refine cal [] (t := hTri _ _ _ _ hlv) (k := ?k_74)
      rintro r_75 σ_76 ⟨rfl, rfl⟩
      cbv
      exact fin (σ := []) (h := rfl)
  · cbv
    generalize e_77 : (fun ix => x_6 ((hd ix + 0) :: ix.tail)) = c_78
    have f_79 := fun (j : Int) => congrFun e_77 [j]
    simp only [AM.hd, List.tail_cons, Int.add_zero] at f_79
    generalize e_80 : (fun ix => x_7 ((hd ix + 0) :: ix.tail)) = c_81
    have f_82 := fun (j : Int) => congrFun e_80 [j]
    simp only [AM.hd, List.tail_cons, Int.add_zero] at f_82
    refine cal [] (t := hTri _ _ _ _ (rhalf_up (by assumption) (by assumption) (by assumption) (by assumption))) (k := ?k_83)
    rintro r_84 σ_85 (⟨h_86, ⟨x_87, ⟨x_88, ⟨x_89, ⟨x_90, ⟨h_91, ⟨rfl, rfl⟩⟩⟩⟩⟩⟩⟩ | ⟨h_92, ⟨rfl, rfl⟩⟩)
    · cbv
      refine cal [] (t := hTri _ _ _ _ hlv) (k := ?k_93)
      rintro r_94 σ_95 ⟨rfl, rfl⟩
      cbv
      exact fin (σ := []) (h := rfl)
    · cbv
      generalize e_96 : (fun ix => x_8 ((hd ix + 0) :: ix.tail)) = c_97
      have f_98 := fun (j : Int) => congrFun e_96 [j]
      simp only [AM.hd, List.tail_cons, Int.add_zero] at f_98
      generalize e_99 : (fun ix => x_9 ((hd ix + 0) :: ix.tail)) = c_100
      have f_101 := fun (j : Int) => congrFun e_99 [j]
      simp only [AM.hd, List.tail_cons, Int.add_zero] at f_101
      refine cal [] (t := hTri _ _ _ _ hlv) (k := ?k_102)
      rintro r_103 σ_104 ⟨rfl, rfl⟩
      cbv
      exact fin (σ := []) (h := rfl)
theorem fours_all (hn : 0 ≤ n) (hm : 0 ≤ m) (u1 : ∀ n, U32 n a) (u2 : ∀ n, U32 n b) : TriS Try.prog 6 [.ag [.l n [.i .u32 a] false, .l m [.i .u32 b] false], .i .i64 t, .i .i64 s] [] (fun r _ => r = .b true) := by
  by_cases h : n ≤ 6 ∧ m ≤ 6
  case neg => exact fours_big n m t s a b h
  by_cases hw : Wide n a m b t
  · obtain rfl := hw.1.2.1
    exact fours_yes n t s a b (by omega) hw (u1 _) (u2 _)
  · exact fours_no n m t s a b (by omega) (by omega) hw
end
end Go.Proofs.Ytilmhjojbolbeaa.AM

namespace Go.Proofs.Ytilmhjojbolbeaa.AM
open Go
/-- arguments of the laws of region -/
theorem row64_arg {x : V} (h : VOk (.list [.int .i64]) x) : ∃ n f, x = .l n [.i .i64 f] false ∧ 0 ≤ n := by
  obtain ⟨n, cs, rfl, ⟨h0, h1⟩, hc⟩ := h
  obtain ⟨_, _, rfl, ⟨a, rfl, -⟩, hc1⟩ := COks_cons hc
  obtain rfl := COks_nil hc1
  exact ⟨n, a, rfl, h0⟩
theorem row32_arg {x : V} (h : VOk (.list [.int .u32]) x) : ∃ n f, x = .l n [.i .u32 f] false ∧ 0 ≤ n ∧ ∀ k, U32 k f := by
  obtain ⟨n, cs, rfl, ⟨h0, h1⟩, hc⟩ := h
  obtain ⟨_, _, rfl, ⟨a, rfl, ha⟩, hc1⟩ := COks_cons hc
  obtain rfl := COks_nil hc1
  refine ⟨n, a, rfl, h0, fun k j _ _ => ?_⟩
  have := ha [j]
  have e : IntKind.u32.max = 4294967295 := rfl
  have e2 : IntKind.u32.min = 0 := rfl
  simp [Lit.wf, e, e2] at this
  omega
theorem box_arg {x : V} (h : POk (.agg [.list [.int .u32], .list [.int .u32]]) x) : ∃ n a m b, x = .ag [.l n [.i .u32 a] false, .l m [.i .u32 b] false] ∧ 0 ≤ n ∧ 0 ≤ m ∧ (∀ k, U32 k a) ∧ ∀ k, U32 k b := by
  obtain ⟨_, rfl, h⟩ := h
  obtain ⟨_, _, rfl, h1, g1⟩ := VOks_cons h
  obtain ⟨_, _, rfl, h2, g2⟩ := VOks_cons g1
  obtain rfl := VOks_nil g2
  obtain ⟨n, a, rfl, hn, ha⟩ := row32_arg h1
  obtain ⟨m, b, rfl, hm, hb⟩ := row32_arg h2
  exact ⟨n, a, m, b, rfl, hn, hm, ha, hb⟩
theorem num_arg {x : V} (h : POk (.one (.int .i64)) x) : ∃ n, x = .i .i64 n := by
  obtain ⟨n, rfl, -⟩ := h
  exact ⟨n, rfl⟩
theorem four_arg {x : V} (h : POk (.agg [.list [.int .i64], .list [.int .i64], .list [.int .i64], .list [.int .i64]]) x) : ∃ n1 a1 n2 a2 n3 a3 n4 a4, x = .ag [.l n1 [.i .i64 a1] false, .l n2 [.i .i64 a2] false, .l n3 [.i .i64 a3] false, .l n4 [.i .i64 a4] false] ∧ (0 ≤ n1 ∧ 0 ≤ n2) ∧ 0 ≤ n3 ∧ 0 ≤ n4 := by
  obtain ⟨_, rfl, h⟩ := h
  obtain ⟨_, _, rfl, h1, g1⟩ := VOks_cons h
  obtain ⟨_, _, rfl, h2, g2⟩ := VOks_cons g1
  obtain ⟨_, _, rfl, h3, g3⟩ := VOks_cons g2
  obtain ⟨_, _, rfl, h4, g4⟩ := VOks_cons g3
  obtain rfl := VOks_nil g4
  obtain ⟨n1, a1, rfl, q1⟩ := row64_arg h1
  obtain ⟨n2, a2, rfl, q2⟩ := row64_arg h2
  obtain ⟨n3, a3, rfl, q3⟩ := row64_arg h3
  obtain ⟨n4, a4, rfl, q4⟩ := row64_arg h4
  exact ⟨n1, a1, n2, a2, n3, a3, n4, a4, rfl, ⟨q1, q2⟩, q3, q4⟩
end Go.Proofs.Ytilmhjojbolbeaa.AM

