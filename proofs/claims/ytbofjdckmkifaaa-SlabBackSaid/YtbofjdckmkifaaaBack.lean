/-
  What is grown is shrunk again, and as it was, as plain lists. No program in sight. No condition.
-/
import Derived.Test.YtbofjdckmkifaaaUni
namespace Go.Proofs.Ytbofjdckmkifaaa

section
variable {sz cs : List Int} {a one s rows : Nat}
theorem grown_rows (hwf : Wf sz cs) (ha : a < sz.length) (r : Rows3 sz cs a one s rows) {i : Nat} (_hi : (i : Int) < rd sz a) : Rows3 (growS sz a) (growC sz cs a i) a one (s + 1) rows := by
  refine ⟨by rw [growS, suf_set _ ha]; exact r.one_, by rw [rd_growS ha, if_pos rfl, r.s_]; rfl, ?_, r.p1, by omega, r.p3⟩
  rw [growC, growT_length, growN_rows hwf ha r, show one * (s + 1) = one * s + one by rw [Nat.mul_add, Nat.mul_one]]
theorem rowAt_grown (r : Rows3 sz cs a one s rows) {i : Nat} (hi : i + 1 ≤ s) {q : Nat} (hq : q < rows) :
    rowAt (growR cs one (one * s) i rows) (one * (s + 1)) q = (rowAt cs (one * s) q).take ((i + 1) * one) ++ (rowAt cs (one * s) q).drop (i * one) := by
  have hi1 : (i + 1) * one ≤ one * s := by rw [Nat.mul_comm]; exact Nat.mul_le_mul_left _ hi
  have e1 : (i + 1) * one = i * one + one := by rw [Nat.add_mul, Nat.one_mul]
  have e2 : one * (s + 1) = one * s + one := by rw [Nat.mul_add, Nat.mul_one]
  have hrl := rowAt_length r.len_ hq
  have hL := growR_length (one := one) (i := i) r.len_ hi1 rows (Nat.le_refl _)
  have hR : (rowAt (growR cs one (one * s) i rows) (one * (s + 1)) q).length = one * (s + 1) := rowAt_length (rows := rows) (by rw [hL, e2]) hq
  have hA : ((rowAt cs (one * s) q).take ((i + 1) * one)).length = (i + 1) * one := by rw [List.length_take, hrl]; omega
  refine ext_rd (by rw [hR, List.length_append, hA, List.length_drop, hrl]; omega) fun j hj => ?_
  rw [hR] at hj
  rw [rd_rowAt _ _ _ _ hj, e2, growR_rd r.len_ hi1 rows (Nat.le_refl _) q j hq (by omega), rd_append, hA]
  by_cases hc : j < (i + 1) * one
  · rw [if_pos hc, if_pos hc, rd_take _ _ _ hc, rd_rowAt _ _ _ _ (by omega)]
  · rw [if_neg hc, if_neg hc, rd_drop, rd_rowAt _ _ _ _ (by omega)]
    congr 1; omega
theorem back_row (row : List Int) {i : Nat} (h : (i + 1) * one ≤ row.length) :
    (row.take ((i + 1) * one) ++ row.drop (i * one)).take ((i + 1) * one) ++ (row.take ((i + 1) * one) ++ row.drop (i * one)).drop ((i + 2) * one) = row := by
  have e1 : (i + 1) * one = i * one + one := by rw [Nat.add_mul, Nat.one_mul]
  have e2 : (i + 2) * one = i * one + one + one := by rw [Nat.add_mul]; omega
  have hA : (row.take ((i + 1) * one)).length = (i + 1) * one := by rw [List.length_take]; omega
  rw [List.take_append_of_le_length (by omega), List.take_of_length_le (by omega), List.drop_append, hA, List.drop_eq_nil_of_le (by omega), List.nil_append, List.drop_drop,
    show i * one + ((i + 2) * one - (i + 1) * one) = (i + 1) * one by omega, List.take_append_drop]
theorem back_eq (row : List Int) {i : Nat} (h : (i + 1) * one ≤ row.length) :
    ((row.take ((i + 1) * one) ++ row.drop (i * one)).drop (i * one)).take one = ((row.take ((i + 1) * one) ++ row.drop (i * one)).drop ((i + 1) * one)).take one := by
  have e1 : (i + 1) * one = i * one + one := by rw [Nat.add_mul, Nat.one_mul]
  have hA : (row.take ((i + 1) * one)).length = (i + 1) * one := by rw [List.length_take]; omega
  rw [List.drop_append_of_le_length (by omega), List.take_append_of_le_length (by rw [List.length_drop]; omega), List.drop_append, hA, Nat.sub_self, List.drop_zero,
    List.drop_eq_nil_of_le (Nat.le_of_eq hA), List.nil_append, List.drop_take, show (i + 1) * one - i * one = one by omega, List.take_take, Nat.min_self]
theorem shrR_back (r : Rows3 sz cs a one s rows) {i : Nat} (hi : i + 1 ≤ s) : ∀ q, q ≤ rows → shrR (growR cs one (one * s) i rows) one (one * (s + 1)) i q = cs.take (q * (one * s)) := by
  intro q
  induction q with
  | zero => intro _; simp [shrR]
  | succ q ih =>
    intro hq
    have hi1 : (i + 1) * one ≤ one * s := by rw [Nat.mul_comm]; exact Nat.mul_le_mul_left _ hi
    rw [shrR, rowAt_grown r hi (by omega), List.append_assoc, back_row _ (by rw [rowAt_length r.len_ (by omega)]; exact hi1), ih (by omega), rowAt, Nat.add_mul, Nat.one_mul, List.take_add]
theorem back_law (hwf : Wf sz cs) {x i : Int} (h : growE sz cs x i = 0) :
    0 ≤ x ∧ x < sz.length ∧ grow2 sz cs x i = (growS sz x.toNat, growC sz cs x.toNat i) ∧ rd (growS sz x.toNat) x.toNat = rd sz x.toNat + 1 ∧
      ((growC sz cs x.toNat i).length : Int) * rd sz x.toNat = (cs.length : Int) * (rd sz x.toNat + 1) ∧
      shrE (growS sz x.toNat) (growC sz cs x.toNat i) x i = 0 ∧ shr2 (growS sz x.toNat) (growC sz cs x.toNat i) x i = (sz, cs) := by
  have h2 := h
  simp only [growE] at h
  cases hb : growBad sz x i with
  | true => simp [hb] at h
  | false =>
    obtain ⟨a, i', rfl, rfl, ha, hi⟩ := growBad_nat hb
    simp only [hb, Int.toNat_natCast] at h ⊢
    have hN : (growN sz cs a : Int) ≤ 4096 := by by_cases hN : (growN sz cs a : Int) > 4096 <;> simp [hN] at h; omega
    obtain ⟨one, s, rows, r⟩ := rows3 hwf ha
    have hs := r.s_
    have r' := grown_rows hwf ha r hi
    have hwf' : Wf (growS sz a) (growC sz cs a i') := grow_wf hwf ha hN (by simp [growC])
    have hR := growR_eq hwf ha hi r
    have his : i' + 1 ≤ s := by omega
    have hi1 : (i' + 1) * one ≤ one * s := by rw [Nat.mul_comm]; exact Nat.mul_le_mul_left _ his
    have hok : shrOk (growS sz a) (growC sz cs a i') a i' (growC sz cs a i').length = true := by
      rw [shrOk_rows hwf' (by simpa using ha) r' (by omega), ← hR, eqR_iff]
      intro q hq
      rw [eqB, rowAt_grown r his hq]
      exact decide_eq_true (back_eq _ (by rw [rowAt_length r.len_ hq]; exact hi1))
    have hsh : shrT (growS sz a) (growC sz cs a i') a i' (growC sz cs a i').length = cs := by
      rw [r'.len_, shrT_rows hwf' (by simpa using ha) r' (by omega) rows (Nat.le_refl _), ← hR, shrR_back r his rows (Nat.le_refl _), List.take_of_length_le (by rw [r.len_]; omega)]
    have hsS : shrS (growS sz a) a = sz := by
      refine ext_rd (by simp) fun j hj => ?_
      rw [shrS, rd_set _ _ _ _ (by simpa using ha), rd_growS ha, rd_growS ha, if_pos rfl]
      split
      · rename_i e; subst e; omega
      · rfl
    have hbad : shrBad (growS sz a) a i' = false := by
      simp only [shrBad, Int.toNat_natCast, growS_length, Bool.or_eq_false_iff, decide_eq_false_iff_not]
      rw [rd_growS ha, if_pos rfl]
      omega
    have hE : shrE (growS sz a) (growC sz cs a i') a i' = 0 := by simp [shrE, hbad, hok]
    refine ⟨by omega, by omega, by rw [grow2, if_pos h2]; rfl, by rw [rd_growS ha, if_pos rfl], ?_, hE, ?_⟩
    · rw [r'.len_, r.len_, hs]
      simp only [Int.natCast_mul, Int.natCast_add]
      have e : ((1 : Nat) : Int) = 1 := rfl
      rw [e, Int.mul_assoc, Int.mul_assoc, Int.mul_assoc, Int.mul_assoc, Int.mul_comm ((s : Int) + 1) (s : Int)]
    · rw [shr2, if_pos hE, Int.toNat_natCast, hsh, hsS]
end
end Go.Proofs.Ytbofjdckmkifaaa
