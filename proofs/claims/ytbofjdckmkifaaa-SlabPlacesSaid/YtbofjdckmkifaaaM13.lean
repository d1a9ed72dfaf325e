/-
  Grown and shrunk slabs by rows, as plain lists. No program in sight. No condition.
-/
import Derived.Test.YtbofjdckmkifaaaO13
namespace Go.Proofs.Ytbofjdckmkifaaa

def rowAt (cs : List Int) (all r : Nat) : List Int := (cs.drop (r * all)).take all
/-- the first r rows, the part i of each twice -/
def growR (cs : List Int) (one all i : Nat) : Nat → List Int
  | 0 => []
  | r + 1 => growR cs one all i r ++ (rowAt cs all r).take ((i + 1) * one) ++ (rowAt cs all r).drop (i * one)
theorem rowAt_length {cs : List Int} {all r rows : Nat} (hl : cs.length = rows * all) (hr : r < rows) : (rowAt cs all r).length = all := by
  have : (r + 1) * all ≤ rows * all := Nat.mul_le_mul_right _ hr
  rw [Nat.add_mul, Nat.one_mul] at this
  simp [rowAt]; omega
theorem rd_append (xs ys : List Int) (k : Nat) : rd (xs ++ ys) k = if k < xs.length then rd xs k else rd ys (k - xs.length) := by
  simp only [rd_eq, List.getElem?_append]
  split <;> rfl
theorem rd_rowAt (cs : List Int) (all r j : Nat) (h : j < all) : rd (rowAt cs all r) j = rd cs (r * all + j) := by
  rw [rowAt, rd_take _ _ _ h, rd_drop]
theorem growR_length {cs : List Int} {one all i rows : Nat} (hl : cs.length = rows * all) (hi : (i + 1) * one ≤ all) : ∀ r, r ≤ rows → (growR cs one all i r).length = r * (all + one) := by
  intro r
  induction r with
  | zero => intro _; simp [growR]
  | succ r ih =>
    intro hr
    have h1 := rowAt_length hl (show r < rows by omega)
    have h2 : (i + 1) * one = i * one + one := by rw [Nat.add_mul, Nat.one_mul]
    have h3 := ih (by omega)
    have h4 : (r + 1) * (all + one) = r * (all + one) + (all + one) := by rw [Nat.add_mul, Nat.one_mul]
    simp only [growR, List.length_append, List.length_take, List.length_drop, h1]
    rw [h3, h4]
    omega
theorem growR_rd {cs : List Int} {one all i rows : Nat} (hl : cs.length = rows * all) (hi : (i + 1) * one ≤ all) : ∀ r, r ≤ rows → ∀ q j, q < r → j < all + one →
    rd (growR cs one all i r) (q * (all + one) + j) = rd cs (q * all + (if j < (i + 1) * one then j else j - one)) := by
  intro r
  induction r with
  | zero => intro _ q j hq; omega
  | succ r ih =>
    intro hr q j hq hj
    have h1 := rowAt_length hl (show r < rows by omega)
    have h2 : (i + 1) * one = i * one + one := by rw [Nat.add_mul, Nat.one_mul]
    have h3 := growR_length hl hi r (by omega)
    simp only [growR]
    rw [List.append_assoc, rd_append, h3]
    by_cases hqr : q < r
    · have : (q + 1) * (all + one) ≤ r * (all + one) := Nat.mul_le_mul_right _ hqr
      rw [Nat.add_mul, Nat.one_mul] at this
      rw [if_pos (by omega)]
      exact ih (by omega) q j hqr hj
    · obtain rfl : q = r := by omega
      rw [if_neg (by omega), show q * (all + one) + j - q * (all + one) = j by omega, rd_append]
      have h4 : ((rowAt cs all q).take ((i + 1) * one)).length = (i + 1) * one := by rw [List.length_take, h1]; omega
      rw [h4]
      by_cases hji : j < (i + 1) * one
      · rw [if_pos hji, if_pos hji, rd_take _ _ _ hji, rd_rowAt _ _ _ _ (by omega)]
      · rw [if_neg hji, if_neg hji, rd_drop, rd_rowAt _ _ _ _ (by omega)]
        congr 1; omega

theorem plc_diff {sz sz' x y : List Int} {a : Nat} : ∀ L, a < L → L ≤ sz.length → (∀ m, a < m → m < L → rd sz m = rd sz' m ∧ rd x m = rd y m) →
    (plc sz x L - plc sz' y L) * suf sz L = (plc sz x (a + 1) - plc sz' y (a + 1)) * suf sz (a + 1) := by
  intro L
  induction L with
  | zero => intro h; omega
  | succ L ih =>
    intro h1 h2 h3
    by_cases e : L = a
    · subst e; rfl
    · have hL := h3 L (by omega) (by omega)
      rw [← ih (by omega) (by omega) (fun m hm1 hm2 => h3 m hm1 (by omega)), suf_step sz (show L < sz.length by omega)]
      simp only [plc]
      rw [← hL.1, ← hL.2]
      rw [show plc sz x L * rd sz L + rd x L - (plc sz' y L * rd sz L + rd x L) = (plc sz x L - plc sz' y L) * rd sz L by rw [Int.sub_mul]; omega, Int.mul_assoc]
theorem plc_same {sz sz' x y : List Int} : ∀ L, (∀ m, m < L → rd sz m = rd sz' m ∧ rd x m = rd y m) → plc sz x L = plc sz' y L := by
  intro L
  induction L with
  | zero => intro _; rfl
  | succ L ih => intro h; simp only [plc]; rw [ih (fun m hm => h m (by omega)), (h L (by omega)).1, (h L (by omega)).2]
section
variable {sz cs : List Int} {a : Nat}
theorem suf_set (x : Int) (ha : a < sz.length) : suf (sz.set a x) (a + 1) = suf sz (a + 1) := by
  unfold suf; rw [List.drop_set_of_lt (by omega)]
theorem rd_growS (ha : a < sz.length) (m : Nat) : rd (growS sz a) m = if a = m then rd sz a + 1 else rd sz m := by rw [growS, rd_set _ _ _ _ ha]
theorem growS_pos (hwf : Wf sz cs) (ha : a < sz.length) : ∀ k, k < (growS sz a).length → 1 ≤ rd (growS sz a) k := by
  intro k hk
  rw [rd_growS ha]
  have := hwf.pos a ha
  have := hwf.pos k (by simpa using hk)
  split <;> omega
/-- where a cell of the grown slab was -/
theorem lower_place (hwf : Wf sz cs) (ha : a < sz.length) {i : Int} (hi0 : 0 ≤ i) (hi : i < rd sz a) {q : Int} {j k : Nat} (hq : 0 ≤ q) (hk : (k : Int) = q * (suf sz (a + 1) * (rd sz a + 1)) + j) (hj : (j : Int) < suf sz (a + 1) * (rd sz a + 1)) (hkN : (k : Int) < suf (growS sz a) 0) :
    isCell sz (lower a i (cellL (growS sz a) k)) = true ∧ plc sz (lower a i (cellL (growS sz a) k)) sz.length = q * (suf sz (a + 1) * rd sz a) + (if (j : Int) < (i + 1) * suf sz (a + 1) then (j : Int) else j - suf sz (a + 1)) := by
  have hp' := growS_pos hwf ha
  have hone := suf_pos hwf.pos (a + 1)
  have hs := hwf.pos a ha
  have hlen : (lower a i (cellL (growS sz a) k)).length = sz.length := by unfold lower; split <;> simp
  have hcb : ∀ m, m < sz.length → 0 ≤ rd (cellL (growS sz a) k) m ∧ rd (cellL (growS sz a) k) m < rd (growS sz a) m := fun m hm => cellL_bd hp' _ (by simpa using hm)
  have hlo : ∀ m, m < sz.length → rd (lower a i (cellL (growS sz a) k)) m = if a = m ∧ i < rd (cellL (growS sz a) k) a then rd (cellL (growS sz a) k) a - 1 else rd (cellL (growS sz a) k) m := by
    intro m hm
    unfold lower
    by_cases h : i < rd (cellL (growS sz a) k) a
    · rw [if_pos h, rd_set _ _ _ _ (by simpa using ha)]; simp [h]
    · rw [if_neg h]; simp [h]
  have hok : okc sz (lower a i (cellL (growS sz a) k)) sz.length = true := okc_of fun m hm => by
    have h1 := hcb m hm
    rw [rd_growS ha] at h1
    rw [hlo m hm]
    by_cases e : a = m
    · subst e; simp only [if_true] at h1
      by_cases h : i < rd (cellL (growS sz a) k) a
      · rw [if_pos ⟨rfl, h⟩]; omega
      · rw [if_neg (fun hh => h hh.2)]; omega
    · rw [if_neg e] at h1; rw [if_neg (fun hh => e hh.1)]; exact h1
  refine ⟨by simp only [isCell, hlen, hok, decide_true, Bool.and_self], ?_⟩
  -- the digit at a
  have hpa := plc_cellL hp' (n := (k : Int)) (by omega) hkN (k := a) (by simp; omega)
  have hpa1 := plc_cellL hp' (n := (k : Int)) (by omega) hkN (k := a + 1) (by simp; omega)
  have hsuf1 : suf (growS sz a) (a + 1) = suf sz (a + 1) := suf_set _ ha
  have hsufa : suf (growS sz a) a = (rd sz a + 1) * suf sz (a + 1) := by rw [suf_step _ (by simpa using ha), hsuf1, rd_growS ha]; simp
  have hall : suf (growS sz a) (growS sz a).length = 1 := suf_end _ (Nat.le_refl _)
  have hplen := plc_cellL hp' (n := (k : Int)) (by omega) hkN (k := (growS sz a).length) (Nat.le_refl _)
  rw [hall, Int.ediv_one, growS_length] at hplen
  have hd := plc_diff (sz := sz) (sz' := growS sz a) (x := lower a i (cellL (growS sz a) k)) (y := cellL (growS sz a) k) (a := a) sz.length ha (Nat.le_refl _) (fun m h1 h2 => by
    rw [rd_growS ha, if_neg (by omega), hlo m h2, if_neg (fun hh => by omega)]; exact ⟨rfl, rfl⟩)
  rw [suf_end sz (Nat.le_refl _), Int.mul_one, hplen] at hd
  have hsame := plc_same (sz := sz) (sz' := growS sz a) (x := lower a i (cellL (growS sz a) k)) (y := cellL (growS sz a) k) a (fun m hm => by
    rw [rd_growS ha, if_neg (by omega), hlo m (by omega), if_neg (fun hh => by omega)]; exact ⟨rfl, rfl⟩)
  have hqa : plc (growS sz a) (cellL (growS sz a) k) a = q := by
    rw [hpa, hsufa, hk, Int.mul_comm (rd sz a + 1), Int.add_comm, Int.add_mul_ediv_right _ _ (by have := Int.mul_le_mul hone (show 1 ≤ rd sz a + 1 by omega) (by omega) (by omega); omega)]
    rw [Int.ediv_eq_zero_of_lt (by omega) hj, Int.zero_add]
  simp only [plc] at hd
  rw [hsame, hqa, hlo a ha, rd_growS ha, if_pos rfl] at hd
  simp only [plc] at hpa1
  rw [hqa, hsuf1, rd_growS ha, if_pos rfl] at hpa1
  -- j against the digit
  have hdig : rd (cellL (growS sz a) k) a = (j : Int) / suf sz (a + 1) := by
    have e : (k : Int) / suf sz (a + 1) = q * (rd sz a + 1) + (j : Int) / suf sz (a + 1) := by
      rw [hk, Int.mul_comm (suf sz (a + 1)) (rd sz a + 1), ← Int.mul_assoc, Int.add_comm, Int.add_mul_ediv_right _ _ (by omega), Int.add_comm]
    rw [e] at hpa1; omega
  generalize hc : rd (cellL (growS sz a) k) a = c at hd hdig
  have hdm := Int.mul_ediv_add_emod (j : Int) (suf sz (a + 1))
  have hm0 := Int.emod_nonneg (j : Int) (show suf sz (a + 1) ≠ 0 by omega)
  have hm1 := Int.emod_lt_of_pos (j : Int) (show 0 < suf sz (a + 1) by omega)
  rw [← hdig] at hdm
  generalize (j : Int) % suf sz (a + 1) = t at hdm hm0 hm1
  generalize suf sz (a + 1) = one at *
  by_cases h : i < c
  · simp only [h, and_self, if_true] at hd
    have hge : (i + 1) * one ≤ one * c := by rw [Int.mul_comm]; exact Int.mul_le_mul_of_nonneg_left (by omega) (by omega)
    rw [if_neg (by omega)]
    have e1 : q * rd sz a + (c - 1) - (q * (rd sz a + 1) + c) = - q - 1 := by rw [Int.mul_add]; omega
    have e2 : q * (one * (rd sz a + 1)) = q * (one * rd sz a) + q * one := by rw [Int.mul_add, Int.mul_one, Int.mul_add]
    rw [e1, Int.sub_mul, Int.neg_mul, Int.one_mul] at hd
    rw [e2] at hk
    omega
  · simp only [h, and_false, if_false] at hd
    have hle : one * c + one ≤ (i + 1) * one := by
      have := Int.mul_le_mul_of_nonneg_left (show c + 1 ≤ i + 1 by omega) (show 0 ≤ one by omega)
      rw [Int.mul_add, Int.mul_one] at this; rw [Int.mul_comm (i + 1)]; exact this
    rw [if_pos (by omega)]
    have e1 : q * rd sz a + c - (q * (rd sz a + 1) + c) = - q := by rw [Int.mul_add]; omega
    have e2 : q * (one * (rd sz a + 1)) = q * (one * rd sz a) + q * one := by rw [Int.mul_add, Int.mul_one, Int.mul_add]
    rw [e1, Int.neg_mul] at hd
    rw [e2] at hk
    omega

/-- what stands of a slab's rows: whole numbers -/
structure Rows3 (sz cs : List Int) (a one s rows : Nat) : Prop where
  one_ : suf sz (a + 1) = one
  s_ : rd sz a = s
  len_ : cs.length = rows * (one * s)
  p1 : 1 ≤ one
  p2 : 1 ≤ s
  p3 : 1 ≤ rows
theorem rows3 (hwf : Wf sz cs) (ha : a < sz.length) : ∃ one s rows : Nat, Rows3 sz cs a one s rows := by
  have h1 := suf_pos hwf.pos (a + 1)
  have h2 := hwf.pos a ha
  have h3 := pr_pos hwf.pos a (by omega)
  obtain ⟨one, e1⟩ := Int.eq_ofNat_of_zero_le (show 0 ≤ suf sz (a + 1) by omega)
  obtain ⟨s, e2⟩ := Int.eq_ofNat_of_zero_le (show 0 ≤ rd sz a by omega)
  obtain ⟨rows, e3⟩ := Int.eq_ofNat_of_zero_le (show 0 ≤ pr sz a by omega)
  refine ⟨one, s, rows, e1, e2, ?_, by omega, by omega, by omega⟩
  have h := hwf.len
  rw [pr_mul_suf sz a (by omega), suf_step sz ha, e1, e2, e3] at h
  have : (cs.length : Int) = ((rows * (one * s) : Nat) : Int) := by rw [h]; simp [Int.mul_comm]
  omega
theorem growN_rows (hwf : Wf sz cs) (ha : a < sz.length) {one s rows : Nat} (r : Rows3 sz cs a one s rows) : growN sz cs a = rows * (one * s + one) := by
  have e : (cs.length : Int) / rd sz a = ((rows * one : Nat) : Int) := by
    rw [r.len_, r.s_, show rows * (one * s) = rows * one * s by rw [Nat.mul_assoc]]
    rw [Int.natCast_mul]; exact Int.mul_ediv_cancel _ (by have := r.p2; omega)
  have h := growN_eq hwf ha
  rw [e, r.s_] at h
  have : ((rows * one : Nat) : Int) * ((s : Int) + 1) = ((rows * (one * s + one) : Nat) : Int) := by
    rw [Nat.mul_add]; simp only [Int.natCast_mul, Int.natCast_add]; rw [Int.mul_add, Int.mul_one, Int.mul_assoc]
  omega
/-- rows grown are the slab grown -/
theorem growR_eq (hwf : Wf sz cs) (ha : a < sz.length) {i : Nat} (hi : (i : Int) < rd sz a) {one s rows : Nat} (r : Rows3 sz cs a one s rows) :
    growR cs one (one * s) i rows = growC sz cs a i := by
  have his : i + 1 ≤ s := by have := r.s_; omega
  have hi1 : (i + 1) * one ≤ one * s := by rw [Nat.mul_comm]; exact Nat.mul_le_mul_left _ his
  have hN := growN_rows hwf ha r
  have hL := growR_length (one := one) (i := i) r.len_ hi1 rows (Nat.le_refl _)
  refine ext_rd (by rw [hL, growC, growT_length, hN]) fun k hk => ?_
  rw [hL] at hk
  have hpos : 0 < one * s + one := by have := r.p1; omega
  have hkd := Nat.div_add_mod k (one * s + one)
  have hjl := Nat.mod_lt k hpos
  have hql : k / (one * s + one) < rows := Nat.div_lt_of_lt_mul (by rw [Nat.mul_comm]; exact hk)
  generalize hq : k / (one * s + one) = q at hkd hql
  generalize hj : k % (one * s + one) = j at hkd hjl
  have hke : k = q * (one * s + one) + j := by rw [Nat.mul_comm]; exact hkd.symm
  rw [hke, growR_rd r.len_ hi1 rows (Nat.le_refl _) q j hql hjl, ← hke]
  rw [growC, growT, rd_map_range _ _ _ (by rw [hN]; exact hk)]
  have hk' : (k : Int) = (q : Int) * (suf sz (a + 1) * (rd sz a + 1)) + j := by
    rw [r.one_, r.s_, hke, Int.mul_add, Int.mul_one]; simp only [Int.natCast_mul, Int.natCast_add]
  have hj' : (j : Int) < suf sz (a + 1) * (rd sz a + 1) := by
    rw [r.one_, r.s_, Int.mul_add, Int.mul_one]; have : ((one * s + one : Nat) : Int) = (one : Int) * s + one := by simp
    omega
  have hkN : (k : Int) < suf (growS sz a) 0 := by
    rw [← pr_all, growS_length, (grow_pr hwf ha).1, ← growN_eq hwf ha, hN]; omega
  obtain ⟨h1, h2⟩ := lower_place hwf ha (i := (i : Int)) (by omega) hi (by omega) hk' hj' hkN
  have hlen : (lower a (i : Int) (cellL (growS sz a) (k : Int))).length = sz.length := by unfold lower; split <;> simp
  rw [getV, if_pos h1, hlen, h2, r.one_, r.s_]
  congr 1
  by_cases hc : j < (i + 1) * one
  · have h6 : (((i + 1) * one : Nat) : Int) = ((i : Int) + 1) * one := by simp
    have h7 : (j : Int) < ((i : Int) + 1) * (one : Int) := by omega
    rw [if_pos hc, if_pos h7]
    have : ((q * (one * s) + j : Nat) : Int) = (q : Int) * ((one : Int) * (s : Int)) + (j : Int) := by simp
    omega
  · have h6 : (((i + 1) * one : Nat) : Int) = ((i : Int) + 1) * one := by simp
    have h3 : ¬ (j : Int) < ((i : Int) + 1) * (one : Int) := by omega
    have h4 : one ≤ (i + 1) * one := by rw [Nat.add_mul, Nat.one_mul]; omega
    rw [if_neg hc, if_neg h3]
    have : ((q * (one * s) + (j - one) : Nat) : Int) = (q : Int) * ((one : Int) * (s : Int)) + ((j : Int) - (one : Int)) := by
      rw [Int.natCast_add, Int.natCast_mul, Int.natCast_mul, Int.ofNat_sub (by omega)]
    omega
end
end Go.Proofs.Ytbofjdckmkifaaa
