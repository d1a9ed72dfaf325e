/-
  Shrunk slabs by rows, as plain lists. No program in sight. No condition.
-/
import Derived.Test.YtbofjdckmkifaaaM13
namespace Go.Proofs.Ytbofjdckmkifaaa

/-- the first r rows, without the part i + 1 of each -/
def shrR (cs : List Int) (one all i : Nat) : Nat → List Int
  | 0 => []
  | r + 1 => shrR cs one all i r ++ (rowAt cs all r).take ((i + 1) * one) ++ (rowAt cs all r).drop ((i + 2) * one)
/-- the parts i and i + 1 of a row are alike -/
def eqB (cs : List Int) (one all i r : Nat) : Bool := decide (((rowAt cs all r).drop (i * one)).take one = ((rowAt cs all r).drop ((i + 1) * one)).take one)
def eqR (cs : List Int) (one all i : Nat) : Nat → Bool
  | 0 => true
  | r + 1 => eqR cs one all i r && eqB cs one all i r
theorem eqR_iff {cs : List Int} {one all i : Nat} : ∀ r, eqR cs one all i r = true ↔ ∀ q, q < r → eqB cs one all i q = true
  | 0 => by simp [eqR]
  | r + 1 => by
    rw [eqR, Bool.and_eq_true, eqR_iff r]
    constructor
    · intro h q hq
      by_cases e : q = r
      · subst e; exact h.2
      · exact h.1 q (by omega)
    · exact fun h => ⟨fun q hq => h q (by omega), h r (by omega)⟩
theorem shrOk_iff {sz cs : List Int} {a : Nat} {i : Int} : ∀ k, shrOk sz cs a i k = true ↔ ∀ q : Nat, q < k → rd (cellL sz ((q : Nat) : Int)) a = i + 1 → getV sz cs ((cellL sz ((q : Nat) : Int)).set a i) = rd cs q
  | 0 => by simp [shrOk]
  | k + 1 => by
    rw [shrOk, Bool.and_eq_true, shrOk_iff k]
    constructor
    · intro h q hq e
      by_cases e2 : q = k
      · subst e2
        have := h.2
        simp only [Bool.or_eq_true, decide_eq_true_eq] at this
        rcases this with h | h
        · exact absurd e h
        · exact h
      · exact h.1 q (by omega) e
    · intro h
      refine ⟨fun q hq => h q (by omega), ?_⟩
      simp only [Bool.or_eq_true, decide_eq_true_eq]
      by_cases e : rd (cellL sz ((k : Nat) : Int)) a = i + 1
      · exact .inr (h k (by omega) e)
      · exact .inl e
section
variable {sz cs : List Int} {a one s rows : Nat}
theorem dig_row (hwf : Wf sz cs) (ha : a < sz.length) (r : Rows3 sz cs a one s rows) {q j : Nat} (hj : j < one * s) :
    rd (cellL sz ((q * (one * s) + j : Nat) : Int)) a = ((j / one : Nat) : Int) := by
  have h1 := r.p1
  rw [rd_cellL _ _ ha, dig, r.one_, r.s_]
  have e : ((q * (one * s) + j : Nat) : Int) / (one : Int) % (s : Int) = (((q * (one * s) + j) / one % s : Nat) : Int) := by simp
  rw [e]
  have e2 : q * (one * s) + j = one * (q * s) + j := by rw [Nat.mul_left_comm]
  rw [e2, Nat.mul_add_div (by omega), Nat.add_comm, Nat.add_mul_mod_self_right, Nat.mod_eq_of_lt]
  exact Nat.div_lt_of_lt_mul hj
theorem shr_place (hwf : Wf sz cs) (ha : a < sz.length) (r : Rows3 sz cs a one s rows) {i : Nat} (hi : i + 1 < s) {k : Nat} (hk : k < cs.length) (hd : rd (cellL sz (k : Int)) a = (i : Int) + 1) :
    one ≤ k ∧ getV sz cs ((cellL sz (k : Int)).set a (i : Int)) = rd cs (k - one) := by
  have hs := r.s_
  have hlen : ((cellL sz (k : Int)).set a (i : Int)).length = sz.length := by simp
  have hrd : ∀ m, rd ((cellL sz (k : Int)).set a (i : Int)) m = if a = m then (i : Int) else rd (cellL sz (k : Int)) m := fun m => rd_set _ _ _ _ (by simpa using ha)
  have hok : okc sz ((cellL sz (k : Int)).set a (i : Int)) sz.length = true := okc_of fun m hm => by
    have h1 := cellL_bd hwf.pos (k : Int) hm
    rw [hrd]
    by_cases e : a = m
    · subst e; simp; omega
    · rw [if_neg e]; exact h1
  have hc : isCell sz ((cellL sz (k : Int)).set a (i : Int)) = true := by simp only [isCell, hlen, hok, decide_true, Bool.and_self]
  have hdf := plc_diff (sz := sz) (sz' := sz) (x := (cellL sz (k : Int)).set a (i : Int)) (y := cellL sz (k : Int)) (a := a) sz.length ha (Nat.le_refl _) (fun m h1 h2 => by
    rw [hrd, if_neg (by omega)]; exact ⟨rfl, rfl⟩)
  have hsm := plc_same (sz := sz) (sz' := sz) (x := (cellL sz (k : Int)).set a (i : Int)) (y := cellL sz (k : Int)) a (fun m hm => by
    rw [hrd, if_neg (by omega)]; exact ⟨rfl, rfl⟩)
  simp only [plc] at hdf
  rw [hsm, suf_end sz (Nat.le_refl _), Int.mul_one, plc_of hwf hk, hrd, if_pos rfl, hd, r.one_] at hdf
  have e1 : plc sz (cellL sz (k : Int)) a * rd sz a + (i : Int) - (plc sz (cellL sz (k : Int)) a * rd sz a + ((i : Int) + 1)) = -1 := by omega
  rw [e1] at hdf
  have h0 := (plc_lt hwf.pos (Nat.le_refl _) hok).1
  have hle : one ≤ k := by omega
  refine ⟨hle, ?_⟩
  rw [getV, if_pos hc, hlen]
  congr 1
  omega
theorem rd_part {xs : List Int} {l n t : Nat} (h : t < n) : rd ((xs.drop l).take n) t = rd xs (l + t) := by rw [rd_take _ _ _ h, rd_drop]
theorem le_all {i : Nat} (hi : i + 1 < s) : (i + 2) * one ≤ one * s := by rw [Nat.mul_comm]; exact Nat.mul_le_mul_left _ (by omega)
theorem shrOk_rows (hwf : Wf sz cs) (ha : a < sz.length) (r : Rows3 sz cs a one s rows) {i : Nat} (hi : i + 1 < s) : shrOk sz cs a i cs.length = eqR cs one (one * s) i rows := by
  have h1 := r.p1
  have hle := le_all (one := one) hi
  have e1 : (i + 1) * one = i * one + one := by rw [Nat.add_mul, Nat.one_mul]
  have e2 : (i + 2) * one = i * one + one + one := by rw [Nat.add_mul]; omega
  have key : shrOk sz cs a i cs.length = true ↔ eqR cs one (one * s) i rows = true := by
    rw [shrOk_iff, eqR_iff]
    constructor
    · intro h q hq
      have hql : (q + 1) * (one * s) ≤ rows * (one * s) := Nat.mul_le_mul_right _ hq
      rw [Nat.add_mul, Nat.one_mul, ← r.len_] at hql
      have hrl := rowAt_length r.len_ hq
      refine decide_eq_true (ext_rd (by simp [hrl]; omega) fun t ht => ?_)
      have ht : t < one := by simp at ht; omega
      rw [rd_part ht, rd_part ht, rd_rowAt _ _ _ _ (by omega), rd_rowAt _ _ _ _ (by omega)]
      have hd := dig_row hwf ha r (q := q) (j := (i + 1) * one + t) (by omega)
      have hdv : ((i + 1) * one + t) / one = i + 1 := by rw [Nat.mul_comm, Nat.mul_add_div (by omega), Nat.div_eq_of_lt ht, Nat.add_zero]
      rw [hdv] at hd
      have h2 := h (q * (one * s) + ((i + 1) * one + t)) (by omega) (by rw [hd]; simp)
      rw [(shr_place hwf ha r hi (by omega) (by rw [hd]; simp)).2] at h2
      rw [← h2]; congr 1; omega
    · intro h k hk hd
      have hk2 := hk
      rw [r.len_] at hk2
      have hpos : 0 < one * s := by omega
      have hkd := Nat.div_add_mod k (one * s)
      have hjl := Nat.mod_lt k hpos
      have hql : k / (one * s) < rows := Nat.div_lt_of_lt_mul (by rw [Nat.mul_comm]; exact hk2)
      generalize hq : k / (one * s) = q at hkd hql
      generalize hj : k % (one * s) = j at hkd hjl
      have hke : k = q * (one * s) + j := by rw [Nat.mul_comm]; exact hkd.symm
      have hdd := dig_row hwf ha r (q := q) hjl
      rw [← hke, hd] at hdd
      have hjd : j / one = i + 1 := by omega
      have hjm := Nat.div_add_mod j one
      have hjt := Nat.mod_lt j h1
      rw [hjd, Nat.mul_comm] at hjm
      rw [(shr_place hwf ha r hi hk hd).2]
      have hB := of_decide_eq_true (h q hql)
      have h3 : rd (((rowAt cs (one * s) q).drop (i * one)).take one) (j % one) = rd (((rowAt cs (one * s) q).drop ((i + 1) * one)).take one) (j % one) := by rw [hB]
      rw [rd_part hjt, rd_part hjt, rd_rowAt _ _ _ _ (by omega), rd_rowAt _ _ _ _ (by omega)] at h3
      rw [show k - one = q * (one * s) + (i * one + j % one) by omega, h3]
      congr 1; omega
  cases h1 : shrOk sz cs a i cs.length <;> cases h2 : eqR cs one (one * s) i rows <;> simp_all
theorem take_more (xs : List Int) (j : Nat) (h : j < xs.length) : xs.take (j + 1) = xs.take j ++ [rd xs j] := by
  rw [List.take_add_one, rd_eq, List.getElem?_eq_getElem h]; rfl
theorem shrT_row (hwf : Wf sz cs) (ha : a < sz.length) (r : Rows3 sz cs a one s rows) {i : Nat} (hi : i + 1 < s) {q : Nat} (hq : q < rows) :
    ∀ j, j ≤ one * s → shrT sz cs a i (q * (one * s) + j) = shrT sz cs a i (q * (one * s)) ++ (((rowAt cs (one * s) q).take j).take ((i + 1) * one) ++ ((rowAt cs (one * s) q).take j).drop ((i + 2) * one)) := by
  have h1 := r.p1
  have hle := le_all (one := one) hi
  have e1 : (i + 1) * one = i * one + one := by rw [Nat.add_mul, Nat.one_mul]
  have e2 : (i + 2) * one = i * one + one + one := by rw [Nat.add_mul]; omega
  have hrl := rowAt_length r.len_ hq
  intro j
  induction j with
  | zero => intro _; simp
  | succ j ih =>
    intro hj
    have hd := dig_row hwf ha r (q := q) (j := j) (by omega)
    have hX : ((rowAt cs (one * s) q).take j).length = j := by simp [hrl]; omega
    rw [← Nat.add_assoc, shrT, hd, ih (by omega), take_more _ _ (by omega), List.take_append, List.drop_append, hX, rd_rowAt _ _ _ _ (by omega)]
    have hdm := Nat.div_add_mod j one
    have hmt := Nat.mod_lt j h1
    by_cases c1 : j < (i + 1) * one
    · have : j / one < i + 1 := Nat.div_lt_of_lt_mul (by rw [Nat.mul_comm]; exact c1)
      rw [if_pos (by omega), List.drop_eq_nil_of_le (by omega), List.drop_eq_nil_of_le (by simp; omega)]
      simp
      rw [List.take_of_length_le (by simp; omega)]
    · by_cases c2 : j < (i + 2) * one
      · have l1 : i + 1 ≤ j / one := (Nat.le_div_iff_mul_le (by omega)).2 (by omega)
        have l2 : j / one < i + 2 := Nat.div_lt_of_lt_mul (by rw [Nat.mul_comm]; exact c2)
        rw [if_neg (by omega), show (i + 1) * one - j = 0 by omega, List.drop_eq_nil_of_le (by omega), List.drop_eq_nil_of_le (by simp; omega)]
        simp
      · have l1 : i + 2 ≤ j / one := (Nat.le_div_iff_mul_le (by omega)).2 (by omega)
        rw [if_pos (by omega), show (i + 1) * one - j = 0 by omega, show (i + 2) * one - j = 0 by omega]
        simp
theorem shrT_rows (hwf : Wf sz cs) (ha : a < sz.length) (r : Rows3 sz cs a one s rows) {i : Nat} (hi : i + 1 < s) : ∀ q, q ≤ rows → shrT sz cs a i (q * (one * s)) = shrR cs one (one * s) i q := by
  intro q
  induction q with
  | zero => intro _; simp [shrT, shrR]
  | succ q ih =>
    intro hq
    have hrl := rowAt_length r.len_ (show q < rows by omega)
    have := shrT_row hwf ha r hi (show q < rows by omega) (one * s) (Nat.le_refl _)
    rw [List.take_of_length_le (show (rowAt cs (one * s) q).length ≤ one * s by omega)] at this
    rw [Nat.add_mul, Nat.one_mul, this, ih (by omega), shrR, List.append_assoc]
theorem shrR_length (r : Rows3 sz cs a one s rows) {i : Nat} (hi : i + 1 < s) : ∀ q, q ≤ rows → (shrR cs one (one * s) i q).length = q * (one * (s - 1)) := by
  intro q
  induction q with
  | zero => intro _; simp [shrR]
  | succ q ih =>
    intro hq
    have hrl := rowAt_length r.len_ (show q < rows by omega)
    have hle := le_all (one := one) hi
    have e1 : (i + 1) * one = i * one + one := by rw [Nat.add_mul, Nat.one_mul]
    have e2 : (i + 2) * one = i * one + one + one := by rw [Nat.add_mul]; omega
    have e3 : one * (s - 1) = one * s - one := by rw [Nat.mul_sub, Nat.mul_one]
    rw [shrR, List.length_append, List.length_append, ih (by omega), List.length_take, List.length_drop, hrl, show (q + 1) * (one * (s - 1)) = q * (one * (s - 1)) + one * (s - 1) by rw [Nat.add_mul, Nat.one_mul]]
    generalize q * (one * (s - 1)) = Q
    rw [e3]
    omega
theorem shr_wf (hwf : Wf sz cs) (ha : a < sz.length) {i : Nat} (hi : (i : Int) < rd sz a - 1) : Wf (shrS sz a) (shrT sz cs a i cs.length) := by
  obtain ⟨one, s, rows, r⟩ := rows3 hwf ha
  have hs := r.s_
  have hi : i + 1 < s := by omega
  have hL := shrR_length r hi rows (Nat.le_refl _)
  have hT : shrT sz cs a i cs.length = shrR cs one (one * s) i rows := by rw [r.len_]; exact shrT_rows hwf ha r hi rows (Nat.le_refl _)
  have hlen : (shrT sz cs a i cs.length).length = rows * (one * (s - 1)) := by rw [hT, hL]
  refine ⟨by simpa using hwf.lo, by simpa using hwf.hi, ?_, ?_, ?_⟩
  · intro k hk
    simp only [shrS_length] at hk
    have := hwf.pos k hk
    rw [shrS, rd_set _ _ _ _ ha]
    split <;> omega
  · obtain ⟨q, h1, h2⟩ := pr_set (rd sz a - 1) ha ha
    rw [shrS_length, shrS, h2, hlen]
    have h3 := hwf.len
    rw [h1, hs] at h3
    have h4 : q = ((rows * one : Nat) : Int) := by
      rw [r.len_] at h3
      have : ((rows * (one * s) : Nat) : Int) = ((rows * one : Nat) : Int) * (s : Int) := by rw [← Nat.mul_assoc, Int.natCast_mul]
      rw [this] at h3
      exact Int.eq_of_mul_eq_mul_right (show (s : Int) ≠ 0 by omega) h3.symm
    rw [h4, hs]
    have : ((s : Int) - 1) = ((s - 1 : Nat) : Int) := by omega
    rw [this, ← Int.natCast_mul, Nat.mul_assoc]
  · exact Nat.le_trans (shrT_len sz cs a i _) hwf.most
end
end Go.Proofs.Ytbofjdckmkifaaa
