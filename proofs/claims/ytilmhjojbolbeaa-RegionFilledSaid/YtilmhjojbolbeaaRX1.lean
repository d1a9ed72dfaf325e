/-
  What functions of the program compute. No condition beside those that each theorem states.
-/
import Derived.Test.YtilmhjojbolbeaaPA1
import Derived.Test.YtilmhjojbolbeaaPA4
set_option linter.all false

namespace Go.Proofs.Ytilmhjojbolbeaa
theorem rd_set (xs : List Int) (i j : Nat) (x : Int) (hi : i < xs.length) : rd (xs.set i x) j = if i = j then x else rd xs j := by
  simp only [rd_eq, List.getElem?_set]
  split <;> simp_all
theorem ext_rd {xs ys : List Int} (hl : xs.length = ys.length) (h : ∀ j, j < xs.length → rd xs j = rd ys j) : xs = ys := by
  apply List.ext_getElem hl
  intro j h1 h2
  have := h j h1
  simpa [rd_eq, List.getElem?_eq_getElem h1, List.getElem?_eq_getElem h2] using this
theorem rd_map_range (f : Nat → Int) (n j : Nat) (h : j < n) : rd ((List.range n).map f) j = f j := by simp [rd_eq, h]
theorem rd_nil (xs : List Int) (j : Nat) (h : xs.length ≤ j) : rd xs j = 0 := by simp [rd_eq, List.getElem?_eq_none h]
end Go.Proofs.Ytilmhjojbolbeaa

/-! ## The slab as plain lists: what the document says of it. No program in sight. No condition. -/
namespace Go.Proofs.Ytilmhjojbolbeaa

/-- the place of a cell, k numbers in -/
def plc (sz c : List Int) : Nat → Int
  | 0 => 0
  | k + 1 => plc sz c k * rd sz k + rd c k
def okc (sz c : List Int) : Nat → Bool
  | 0 => true
  | k + 1 => okc sz c k && (decide (0 ≤ rd c k) && decide (rd c k < rd sz k))
def pr (sz : List Int) : Nat → Int
  | 0 => 1
  | k + 1 => pr sz k * rd sz k
/-- sizes and contents that may be -/
structure Wf (sz cs : List Int) : Prop where
  lo : 1 ≤ sz.length
  hi : sz.length ≤ 6
  pos : ∀ k, k < sz.length → 1 ≤ rd sz k
  len : (cs.length : Int) = pr sz sz.length
  most : cs.length ≤ 4096

theorem okc_step {sz c : List Int} {k : Nat} (h : okc sz c (k + 1) = true) : okc sz c k = true ∧ 0 ≤ rd c k ∧ rd c k < rd sz k := by
  simpa [okc, and_assoc] using h
theorem okc_mono {sz c : List Int} {k l : Nat} (hk : k ≤ l) (h : okc sz c k = false) : okc sz c l = false := by
  induction l with
  | zero => have : k = 0 := by omega
            subst this; exact h
  | succ l ih =>
    by_cases e : k = l + 1
    · subst e; exact h
    · simp [okc, ih (by omega)]
theorem okc_at {sz c : List Int} {k l : Nat} (h : okc sz c l = true) (hk : k < l) : 0 ≤ rd c k ∧ rd c k < rd sz k := by
  by_cases e : okc sz c (k + 1) = true
  · exact (okc_step e).2
  · have := okc_mono (show k + 1 ≤ l by omega) (by simpa using e); rw [h] at this; cases this
theorem pr_pos {sz : List Int} (hp : ∀ k, k < sz.length → 1 ≤ rd sz k) : ∀ k, k ≤ sz.length → 1 ≤ pr sz k := by
  intro k
  induction k with
  | zero => intro _; simp [pr]
  | succ k ih =>
    intro hk
    have h1 := ih (by omega)
    have h2 := hp k (by omega)
    have := Int.mul_le_mul h1 h2 (by omega) (by omega)
    simpa [pr] using this
theorem pr_mono {sz : List Int} (hp : ∀ k, k < sz.length → 1 ≤ rd sz k) {k l : Nat} (hkl : k ≤ l) (hl : l ≤ sz.length) : pr sz k ≤ pr sz l := by
  induction l with
  | zero => have : k = 0 := by omega
            subst this; exact Int.le_refl _
  | succ l ih =>
    by_cases e : k = l + 1
    · subst e; exact Int.le_refl _
    · have h1 := ih (by omega) (by omega)
      have h2 := hp l (by omega)
      have h3 := pr_pos hp l (by omega)
      have := Int.mul_le_mul_of_nonneg_left h2 (show 0 ≤ pr sz l by omega)
      simp only [pr]; omega
theorem plc_lt {sz c : List Int} {k : Nat} (hp : ∀ k, k < sz.length → 1 ≤ rd sz k) (hk : k ≤ sz.length) (h : okc sz c k = true) : 0 ≤ plc sz c k ∧ plc sz c k < pr sz k := by
  induction k with
  | zero => simp [plc, pr]
  | succ k ih =>
    obtain ⟨h1, h2, h3⟩ := okc_step h
    obtain ⟨a, b⟩ := ih (by omega) h1
    have hs := hp k (by omega)
    have m1 := Int.mul_le_mul_of_nonneg_right (show plc sz c k + 1 ≤ pr sz k by omega) (show 0 ≤ rd sz k by omega)
    have m0 := Int.mul_nonneg a (show 0 ≤ rd sz k by omega)
    rw [Int.add_mul] at m1
    simp only [plc, pr]
    omega
theorem Wf.pos' {sz cs : List Int} (h : Wf sz cs) : 1 ≤ cs.length := by have := pr_pos h.pos sz.length (Nat.le_refl _); have := h.len; omega
theorem Wf.size_le {sz cs : List Int} (h : Wf sz cs) {k : Nat} (hk : k < sz.length) : 1 ≤ rd sz k ∧ rd sz k ≤ 4096 := by
  have h1 := h.pos k hk
  have h2 := pr_mono h.pos (show k + 1 ≤ sz.length by omega) (Nat.le_refl _)
  have h3 := pr_pos h.pos k (by omega)
  have h4 := h.len
  have h5 := h.most
  have := Int.mul_le_mul_of_nonneg_right h3 (show 0 ≤ rd sz k by omega)
  simp only [pr] at h2
  omega
theorem Wf.pr_le {sz cs : List Int} (h : Wf sz cs) {k : Nat} (hk : k ≤ sz.length) : 1 ≤ pr sz k ∧ pr sz k ≤ 4096 := by
  have h1 := pr_pos h.pos k hk
  have h2 := pr_mono h.pos hk (Nat.le_refl _)
  have h4 := h.len
  have h5 := h.most
  omega
/-- P13.2: the place of a cell -/
def isCell (sz c : List Int) : Bool := decide (c.length = sz.length) && okc sz c c.length
def placeV (sz c : List Int) : Int := if isCell sz c then plc sz c c.length else 0
def placeE (sz c : List Int) : Int := if isCell sz c then 0 else 1
theorem placeV_lt {sz cs c : List Int} (h : Wf sz cs) : 0 ≤ placeV sz c ∧ placeV sz c < cs.length := by
  unfold placeV
  have hl := h.pos'
  split
  · rename_i hc
    simp only [isCell, Bool.and_eq_true, decide_eq_true_eq] at hc
    have := plc_lt h.pos (by omega) hc.2
    have hlen := h.len
    rw [← hc.1] at hlen
    omega
  · omega
/-- P13.2: the content of a cell -/
def getV (sz cs c : List Int) : Int := if isCell sz c then rd cs (plc sz c c.length).toNat else 0

/-! ### the cells in their order -/
def suf (sz : List Int) (k : Nat) : Int := (sz.drop k).foldr (· * ·) 1
theorem suf_end (sz : List Int) {k : Nat} (h : sz.length ≤ k) : suf sz k = 1 := by unfold suf; rw [List.drop_eq_nil_of_le h]; rfl
theorem suf_step (sz : List Int) {k : Nat} (h : k < sz.length) : suf sz k = rd sz k * suf sz (k + 1) := by
  unfold suf; rw [List.drop_eq_getElem_cons h, List.foldr_cons, rd_eq, List.getElem?_eq_getElem h]; rfl
theorem suf_pos {sz : List Int} (hp : ∀ k, k < sz.length → 1 ≤ rd sz k) (k : Nat) : 1 ≤ suf sz k := by
  by_cases h : k < sz.length
  · have : ∀ d k, sz.length - k = d → 1 ≤ suf sz k := by
      intro d
      induction d with
      | zero => intro k hk; rw [suf_end sz (by omega)]; omega
      | succ d ih =>
        intro k hk
        rw [suf_step sz (by omega)]
        have h1 := ih (k + 1) (by omega)
        have h2 := hp k (by omega)
        have := Int.mul_le_mul h2 h1 (by omega) (by omega)
        omega
    exact this _ k rfl
  · rw [suf_end sz (by omega)]; omega
def dig (sz : List Int) (n : Int) (k : Nat) : Int := (n / suf sz (k + 1)) % rd sz k
def cellL (sz : List Int) (n : Int) : List Int := (List.range sz.length).map (dig sz n)
@[simp] theorem cellL_length (sz : List Int) (n : Int) : (cellL sz n).length = sz.length := by simp [cellL]
theorem rd_cellL (sz : List Int) (n : Int) {k : Nat} (h : k < sz.length) : rd (cellL sz n) k = dig sz n k := rd_map_range _ _ _ h
/-- what Cell's loop has made when the numbers from k on are there -/
def cellT (sz : List Int) (n : Int) (k : Nat) : List Int := (List.range sz.length).map fun j => if j < k then 0 else dig sz n j
@[simp] theorem cellT_length (sz : List Int) (n : Int) (k : Nat) : (cellT sz n k).length = sz.length := by simp [cellT]
theorem cellT_start (sz : List Int) (n : Int) : cellT sz n sz.length = List.replicate sz.length 0 := by
  refine ext_rd (by simp) fun j hj => ?_
  simp only [cellT_length] at hj
  rw [cellT, rd_map_range _ _ _ hj, if_pos hj]; simp [rd_eq, hj]
theorem cellT_end (sz : List Int) (n : Int) : cellT sz n 0 = cellL sz n := by simp [cellT, cellL]
theorem cellT_step (sz : List Int) (n : Int) (k : Nat) (h : k < sz.length) : (cellT sz n (k + 1)).set k (dig sz n k) = cellT sz n k := by
  refine ext_rd (by simp) fun j hj => ?_
  simp at hj
  rw [rd_set _ _ _ _ (by simpa using h), cellT, rd_map_range _ _ _ hj, cellT, rd_map_range _ _ _ hj]
  by_cases e : k = j
  · subst e; simp
  · by_cases e2 : j < k
    · simp [e, e2, show j < k + 1 by omega]
    · simp [e, e2, show ¬ j < k + 1 by omega]
def withinB (c low high : List Int) : Nat → Bool
  | 0 => true
  | k + 1 => withinB c low high k && (decide (rd low k ≤ rd c k) && decide (rd c k ≤ rd high k))
theorem withinB_mono {c low high : List Int} {k l : Nat} (hk : k ≤ l) (h : withinB c low high k = false) : withinB c low high l = false := by
  induction l with
  | zero => have : k = 0 := by omega
            subst this; exact h
  | succ l ih =>
    by_cases e : k = l + 1
    · subst e; exact h
    · simp [withinB, ih (by omega)]
def leB (low high : List Int) : Nat → Bool
  | 0 => true
  | k + 1 => leB low high k && decide (rd low k ≤ rd high k)
theorem leB_mono {low high : List Int} {k l : Nat} (hk : k ≤ l) (h : leB low high k = false) : leB low high l = false := by
  induction l with
  | zero => have : k = 0 := by omega
            subst this; exact h
  | succ l ih =>
    by_cases e : k = l + 1
    · subst e; exact h
    · simp [leB, ih (by omega)]
/-- may two cells be a range -/
def mayB (sz low high : List Int) : Bool := isCell sz low && isCell sz high && leB low high low.length
def hitB (sz low high : List Int) (i : Nat) : Bool := withinB (cellL sz i) low high sz.length
def fillT (sz cs low high : List Int) (n : Int) (k : Nat) : List Int := (List.range cs.length).map fun i => if i < k ∧ hitB sz low high i = true then n else rd cs i
@[simp] theorem fillT_length (sz cs low high : List Int) (n : Int) (k : Nat) : (fillT sz cs low high n k).length = cs.length := by simp [fillT]
theorem fillT_start (sz cs low high : List Int) (n : Int) : fillT sz cs low high n 0 = cs := by
  refine ext_rd (by simp) fun j hj => ?_
  simp only [fillT_length] at hj
  rw [fillT, rd_map_range _ _ _ hj]; simp
theorem fillT_hit (sz cs low high : List Int) (n : Int) (k : Nat) (hk : k < cs.length) (h : hitB sz low high k = true) : (fillT sz cs low high n k).set k n = fillT sz cs low high n (k + 1) := by
  refine ext_rd (by simp) fun j hj => ?_
  simp at hj
  rw [rd_set _ _ _ _ (by simpa using hk), fillT, rd_map_range _ _ _ hj, fillT, rd_map_range _ _ _ hj]
  by_cases e : k = j
  · subst e; simp [h]
  · by_cases e2 : j < k
    · simp [e, e2, show j < k + 1 by omega]
    · simp [e, e2, show ¬ j < k + 1 by omega]
theorem fillT_miss (sz cs low high : List Int) (n : Int) (k : Nat) (h : hitB sz low high k = false) : fillT sz cs low high n k = fillT sz cs low high n (k + 1) := by
  refine ext_rd (by simp) fun j hj => ?_
  simp at hj
  rw [fillT, rd_map_range _ _ _ hj, fillT, rd_map_range _ _ _ hj]
  by_cases e : k = j
  · subst e; simp [h]
  · by_cases e2 : j < k
    · simp [e2, show j < k + 1 by omega]
    · simp [e2, show ¬ j < k + 1 by omega]
def fillL (sz cs low high : List Int) (n : Int) : List Int := fillT sz cs low high n cs.length

/-- the contents seen among the first k cells -/
def seenT (sz cs low high : List Int) : Nat → List Int
  | 0 => []
  | k + 1 => if hitB sz low high k = true ∧ rd cs k ∉ seenT sz cs low high k then seenT sz cs low high k ++ [rd cs k] else seenT sz cs low high k
theorem seenT_len (sz cs low high : List Int) (k : Nat) : (seenT sz cs low high k).length ≤ k := by
  induction k with
  | zero => simp [seenT]
  | succ k ih =>
    simp only [seenT]
    split
    · simp; omega
    · omega
theorem seenT_new {sz cs low high : List Int} {k : Nat} (h : hitB sz low high k = true) (hn : rd cs k ∉ seenT sz cs low high k) : seenT sz cs low high (k + 1) = seenT sz cs low high k ++ [rd cs k] := by
  simp only [seenT]; rw [if_pos ⟨h, hn⟩]
theorem seenT_old {sz cs low high : List Int} {k : Nat} (hn : rd cs k ∈ seenT sz cs low high k) : seenT sz cs low high (k + 1) = seenT sz cs low high k := by
  simp only [seenT]; rw [if_neg (fun h => h.2 hn)]
theorem seenT_miss {sz cs low high : List Int} {k : Nat} (h : hitB sz low high k = false) : seenT sz cs low high (k + 1) = seenT sz cs low high k := by
  simp only [seenT]; rw [if_neg (fun h' => by simp [h] at h')]
def seenL (sz cs low high : List Int) : List Int := if mayB sz low high then seenT sz cs low high cs.length else []
theorem mem_take_succ (xs : List Int) (m : Nat) (h : m < xs.length) (x : Int) : (x ∈ xs.take (m + 1)) ↔ (x ∈ xs.take m ∨ rd xs m = x) := by
  rw [rd_eq, List.getElem?_eq_getElem h, Option.getD_some, List.take_succ_eq_append_getElem h, List.mem_append, List.mem_singleton]
  exact or_congr Iff.rfl eq_comm

/-! ### sizes that may be -/
def okp (sz : List Int) : Nat → Bool
  | 0 => true
  | k + 1 => okp sz k && (decide (1 ≤ rd sz k) && (decide (rd sz k ≤ 4096) && decide (pr sz k * rd sz k ≤ 4096)))
theorem okp_step {sz : List Int} {k : Nat} (h : okp sz (k + 1) = true) : okp sz k = true ∧ 1 ≤ rd sz k ∧ rd sz k ≤ 4096 ∧ pr sz (k + 1) ≤ 4096 := by
  simp only [okp, Bool.and_eq_true, decide_eq_true_eq] at h
  exact ⟨h.1, h.2.1, h.2.2.1, h.2.2.2⟩
theorem okp_mono {sz : List Int} {k l : Nat} (hk : k ≤ l) (h : okp sz k = false) : okp sz l = false := by
  induction l with
  | zero => have : k = 0 := by omega
            subst this; exact h
  | succ l ih =>
    by_cases e : k = l + 1
    · subst e; exact h
    · simp [okp, ih (by omega)]
theorem okp_bd {sz : List Int} {k : Nat} (h : okp sz k = true) : 1 ≤ pr sz k ∧ pr sz k ≤ 4096 ∧ ∀ j, j < k → 1 ≤ rd sz j ∧ rd sz j ≤ 4096 := by
  induction k with
  | zero => simp [pr]
  | succ k ih =>
    obtain ⟨h1, h2, h3, h4⟩ := okp_step h
    obtain ⟨a, b, c⟩ := ih h1
    refine ⟨?_, h4, fun j hj => ?_⟩
    · have := Int.mul_le_mul a h2 (by omega) (by omega); simpa [pr] using this
    · by_cases e : j = k
      · subst e; exact ⟨h2, h3⟩
      · exact c j (by omega)
def prodV (sz : List Int) : Int := if okp sz sz.length then pr sz sz.length else 0
def ofB (sz cs : List Int) : Bool := decide (1 ≤ sz.length) && (decide (sz.length ≤ 6) && (okp sz sz.length && decide (pr sz sz.length = cs.length)))
theorem ofB_wf {sz cs : List Int} (h : ofB sz cs = true) : Wf sz cs := by
  simp only [ofB, Bool.and_eq_true, decide_eq_true_eq] at h
  obtain ⟨a, b, c, d⟩ := h
  have := okp_bd c
  exact ⟨a, b, fun k hk => (this.2.2 k hk).1, d.symm, by omega⟩
theorem wf_okp {sz cs : List Int} (h : Wf sz cs) : ∀ k, k ≤ sz.length → okp sz k = true := by
  intro k
  induction k with
  | zero => intro _; rfl
  | succ k ih =>
    intro hk
    have h1 := h.size_le (k := k) (by omega)
    have h2 := h.pr_le hk
    simp only [pr] at h2
    simp [okp, ih (by omega), h1.1, h1.2, h2.2]
theorem wf_ofB {sz cs : List Int} (h : Wf sz cs) : ofB sz cs = true := by
  simp [ofB, h.lo, h.hi, wf_okp h _ (Nat.le_refl _), h.len]

theorem pr_congr {xs ys : List Int} {k : Nat} (h : ∀ j, j < k → rd xs j = rd ys j) : pr xs k = pr ys k := by
  induction k with
  | zero => rfl
  | succ k ih => simp only [pr]; rw [ih (fun j hj => h j (by omega)), h k (by omega)]
/-! ### rows -/
theorem pr_suf (sz : List Int) (k : Nat) (h : k ≤ sz.length) : pr sz k * suf sz k = suf sz 0 := by
  induction k with
  | zero => simp [pr]
  | succ k ih =>
    have e := suf_step sz (show k < sz.length by omega)
    rw [← ih (by omega), e]; simp only [pr]; rw [Int.mul_assoc]
theorem pr_all (sz : List Int) : pr sz sz.length = suf sz 0 := by
  have := pr_suf sz sz.length (Nat.le_refl _)
  rw [suf_end sz (Nat.le_refl _), Int.mul_one] at this; exact this
theorem suf_drop (sz : List Int) (k : Nat) : suf (sz.drop k) 0 = suf sz k := by simp [suf]
theorem suf_le {sz cs : List Int} (h : Wf sz cs) (k : Nat) (hk : k ≤ sz.length) : suf sz k ≤ 4096 := by
  have h1 := pr_suf sz k hk
  have h2 := pr_pos h.pos k hk
  have h3 := suf_pos h.pos k
  have h4 := h.pr_le (Nat.le_refl sz.length)
  rw [pr_all] at h4
  have := Int.mul_le_mul_of_nonneg_right h2 (show 0 ≤ suf sz k by omega)
  omega
theorem okp_of {xs : List Int} (hp : ∀ k, k < xs.length → 1 ≤ rd xs k) (hm : pr xs xs.length ≤ 4096) : ∀ k, k ≤ xs.length → okp xs k = true := by
  intro k
  induction k with
  | zero => intro _; rfl
  | succ k ih =>
    intro hk
    have h1 := hp k (by omega)
    have h2 := pr_mono hp hk (Nat.le_refl _)
    have h3 := pr_pos hp k (by omega)
    have := Int.mul_le_mul_of_nonneg_right h3 (show 0 ≤ rd xs k by omega)
    simp only [pr] at h2
    simp [okp, ih (by omega)]
    omega
theorem rd_drop (xs : List Int) (k j : Nat) : rd (xs.drop k) j = rd xs (k + j) := by simp [rd_eq, List.getElem?_drop]
theorem rd_take (xs : List Int) (k j : Nat) (h : j < k) : rd (xs.take k) j = rd xs j := by simp [rd_eq, h]
theorem prod_drop {sz cs : List Int} (h : Wf sz cs) (k : Nat) (hk : k ≤ sz.length) : prodV (sz.drop k) = suf sz k := by
  have e : pr (sz.drop k) (sz.drop k).length = suf sz k := by rw [pr_all, suf_drop]
  rw [prodV, if_pos, e]
  refine okp_of (fun j hj => ?_) (by rw [e]; exact suf_le h k hk) _ (Nat.le_refl _)
  rw [rd_drop]; simp at hj; exact h.pos _ (by omega)
end Go.Proofs.Ytilmhjojbolbeaa

/-! ## The cells of a range, in their order, as plain lists: the next cell is the next place that lies in the range. No program in sight. No condition. -/
namespace Go.Proofs.Ytilmhjojbolbeaa

theorem plc_mono {sz x y : List Int} {k l : Nat} (hp : ∀ k, k < sz.length → 1 ≤ rd sz k) (hl : l ≤ sz.length) (hkl : k ≤ l) (h : plc sz x k ≤ plc sz y k) (hc : ∀ i, k ≤ i → i < l → rd x i ≤ rd y i) : plc sz x l ≤ plc sz y l := by
  induction l with
  | zero => have : k = 0 := by omega
            subst this; exact h
  | succ l ih =>
    by_cases e : k = l + 1
    · subst e; exact h
    · have h1 := ih (by omega) (by omega) (fun i h1 h2 => hc i h1 (by omega))
      have h2 := hc l (by omega) (by omega)
      have h3 := Int.mul_le_mul_of_nonneg_right h1 (show 0 ≤ rd sz l by have := hp l (by omega); omega)
      simp only [plc]; omega
/-- a place ahead stays ahead -/
theorem plc_ahead {sz x y : List Int} {k l : Nat} (hp : ∀ k, k < sz.length → 1 ≤ rd sz k) (hl : l ≤ sz.length) (hkl : k ≤ l) (h : plc sz x k < plc sz y k) (hx : ∀ i, i < l → rd x i < rd sz i) (hy : ∀ i, i < l → 0 ≤ rd y i) : plc sz x l < plc sz y l := by
  induction l with
  | zero => have : k = 0 := by omega
            subst this; exact h
  | succ l ih =>
    by_cases e : k = l + 1
    · subst e; exact h
    · have h1 := ih (by omega) (by omega) (fun i hi => hx i (by omega)) (fun i hi => hy i (by omega))
      have h2 := hx l (by omega)
      have h3 := hy l (by omega)
      have h4 := Int.mul_le_mul_of_nonneg_right (show plc sz x l + 1 ≤ plc sz y l by omega) (show 0 ≤ rd sz l by have := hp l (by omega); omega)
      rw [Int.add_mul] at h4
      simp only [plc]; omega
theorem okc_of {sz c : List Int} {l : Nat} (h : ∀ k, k < l → 0 ≤ rd c k ∧ rd c k < rd sz k) : okc sz c l = true := by
  induction l with
  | zero => rfl
  | succ l ih => simp [okc, ih (fun k hk => h k (by omega)), h l (by omega)]
theorem pr_mul_suf (sz : List Int) (k : Nat) (h : k ≤ sz.length) : pr sz sz.length = pr sz k * suf sz k := by rw [pr_all, pr_suf sz k h]
/-- the place, k numbers in, of the cell of a place -/
theorem plc_cellL {sz : List Int} (hp : ∀ k, k < sz.length → 1 ≤ rd sz k) {n : Int} (h0 : 0 ≤ n) (h1 : n < suf sz 0) {k : Nat} (hk : k ≤ sz.length) : plc sz (cellL sz n) k = n / suf sz k := by
  induction k with
  | zero => simp only [plc]; rw [Int.ediv_eq_zero_of_lt h0 h1]
  | succ k ih =>
    simp only [plc]
    rw [ih (by omega), rd_cellL _ _ (by omega)]
    unfold dig
    have e := suf_step sz (show k < sz.length by omega)
    have e2 : n / suf sz k = n / suf sz (k + 1) / rd sz k := by
      rw [Int.ediv_ediv_of_nonneg (by have := suf_pos hp (k + 1); omega), e, Int.mul_comm]
    rw [e2, Int.mul_comm]
    exact Int.mul_ediv_add_emod (n / suf sz (k + 1)) (rd sz k)
theorem cellL_bd {sz : List Int} (hp : ∀ k, k < sz.length → 1 ≤ rd sz k) (n : Int) {k : Nat} (hk : k < sz.length) : 0 ≤ rd (cellL sz n) k ∧ rd (cellL sz n) k < rd sz k := by
  rw [rd_cellL _ _ hk]
  have := hp k hk
  exact ⟨Int.emod_nonneg _ (by omega), Int.emod_lt_of_pos _ (by omega)⟩
/-- the cell of the place of a cell -/
theorem cellL_plc {sz c : List Int} (hp : ∀ k, k < sz.length → 1 ≤ rd sz k) (hl : c.length = sz.length) (hc : okc sz c sz.length = true) : cellL sz (plc sz c sz.length) = c := by
  have hb := plc_lt hp (Nat.le_refl _) hc
  rw [pr_all] at hb
  have key : ∀ d k, sz.length - k = d → k ≤ sz.length → plc sz c k = plc sz c sz.length / suf sz k := by
    intro d
    induction d with
    | zero => intro k hd hk; obtain rfl : k = sz.length := by omega
              rw [suf_end sz (Nat.le_refl _), Int.ediv_one]
    | succ d ih =>
      intro k hd hk
      have hlt : k < sz.length := by omega
      have h1 := ih (k + 1) (by omega) (by omega)
      have hs := hp k hlt
      have hck := okc_at hc hlt
      have e := suf_step sz hlt
      rw [e, Int.mul_comm, ← Int.ediv_ediv_of_nonneg (by have := suf_pos hp (k + 1); omega), ← h1]
      simp only [plc]
      rw [Int.add_ediv_of_dvd_left (Int.dvd_mul_left _ _), Int.mul_ediv_cancel _ (by omega), Int.ediv_eq_zero_of_lt hck.1 hck.2, Int.add_zero]
  refine ext_rd (by simp [hl]) fun j hj => ?_
  simp only [cellL_length] at hj
  rw [rd_cellL _ _ hj]
  unfold dig
  rw [← key _ (j + 1) rfl (by omega)]
  have hck := okc_at hc hj
  simp only [plc]
  rw [Int.add_comm, Int.add_mul_emod_self_right, Int.emod_eq_of_lt hck.1 hck.2]

theorem withinB_at {c low high : List Int} {l : Nat} : withinB c low high l = true ↔ ∀ k, k < l → rd low k ≤ rd c k ∧ rd c k ≤ rd high k := by
  induction l with
  | zero => simp [withinB]
  | succ l ih =>
    simp only [withinB, Bool.and_eq_true, decide_eq_true_eq, ih]
    constructor
    · rintro ⟨h1, h2, h3⟩ k hk
      by_cases e : k = l
      · subst e; exact ⟨h2, h3⟩
      · exact h1 k (by omega)
    · intro h; exact ⟨fun k hk => h k (by omega), (h l (by omega)).1, (h l (by omega)).2⟩
theorem leB_at {low high : List Int} {l : Nat} : leB low high l = true ↔ ∀ k, k < l → rd low k ≤ rd high k := by
  induction l with
  | zero => simp [leB]
  | succ l ih =>
    simp only [leB, Bool.and_eq_true, decide_eq_true_eq, ih]
    constructor
    · rintro ⟨h1, h2⟩ k hk
      by_cases e : k = l
      · subst e; exact h2
      · exact h1 k (by omega)
    · intro h; exact ⟨fun k hk => h k (by omega), h l (by omega)⟩

/-- the places of the range among the first n -/
def hits (sz low high : List Int) (n : Nat) : List Nat := (List.range n).filter (hitB sz low high)
theorem hits_hit {sz low high : List Int} {p : Nat} (h : hitB sz low high p = true) : hits sz low high (p + 1) = hits sz low high p ++ [p] := by
  simp [hits, List.range_succ, h]
theorem hits_skip {sz low high : List Int} {p q : Nat} (hpq : p ≤ q) (h : ∀ r, p ≤ r → r < q → hitB sz low high r = false) : hits sz low high q = hits sz low high p := by
  induction q with
  | zero => have : p = 0 := by omega
            subst this; rfl
  | succ q ih =>
    by_cases e : p = q + 1
    · subst e; rfl
    · rw [← ih (by omega) (fun r h1 h2 => h r h1 (by omega))]
      simp [hits, List.range_succ, h q (by omega) (by omega)]
/-- the cell when the numbers from k on were turned back -/
def odo (c low : List Int) (k : Nat) : List Int := (List.range c.length).map fun j => if j < k then rd c j else rd low j
/-- .. and the number before them is raised -/
def nxt (c low : List Int) (k : Nat) : List Int := (odo c low (k + 1)).set k (rd c k + 1)
@[simp] theorem odo_length (c low : List Int) (k : Nat) : (odo c low k).length = c.length := by simp [odo]
@[simp] theorem nxt_length (c low : List Int) (k : Nat) : (nxt c low k).length = c.length := by simp [nxt]
theorem rd_odo (c low : List Int) (k j : Nat) (h : j < c.length) : rd (odo c low k) j = if j < k then rd c j else rd low j := rd_map_range _ _ _ h
theorem odo_all (c low : List Int) : odo c low c.length = c := by
  refine ext_rd (by simp) fun j hj => ?_
  simp at hj
  rw [rd_odo _ _ _ _ hj, if_pos hj]
theorem odo_step (c low : List Int) (k : Nat) (h : k < c.length) : (odo c low (k + 1)).set k (rd low k) = odo c low k := by
  refine ext_rd (by simp) fun j hj => ?_
  simp at hj
  rw [rd_set _ _ _ _ (by simpa using h), rd_odo _ _ _ _ hj, rd_odo _ _ _ _ hj]
  by_cases e : k = j
  · subst e; simp
  · by_cases e2 : j < k
    · simp [e, e2, show j < k + 1 by omega]
    · simp [e, e2, show ¬ j < k + 1 by omega]
theorem rd_nxt (c low : List Int) (k j : Nat) (hk : k < c.length) (h : j < c.length) : rd (nxt c low k) j = if j < k then rd c j else if j = k then rd c j + 1 else rd low j := by
  rw [nxt, rd_set _ _ _ _ (by simpa using hk), rd_odo _ _ _ _ h]
  by_cases e : k = j
  · subst e; simp
  · by_cases e2 : j < k
    · simp [e, e2, show j < k + 1 by omega]
    · simp [e, e2, show ¬ j < k + 1 by omega, show ¬ j = k by omega]
section
variable {sz cs low high : List Int}
theorem may_facts (h : mayB sz low high = true) : low.length = sz.length ∧ high.length = sz.length ∧ okc sz low sz.length = true ∧ okc sz high sz.length = true ∧ ∀ k, k < sz.length → rd low k ≤ rd high k := by
  simp only [mayB, isCell, Bool.and_eq_true, decide_eq_true_eq] at h
  obtain ⟨⟨⟨h1, h2⟩, h3, h4⟩, h5⟩ := h
  rw [h1] at h2 h5; rw [h3] at h4
  exact ⟨h1, h3, h2, h4, leB_at.1 h5⟩
theorem suf0_len (hwf : Wf sz cs) : suf sz 0 = cs.length := by rw [← pr_all, hwf.len]
/-- the places of the cells of a place -/
theorem plc_of (hwf : Wf sz cs) {q : Nat} (hq : q < cs.length) : plc sz (cellL sz q) sz.length = q := by
  rw [plc_cellL hwf.pos (by omega) (by rw [suf0_len hwf]; omega) (Nat.le_refl _), suf_end sz (Nat.le_refl _), Int.ediv_one]
theorem hit_iff {q : Nat} : hitB sz low high q = true ↔ ∀ k, k < sz.length → rd low k ≤ rd (cellL sz q) k ∧ rd (cellL sz q) k ≤ rd high k := withinB_at
/-- the first place -/
theorem first_hit (hwf : Wf sz cs) (hm : mayB sz low high = true) : ∃ p : Nat, plc sz low sz.length = p ∧ p < cs.length ∧ cellL sz p = low ∧ hitB sz low high p = true ∧ hits sz low high p = [] := by
  obtain ⟨l1, l2, o1, o2, hle⟩ := may_facts hm
  have hb := plc_lt hwf.pos (Nat.le_refl _) o1
  rw [← hwf.len] at hb
  obtain ⟨p, hp⟩ := Int.eq_ofNat_of_zero_le hb.1
  have hc : cellL sz p = low := by rw [← hp]; exact cellL_plc hwf.pos l1 o1
  refine ⟨p, hp, by omega, hc, ?_, ?_⟩
  · rw [hit_iff, hc]; exact fun k hk => ⟨Int.le_refl _, hle k hk⟩
  · have := hits_skip (sz := sz) (low := low) (high := high) (p := 0) (q := p) (Nat.zero_le _) (fun r _ hr => by
      cases hh : hitB sz low high r with
      | false => rfl
      | true =>
        have h1 := hit_iff.1 hh
        have := plc_mono (x := low) (y := cellL sz r) (k := 0) hwf.pos (Nat.le_refl _) (Nat.zero_le _) (by simp [plc]) (fun i _ hi => (h1 i hi).1)
        rw [plc_of hwf (by omega), hp] at this
        omega)
    rw [this]; rfl
/-- no place behind the last one -/
theorem last_hit (hwf : Wf sz cs) {p : Nat} (hp : p < cs.length) (hend : ∀ j, j < sz.length → rd (cellL sz p) j = rd high j) : hits sz low high cs.length = hits sz low high (p + 1) := by
  refine hits_skip (by omega) fun r h1 h2 => ?_
  cases hh : hitB sz low high r with
  | false => rfl
  | true =>
    have h := hit_iff.1 hh
    have := plc_mono (x := cellL sz r) (y := cellL sz p) (k := 0) hwf.pos (Nat.le_refl _) (Nat.zero_le _) (by simp [plc]) (fun i _ hi => by rw [hend i hi]; exact (h i hi).2)
    rw [plc_of hwf h2, plc_of hwf hp] at this
    omega
/-- the next place -/
theorem next_hit (hwf : Wf sz cs) (hm : mayB sz low high = true) {p j : Nat} (hp : p < cs.length) (hh : hitB sz low high p = true) (hj : j < sz.length) (hend : ∀ i, j < i → i < sz.length → rd (cellL sz p) i = rd high i)
    (hne : rd (cellL sz p) j ≠ rd high j) : ∃ q : Nat, placeV sz (nxt (cellL sz p) low j) = q ∧ q < cs.length ∧ cellL sz q = nxt (cellL sz p) low j ∧ hitB sz low high q = true ∧ hits sz low high q = hits sz low high (p + 1) ∧ p < q := by
  obtain ⟨l1, l2, o1, o2, hle⟩ := may_facts hm
  have h := hit_iff.1 hh
  have hn : ∀ i, i < sz.length → rd (nxt (cellL sz p) low j) i = if i < j then rd (cellL sz p) i else if i = j then rd (cellL sz p) i + 1 else rd low i := fun i hi => rd_nxt _ _ _ _ (by simpa using hj) (by simpa using hi)
  have hw : ∀ i, i < sz.length → rd low i ≤ rd (nxt (cellL sz p) low j) i ∧ rd (nxt (cellL sz p) low j) i ≤ rd high i := by
    intro i hi
    have h1 := h i hi
    have h2 := hle i hi
    rw [hn i hi]
    split
    · exact h1
    · split
      · rename_i e; subst e; omega
      · omega
  have hok : okc sz (nxt (cellL sz p) low j) sz.length = true := okc_of fun i hi => by
    have h1 := hw i hi
    have h2 := okc_at o1 hi
    have h3 := okc_at o2 hi
    omega
  have hb := plc_lt hwf.pos (Nat.le_refl _) hok
  rw [← hwf.len] at hb
  obtain ⟨q, hq⟩ := Int.eq_ofNat_of_zero_le hb.1
  have hlen : (nxt (cellL sz p) low j).length = sz.length := by simp
  have hc : cellL sz q = nxt (cellL sz p) low j := by rw [← hq]; exact cellL_plc hwf.pos hlen hok
  have hpl : placeV sz (nxt (cellL sz p) low j) = q := by
    have : isCell sz (nxt (cellL sz p) low j) = true := by simp only [isCell, hlen, hok, decide_true, Bool.and_self]
    rw [placeV, if_pos this, hlen, hq]
  have epre : plc sz (nxt (cellL sz p) low j) j = plc sz (cellL sz p) j := by
    apply Int.le_antisymm
    · exact plc_mono (k := 0) hwf.pos (by omega) (Nat.zero_le _) (by simp [plc]) (fun i _ hi => by rw [hn i (by omega), if_pos hi]; exact Int.le_refl _)
    · exact plc_mono (k := 0) hwf.pos (by omega) (Nat.zero_le _) (by simp [plc]) (fun i _ hi => by rw [hn i (by omega), if_pos hi]; exact Int.le_refl _)
  have ej : plc sz (nxt (cellL sz p) low j) (j + 1) = plc sz (cellL sz p) (j + 1) + 1 := by
    simp only [plc]; rw [epre, hn j hj]; simp; omega
  have hpq : p < q := by
    have := plc_ahead (x := cellL sz p) (y := nxt (cellL sz p) low j) (k := j + 1) hwf.pos (Nat.le_refl _) (by omega) (by omega) (fun i hi => (cellL_bd hwf.pos _ hi).2) (fun i hi => by have := okc_at hok hi; omega)
    rw [plc_of hwf hp, hq] at this
    omega
  refine ⟨q, hpl, by omega, hc, by rw [hit_iff, hc]; exact hw, hits_skip (by omega) fun r h1 h2 => ?_, hpq⟩
  cases hr : hitB sz low high r with
  | false => rfl
  | true =>
    exfalso
    have hrl : r < cs.length := by omega
    have g := hit_iff.1 hr
    -- r's place, j + 1 numbers in, is not ahead of p's
    have a1 : plc sz (cellL sz p) (j + 1) ≤ plc sz (cellL sz r) (j + 1) := by
      apply Int.not_lt.1
      intro hlt
      have := plc_ahead (x := cellL sz r) (y := cellL sz p) (k := j + 1) hwf.pos (Nat.le_refl _) (by omega) hlt (fun i hi => (cellL_bd hwf.pos _ hi).2) (fun i hi => (cellL_bd hwf.pos _ hi).1)
      rw [plc_of hwf hrl, plc_of hwf hp] at this
      omega
    have a2 : ¬ plc sz (cellL sz r) (j + 1) ≤ plc sz (cellL sz p) (j + 1) := by
      intro hle2
      have := plc_mono (x := cellL sz r) (y := cellL sz p) (k := j + 1) hwf.pos (Nat.le_refl _) (by omega) hle2 (fun i h1 h2 => by rw [hend i (by omega) h2]; exact (g i h2).2)
      rw [plc_of hwf hrl, plc_of hwf hp] at this
      omega
    have := plc_mono (x := nxt (cellL sz p) low j) (y := cellL sz r) (k := j + 1) hwf.pos (Nat.le_refl _) (by omega) (by omega) (fun i h1 h2 => by rw [hn i h2, if_neg (by omega), if_neg (by omega)]; exact (g i h2).1)
    rw [plc_of hwf hrl, hq] at this
    omega
end
/-- the contents when the places of a list were filled -/
def fillBy (cs : List Int) (n : Int) (pre : List Nat) : List Int := (List.range cs.length).map fun i => if i ∈ pre then n else rd cs i
@[simp] theorem fillBy_length (cs : List Int) (n : Int) (pre : List Nat) : (fillBy cs n pre).length = cs.length := by simp [fillBy]
theorem fillBy_nil (cs : List Int) (n : Int) : fillBy cs n [] = cs := by
  refine ext_rd (by simp) fun j hj => ?_
  simp at hj
  rw [fillBy, rd_map_range _ _ _ hj]; simp
theorem fillBy_snoc (cs : List Int) (n : Int) (pre : List Nat) (p : Nat) (hp : p < cs.length) : (fillBy cs n pre).set p n = fillBy cs n (pre ++ [p]) := by
  refine ext_rd (by simp) fun j hj => ?_
  simp at hj
  rw [rd_set _ _ _ _ (by simpa using hp), fillBy, rd_map_range _ _ _ hj, fillBy, rd_map_range _ _ _ hj]
  by_cases e : p = j
  · subst e; simp
  · simp [e, show ¬ j = p by omega]
theorem fillBy_hits (sz cs low high : List Int) (n : Int) : fillBy cs n (hits sz low high cs.length) = fillL sz cs low high n := by
  refine ext_rd (by simp [fillL]) fun j hj => ?_
  simp at hj
  rw [fillBy, rd_map_range _ _ _ hj, fillL, fillT, rd_map_range _ _ _ hj]
  simp [hits, hj]
end Go.Proofs.Ytilmhjojbolbeaa

/-! ## What a range is filled with, as plain lists: how many cells it has, what is seen and got there. No program in sight. No condition. -/
namespace Go.Proofs.Ytilmhjojbolbeaa

/-- how many of the first n -/
def cnt (f : Nat → Bool) : Nat → Nat
  | 0 => 0
  | n + 1 => cnt f n + (if f n then 1 else 0)
theorem cnt_congr {f g : Nat → Bool} {n : Nat} (h : ∀ k, k < n → f k = g k) : cnt f n = cnt g n := by
  induction n with
  | zero => rfl
  | succ n ih => simp only [cnt]; rw [ih (fun k hk => h k (by omega)), h n (by omega)]
theorem cnt_le {f g : Nat → Bool} {n : Nat} (h : ∀ k, k < n → f k = true → g k = true) : cnt f n ≤ cnt g n := by
  induction n with
  | zero => exact Nat.le_refl _
  | succ n ih =>
    simp only [cnt]
    have h1 := ih (fun k hk => h k (by omega))
    have h2 := h n (by omega)
    cases hf : f n <;> cases hg : g n <;> simp <;> simp [hf, hg] at h2 <;> omega
theorem cnt_none {f : Nat → Bool} {n : Nat} (h : ∀ k, k < n → f k = false) : cnt f n = 0 := by
  induction n with
  | zero => rfl
  | succ n ih => simp only [cnt]; rw [ih (fun k hk => h k (by omega)), h n (by omega)]; rfl
theorem cnt_add (f : Nat → Bool) (a b : Nat) : cnt f (a + b) = cnt f a + cnt (fun t => f (a + t)) b := by
  induction b with
  | zero => simp [cnt]
  | succ b ih => rw [← Nat.add_assoc]; simp only [cnt]; rw [ih, Nat.add_assoc]
theorem cnt_mul {f g h : Nat → Bool} {b : Nat} : ∀ a, (∀ p t, p < a → t < b → f (p * b + t) = (g p && h t)) → cnt f (a * b) = cnt g a * cnt h b := by
  intro a
  induction a with
  | zero => intro _; simp [cnt]
  | succ a ih =>
    intro hf
    rw [Nat.add_mul, Nat.one_mul, cnt_add, ih (fun p t hp ht => hf p t (by omega) ht), cnt, Nat.add_mul]
    congr 1
    cases hg : g a with
    | true => simp; exact cnt_congr fun t ht => by rw [hf a t (by omega) ht, hg]; simp
    | false => simp; exact cnt_none fun t ht => by rw [hf a t (by omega) ht, hg]; simp
theorem cnt_range {l h n : Nat} (h1 : l ≤ h) (h2 : h < n) : cnt (fun t => decide (l ≤ t) && decide (t ≤ h)) n = h - l + 1 := by
  obtain ⟨m, rfl⟩ : ∃ m, n = l + ((h - l + 1) + m) := ⟨n - (h + 1), by omega⟩
  rw [cnt_add, cnt_add, cnt_none (fun k hk => by simp; omega)]
  rw [cnt_none (n := m) (fun k hk => by simp; omega)]
  have : ∀ d, d ≤ h - l + 1 → cnt (fun t => decide (l ≤ l + t) && decide (l + t ≤ h)) d = d := by
    intro d
    induction d with
    | zero => intro _; rfl
    | succ d ih => intro hd; simp only [cnt]; rw [ih (by omega), if_pos (by simp; omega)]
  rw [this _ (Nat.le_refl _)]; omega

/-- how many cells a range has, of the first k coordinates -/
def vol (low high : List Int) : Nat → Int
  | 0 => 1
  | k + 1 => vol low high k * (rd high k - rd low k + 1)
/-- is the place q of the first k coordinates in the range -/
def inPre (sz low high : List Int) : Nat → Nat → Bool
  | 0, _ => true
  | k + 1, q => inPre sz low high k (q / (rd sz k).toNat) && (decide ((rd low k).toNat ≤ q % (rd sz k).toNat) && decide (q % (rd sz k).toNat ≤ (rd high k).toNat))
section
variable {sz cs low high : List Int}
theorem inPre_hit (hwf : Wf sz cs) (hm : mayB sz low high = true) (q : Nat) : ∀ k, k ≤ sz.length → inPre sz low high k (q / (suf sz k).toNat) = withinB (cellL sz (q : Int)) low high k := by
  obtain ⟨l1, l2, o1, o2, hle⟩ := may_facts hm
  intro k
  induction k with
  | zero => intro _; simp [inPre, withinB]
  | succ k ih =>
    intro hk
    have hp := hwf.pos k (by omega)
    have hs := suf_pos hwf.pos (k + 1)
    have hst := suf_step sz (show k < sz.length by omega)
    have b1 := okc_at o1 (show k < sz.length by omega)
    have b2 := okc_at o2 (show k < sz.length by omega)
    obtain ⟨s, e1⟩ := Int.eq_ofNat_of_zero_le (show 0 ≤ rd sz k by omega)
    obtain ⟨t, e2⟩ := Int.eq_ofNat_of_zero_le (show 0 ≤ suf sz (k + 1) by omega)
    obtain ⟨l, e3⟩ := Int.eq_ofNat_of_zero_le b1.1
    obtain ⟨h, e4⟩ := Int.eq_ofNat_of_zero_le b2.1
    have e5 : (suf sz k).toNat = t * s := by rw [hst, e1, e2, ← Int.natCast_mul, Int.toNat_natCast, Nat.mul_comm]
    have e6 : rd (cellL sz (q : Int)) k = ((q / t % s : Nat) : Int) := by rw [rd_cellL _ _ (by omega), dig, e2, e1]; simp
    simp only [inPre, withinB]
    rw [← ih (by omega), e5, e1, e2, e3, e4, e6]
    simp only [Int.toNat_natCast, Nat.div_div_eq_div_mul]
    congr 1
    congr 1 <;> exact decide_eq_decide.2 Int.ofNat_le.symm
theorem cnt_pre (hwf : Wf sz cs) (hm : mayB sz low high = true) : ∀ k, k ≤ sz.length → (cnt (inPre sz low high k) (pr sz k).toNat : Int) = vol low high k := by
  obtain ⟨l1, l2, o1, o2, hle⟩ := may_facts hm
  intro k
  induction k with
  | zero => intro _; rfl
  | succ k ih =>
    intro hk
    have hp := hwf.pos k (by omega)
    have hpk := pr_pos hwf.pos k (by omega)
    have b1 := okc_at o1 (show k < sz.length by omega)
    have b2 := okc_at o2 (show k < sz.length by omega)
    have b3 := hle k (by omega)
    obtain ⟨s, e1⟩ := Int.eq_ofNat_of_zero_le (show 0 ≤ rd sz k by omega)
    obtain ⟨t, e2⟩ := Int.eq_ofNat_of_zero_le (show 0 ≤ pr sz k by omega)
    obtain ⟨l, e3⟩ := Int.eq_ofNat_of_zero_le b1.1
    obtain ⟨h, e4⟩ := Int.eq_ofNat_of_zero_le b2.1
    have e5 : (pr sz (k + 1)).toNat = t * s := by rw [pr, e1, e2, ← Int.natCast_mul, Int.toNat_natCast]
    have hs : 0 < s := by omega
    rw [e5, cnt_mul (g := inPre sz low high k) (h := fun t => decide (l ≤ t) && decide (t ≤ h)) t (fun p x hp hx => by
      have hdiv : (p * s + x) / s = p := by rw [Nat.mul_comm p s, Nat.mul_add_div hs, Nat.div_eq_of_lt hx, Nat.add_zero]
      have hmod : (p * s + x) % s = x := by rw [Nat.mul_comm p s, Nat.mul_add_mod, Nat.mod_eq_of_lt hx]
      simp only [inPre, e1, e3, e4, Int.toNat_natCast, hdiv, hmod])]
    rw [cnt_range (by omega) (by omega), Int.natCast_mul, vol, ← ih (by omega), e2, Int.toNat_natCast, e3, e4]
    congr 1
    omega
theorem vol_bd (_hwf : Wf sz cs) (hm : mayB sz low high = true) : ∀ k, k ≤ sz.length → 1 ≤ vol low high k ∧ vol low high k ≤ pr sz k := by
  obtain ⟨l1, l2, o1, o2, hle⟩ := may_facts hm
  intro k
  induction k with
  | zero => intro _; simp [vol, pr]
  | succ k ih =>
    intro hk
    have hh := ih (by omega)
    have b1 := okc_at o1 (show k < sz.length by omega)
    have b2 := okc_at o2 (show k < sz.length by omega)
    have b3 := hle k (by omega)
    have m1 := Int.mul_le_mul hh.1 (show 1 ≤ rd high k - rd low k + 1 by omega) (by omega) (by omega)
    have m2 := Int.mul_le_mul hh.2 (show rd high k - rd low k + 1 ≤ rd sz k by omega) (by omega) (by omega)
    simp only [vol, pr]
    omega
/-- a range has as many cells as there are numbers between its bounds -/
theorem vol_hits (hwf : Wf sz cs) (hm : mayB sz low high = true) : vol low high sz.length = (cnt (hitB sz low high) cs.length : Nat) := by
  rw [← cnt_pre hwf hm _ (Nat.le_refl _), ← hwf.len, Int.toNat_natCast]
  congr 1
  refine cnt_congr fun q hq => ?_
  have := inPre_hit hwf hm q sz.length (Nat.le_refl _)
  rw [suf_end sz (Nat.le_refl _)] at this
  simpa [hitB] using this
theorem rd_fillL (n : Int) {k : Nat} (hk : k < cs.length) : rd (fillL sz cs low high n) k = if hitB sz low high k = true then n else rd cs k := by
  rw [fillL, fillT, rd_map_range _ _ _ hk]; simp [hk]
/-- how often the number stands among the first k -/
def eqN (xs : List Int) (n : Int) (k : Nat) : Nat := cnt (fun j => rd xs j == n) k
theorem eqN_step (xs : List Int) (n : Int) (k : Nat) : eqN xs n (k + 1) = eqN xs n k + (if rd xs k = n then 1 else 0) := by
  simp only [eqN, cnt]; congr 1; by_cases h : rd xs k = n <;> simp [h]
theorem eqN_le (xs : List Int) (n : Int) (k : Nat) : eqN xs n k ≤ k := by
  induction k with
  | zero => exact Nat.le_refl _
  | succ k ih => rw [eqN_step]; split <;> omega
theorem vol_eqN (hwf : Wf sz cs) (hm : mayB sz low high = true) (n : Int) : vol low high sz.length ≤ (eqN (fillL sz cs low high n) n cs.length : Nat) := by
  rw [vol_hits hwf hm]
  have : cnt (hitB sz low high) cs.length ≤ eqN (fillL sz cs low high n) n cs.length := cnt_le fun k hk h => by rw [rd_fillL n hk, if_pos h]; simp
  omega
theorem get_hit (hwf : Wf sz cs) (n : Int) {c : List Int} (hc : isCell sz c = true) (hh : ∀ k, k < sz.length → rd low k ≤ rd c k ∧ rd c k ≤ rd high k) : getV sz (fillL sz cs low high n) c = n := by
  have hlt := placeV_lt (c := c) hwf
  rw [placeV, if_pos hc] at hlt
  rw [getV, if_pos hc]
  simp only [isCell, Bool.and_eq_true, decide_eq_true_eq] at hc
  obtain ⟨p, hp⟩ := Int.eq_ofNat_of_zero_le hlt.1
  rw [hp] at hlt ⊢
  rw [Int.toNat_natCast, rd_fillL n (by omega), if_pos]
  rw [hit_iff, ← hp, hc.1, cellL_plc hwf.pos hc.1 (by rw [← hc.1]; exact hc.2)]
  exact hh
theorem filled_get (hwf : Wf sz cs) (hm : mayB sz low high = true) (n : Int) : getV sz (fillL sz cs low high n) low = n ∧ getV sz (fillL sz cs low high n) high = n ∧ placeE sz low = 0 ∧ placeE sz high = 0 := by
  obtain ⟨l1, l2, o1, o2, hle⟩ := may_facts hm
  have c1 : isCell sz low = true := by simp [isCell, l1, o1]
  have c2 : isCell sz high = true := by simp [isCell, l2, o2]
  exact ⟨get_hit hwf n c1 fun k hk => ⟨Int.le_refl _, hle k hk⟩, get_hit hwf n c2 fun k hk => ⟨hle k hk, Int.le_refl _⟩, by simp [placeE, c1], by simp [placeE, c2]⟩
theorem filled_seenT (n : Int) : ∀ k, k ≤ cs.length → seenT sz (fillL sz cs low high n) low high k = if hits sz low high k = [] then [] else [n] := by
  intro k
  induction k with
  | zero => intro _; rfl
  | succ k ih =>
    intro hk
    have h1 := ih (by omega)
    cases hh : hitB sz low high k with
    | false => rw [seenT_miss hh, h1, hits_skip (p := k) (q := k + 1) (by omega) (fun r h1 h2 => by obtain rfl : r = k := (by omega); exact hh)]
    | true =>
      have hv : rd (fillL sz cs low high n) k = n := by rw [rd_fillL n (by omega), if_pos hh]
      rw [hits_hit hh, if_neg (by simp)]
      by_cases he : hits sz low high k = []
      · rw [if_pos he] at h1
        rw [seenT_new hh (by rw [h1]; simp), h1, hv]; rfl
      · rw [if_neg he] at h1
        rw [seenT_old (by rw [h1, hv]; simp), h1]
theorem filled_seen (hwf : Wf sz cs) (hm : mayB sz low high = true) (n : Int) : seenL sz (fillL sz cs low high n) low high = [n] := by
  have hlen : (fillL sz cs low high n).length = cs.length := by simp [fillL]
  rw [seenL, if_pos hm, hlen, filled_seenT n _ (Nat.le_refl _), if_neg]
  obtain ⟨p, _, hp, _, hh, _⟩ := first_hit hwf hm
  intro he
  have : p ∈ hits sz low high cs.length := by simp [hits, hh, hp]
  rw [he] at this; cases this
end
end Go.Proofs.Ytilmhjojbolbeaa


namespace Go.Proofs.Ytilmhjojbolbeaa
/-- two lists put together -/
def zipL (f : Int → Int → Int) (xs ys : List Int) : List Int := (List.range xs.length).map fun j => f (rd xs j) (rd ys j)
@[simp] theorem zipL_length (f : Int → Int → Int) (xs ys : List Int) : (zipL f xs ys).length = xs.length := by simp [zipL]
theorem rd_zipL (f : Int → Int → Int) (xs ys : List Int) {j : Nat} (h : j < xs.length) : rd (zipL f xs ys) j = f (rd xs j) (rd ys j) := rd_map_range _ _ _ h

theorem cnt_same {f g : Nat → Bool} {n : Nat} (h : ∀ k, k < n → f k = true → g k = true) (he : cnt f n = cnt g n) : ∀ k, k < n → g k = true → f k = true := by
  induction n with
  | zero => intro k hk; omega
  | succ n ih =>
    have h1 := cnt_le (fun k hk => h k (by omega : k < n + 1)) (f := f) (g := g) (n := n)
    simp only [cnt] at he
    intro k hk hg
    by_cases e : k = n
    · subst e
      cases hf : f k with
      | true => rfl
      | false => rw [hf, hg] at he; simp at he; omega
    · refine ih (fun k hk => h k (by omega)) ?_ k (by omega) hg
      cases hf : f n with
      | true => rw [hf, h n (by omega) hf] at he; simp at he; exact he
      | false =>
        rw [hf] at he
        cases hgn : g n with
        | true => rw [hgn] at he; simp at he; omega
        | false => rw [hgn] at he; simpa using he

/-- the least numbers, and the greatest, of the cells among the first k in which n stands -/
def mnT (sz cs : List Int) (n : Int) : Nat → List Int
  | 0 => []
  | k + 1 => if rd cs k = n then (if eqN cs n k = 0 then cellL sz (k : Int) else zipL min (mnT sz cs n k) (cellL sz (k : Int))) else mnT sz cs n k
def mxT (sz cs : List Int) (n : Int) : Nat → List Int
  | 0 => []
  | k + 1 => if rd cs k = n then (if eqN cs n k = 0 then cellL sz (k : Int) else zipL max (mxT sz cs n k) (cellL sz (k : Int))) else mxT sz cs n k
section
variable {sz cs : List Int} {n : Int}
theorem mT_none : ∀ k, eqN cs n k = 0 → mnT sz cs n k = [] ∧ mxT sz cs n k = [] := by
  intro k
  induction k with
  | zero => intro _; exact ⟨rfl, rfl⟩
  | succ k ih =>
    intro h
    rw [eqN_step] at h
    have hne : ¬ rd cs k = n := fun e => by rw [if_pos e] at h; omega
    rw [if_neg hne] at h
    simp only [mnT, mxT, if_neg hne]
    exact ih h
theorem mT_len : ∀ k, eqN cs n k ≠ 0 → (mnT sz cs n k).length = sz.length ∧ (mxT sz cs n k).length = sz.length := by
  intro k
  induction k with
  | zero => intro h; exact absurd rfl h
  | succ k ih =>
    intro h
    rw [eqN_step] at h
    simp only [mnT, mxT]
    by_cases e : rd cs k = n
    · rw [if_pos e, if_pos e]
      by_cases h0 : eqN cs n k = 0
      · simp [h0]
      · simp [h0, ih h0]
    · rw [if_neg e, if_neg e]
      rw [if_neg e] at h
      exact ih h
theorem mT_bd (hwf : Wf sz cs) : ∀ k, eqN cs n k ≠ 0 → ∀ j, j < sz.length → 0 ≤ rd (mnT sz cs n k) j ∧ rd (mnT sz cs n k) j < rd sz j ∧ 0 ≤ rd (mxT sz cs n k) j ∧ rd (mxT sz cs n k) j < rd sz j ∧
    rd (mnT sz cs n k) j ≤ rd (mxT sz cs n k) j := by
  intro k
  induction k with
  | zero => intro h; exact absurd rfl h
  | succ k ih =>
    intro h j hj
    rw [eqN_step] at h
    simp only [mnT, mxT]
    have hc := cellL_bd hwf.pos (k : Int) hj
    by_cases e : rd cs k = n
    · rw [if_pos e, if_pos e]
      by_cases h0 : eqN cs n k = 0
      · simp only [h0, if_true]; omega
      · have h1 := ih h0 j hj
        have h2 := mT_len (sz := sz) k h0
        simp only [h0, if_false]
        rw [rd_zipL _ _ _ (by omega), rd_zipL _ _ _ (by omega)]
        omega
    · rw [if_neg e, if_neg e]
      rw [if_neg e] at h
      exact ih h j hj
theorem mT_in (hwf : Wf sz cs) : ∀ k, ∀ q, q < k → rd cs q = n → ∀ j, j < sz.length → rd (mnT sz cs n k) j ≤ rd (cellL sz (q : Int)) j ∧ rd (cellL sz (q : Int)) j ≤ rd (mxT sz cs n k) j := by
  intro k
  induction k with
  | zero => intro q hq; omega
  | succ k ih =>
    intro q hq hqn j hj
    simp only [mnT, mxT]
    by_cases e : rd cs k = n
    · rw [if_pos e, if_pos e]
      by_cases h0 : eqN cs n k = 0
      · simp only [h0, if_true]
        by_cases hqk : q = k
        · subst hqk; exact ⟨Int.le_refl _, Int.le_refl _⟩
        · exfalso
          have : 1 ≤ eqN cs n (q + 1) := by rw [eqN_step, if_pos hqn]; omega
          have hmono : ∀ d, eqN cs n (q + 1) ≤ eqN cs n (q + 1 + d) := fun d => by
            induction d with
            | zero => exact Nat.le_refl _
            | succ d ihd => rw [← Nat.add_assoc]; have h9 := eqN_step cs n (q + 1 + d); split at h9 <;> omega
          have := hmono (k - (q + 1))
          rw [show q + 1 + (k - (q + 1)) = k by omega] at this
          omega
      · have h2 := mT_len (sz := sz) k h0
        simp only [h0, if_false]
        rw [rd_zipL _ _ _ (by omega), rd_zipL _ _ _ (by omega)]
        by_cases hqk : q = k
        · subst hqk; omega
        · have := ih q (by omega) hqn j hj
          omega
    · rw [if_neg e, if_neg e]
      have hqk : q ≠ k := fun hk => e (hk ▸ hqn)
      exact ih q (by omega) hqn j hj
/-- the range of the cells in which n stands -/
def mnC (sz cs : List Int) (n : Int) : List Int := mnT sz cs n cs.length
def mxC (sz cs : List Int) (n : Int) : List Int := mxT sz cs n cs.length
theorem mC_may (hwf : Wf sz cs) (h0 : eqN cs n cs.length ≠ 0) : mayB sz (mnC sz cs n) (mxC sz cs n) = true := by
  have hl := mT_len (sz := sz) cs.length h0
  have hb := mT_bd hwf cs.length h0
  simp only [mayB, isCell, Bool.and_eq_true, decide_eq_true_eq]
  refine ⟨⟨⟨hl.1, ?_⟩, hl.2, ?_⟩, ?_⟩
  · rw [show (mnC sz cs n).length = sz.length from hl.1]; exact okc_of fun k hk => ⟨(hb k hk).1, (hb k hk).2.1⟩
  · rw [show (mxC sz cs n).length = sz.length from hl.2]; exact okc_of fun k hk => ⟨(hb k hk).2.2.1, (hb k hk).2.2.2.1⟩
  · rw [show (mnC sz cs n).length = sz.length from hl.1]; exact leB_at.2 fun k hk => (hb k hk).2.2.2.2
theorem mC_hit (hwf : Wf sz cs) {q : Nat} (hq : q < cs.length) (hqn : rd cs q = n) : hitB sz (mnC sz cs n) (mxC sz cs n) q = true :=
  hit_iff.2 fun j hj => mT_in hwf cs.length q hq hqn j hj
/-- P14.1: does n stand in a whole range -/
def ofOk (sz cs : List Int) (n : Int) : Bool := decide (eqN cs n cs.length ≠ 0) && decide (vol (mnC sz cs n) (mxC sz cs n) sz.length = (eqN cs n cs.length : Nat))
theorem some_eqN {k : Nat} (h : eqN cs n k ≠ 0) : ∃ q, q < k ∧ rd cs q = n := by
  induction k with
  | zero => exact absurd rfl h
  | succ k ih =>
    rw [eqN_step] at h
    by_cases e : rd cs k = n
    · exact ⟨k, by omega, e⟩
    · rw [if_neg e] at h
      obtain ⟨q, hq, hqn⟩ := ih h
      exact ⟨q, by omega, hqn⟩
theorem seenT_mem (low high : List Int) : ∀ k q, q < k → hitB sz low high q = true → rd cs q ∈ seenT sz cs low high k := by
  intro k
  induction k with
  | zero => intro q hq; omega
  | succ k ih =>
    intro q hq hh
    by_cases e : q = k
    · subst e
      by_cases hin : rd cs q ∈ seenT sz cs low high q
      · rw [seenT_old hin]; exact hin
      · rw [seenT_new hh hin]; simp
    · have := ih q (by omega) hh
      simp only [seenT]
      split
      · simp [this]
      · exact this
theorem seenT_one (low high : List Int) (k : Nat) (h : ∀ q, q < k → hitB sz low high q = true → rd cs q = n) : seenT sz cs low high k = if hits sz low high k = [] then [] else [n] := by
  induction k with
  | zero => rfl
  | succ k ih =>
    have h1 := ih (fun q hq => h q (by omega))
    cases hh : hitB sz low high k with
    | false => rw [seenT_miss hh, h1, hits_skip (p := k) (q := k + 1) (by omega) (fun r h1 h2 => by obtain rfl : r = k := (by omega); exact hh)]
    | true =>
      have hv := h k (by omega) hh
      rw [hits_hit hh, if_neg (by simp)]
      by_cases he : hits sz low high k = []
      · rw [if_pos he] at h1
        rw [seenT_new hh (by rw [h1]; simp), h1, hv]; rfl
      · rw [if_neg he] at h1
        rw [seenT_old (by rw [h1, hv]; simp), h1]
/-- one number is seen there, just when its cells fill the range -/
theorem of_seen (hwf : Wf sz cs) (h0 : eqN cs n cs.length ≠ 0) : decide ((seenL sz cs (mnC sz cs n) (mxC sz cs n)).length = 1) = decide (vol (mnC sz cs n) (mxC sz cs n) sz.length = (eqN cs n cs.length : Nat)) := by
  have hm := mC_may hwf h0
  have hv := vol_hits hwf hm
  have hf : ∀ k, k < cs.length → (rd cs k == n) = true → hitB sz (mnC sz cs n) (mxC sz cs n) k = true := fun k hk e => mC_hit hwf hk (by simpa using e)
  obtain ⟨q0, hq0, hqn0⟩ := some_eqN h0
  have hh0 := mC_hit hwf hq0 hqn0
  rw [seenL, if_pos hm, hv]
  refine decide_eq_decide.2 ⟨fun h1 => ?_, fun h1 => ?_⟩
  · obtain ⟨x, hx⟩ := List.length_eq_one_iff.1 h1
    have hall : ∀ k, k < cs.length → hitB sz (mnC sz cs n) (mxC sz cs n) k = true → rd cs k = n := fun k hk hh => by
      have e1 := seenT_mem (cs := cs) _ _ cs.length k hk hh
      have e2 := seenT_mem (cs := cs) _ _ cs.length q0 hq0 hh0
      rw [hx] at e1 e2
      simp at e1 e2
      rw [e1, ← e2, hqn0]
    have : cnt (hitB sz (mnC sz cs n) (mxC sz cs n)) cs.length = eqN cs n cs.length := Nat.le_antisymm (cnt_le fun k hk hh => by simpa using hall k hk hh) (cnt_le hf)
    rw [this]
  · have he : cnt (fun j => rd cs j == n) cs.length = cnt (hitB sz (mnC sz cs n) (mxC sz cs n)) cs.length := by
      have : cnt (hitB sz (mnC sz cs n) (mxC sz cs n)) cs.length = eqN cs n cs.length := by omega
      rw [this]; rfl
    have hall := cnt_same hf he
    rw [seenT_one _ _ _ (fun q hq hh => by simpa using hall q hq hh), if_neg]
    · rfl
    · intro hnil
      have : q0 ∈ hits sz (mnC sz cs n) (mxC sz cs n) cs.length := by simp [hits, hh0, hq0]
      rw [hnil] at this; cases this

/-! ### the cells in their order, one by one -/
def zeros (sz : List Int) : List Int := List.replicate sz.length 0
def lasts (sz : List Int) : List Int := sz.map (· - 1)
theorem rd_zeros {j : Nat} (hj : j < sz.length) : rd (zeros sz) j = 0 := by simp [zeros, rd_eq, hj]
theorem rd_lasts {j : Nat} (hj : j < sz.length) : rd (lasts sz) j = rd sz j - 1 := by simp [lasts, rd_eq, hj]
theorem all_may (hwf : Wf sz cs) : mayB sz (zeros sz) (lasts sz) = true := by
  simp only [mayB, isCell, Bool.and_eq_true, decide_eq_true_eq]
  have l1 : (zeros sz).length = sz.length := by simp [zeros]
  have l2 : (lasts sz).length = sz.length := by simp [lasts]
  refine ⟨⟨⟨l1, ?_⟩, l2, ?_⟩, ?_⟩
  · rw [l1]; exact okc_of fun k hk => by have := hwf.pos k hk; rw [rd_zeros hk]; omega
  · rw [l2]; exact okc_of fun k hk => by have := hwf.pos k hk; rw [rd_lasts hk]; omega
  · rw [l1]; exact leB_at.2 fun k hk => by have := hwf.pos k hk; rw [rd_zeros hk, rd_lasts hk]; omega
theorem all_hit (hwf : Wf sz cs) (q : Nat) : hitB sz (zeros sz) (lasts sz) q = true :=
  hit_iff.2 fun j hj => by have := cellL_bd hwf.pos (q : Int) hj; rw [rd_zeros hj, rd_lasts hj]; omega
theorem all_hits (hwf : Wf sz cs) (k : Nat) : hits sz (zeros sz) (lasts sz) k = List.range k := by
  rw [hits, List.filter_eq_self]; exact fun q _ => all_hit hwf q
theorem cell_first (hwf : Wf sz cs) : cellL sz ((0 : Nat) : Int) = zeros sz := by
  refine ext_rd (by simp [zeros]) fun j hj => ?_
  simp only [cellL_length] at hj
  rw [rd_cellL _ _ hj, rd_zeros hj, dig]; simp
/-- the cell behind the cell p -/
theorem cell_next (hwf : Wf sz cs) {p j : Nat} (hp : p < cs.length) (hj : j < sz.length) (hend : ∀ i, j < i → i < sz.length → rd (cellL sz (p : Int)) i = rd sz i - 1) (hne : rd (cellL sz (p : Int)) j + 1 < rd sz j) :
    cellL sz ((p + 1 : Nat) : Int) = nxt (cellL sz (p : Int)) (zeros sz) j := by
  obtain ⟨q, _, hq, hc, _, hh, hpq⟩ := next_hit hwf (all_may hwf) hp (all_hit hwf p) hj (fun i h1 h2 => by rw [hend i h1 h2, rd_lasts h2]) (by rw [rd_lasts hj]; omega)
  rw [all_hits hwf, all_hits hwf] at hh
  have : q = p + 1 := by have := congrArg List.length hh; simpa using this
  rw [← this, hc]
end
end Go.Proofs.Ytilmhjojbolbeaa

namespace Go.Proofs.Ytilmhjojbolbeaa.AM
open Go
/-- no pointer -/
abbrev nilp : V := .v (.pointer none)
/-- the numbers of a row -/
def rng (n : Int) (f : Ix → Int) : List Int := (List.range n.toNat).map fun (j : Nat) => f [(j : Int)]
theorem rng_len (n : Int) (f : Ix → Int) : (rng n f).length = n.toNat := by simp [rng]
theorem rng_get {n : Int} {f : Ix → Int} {j : Nat} (h : j < n.toNat) : (rng n f)[j]? = some (f [(j : Int)]) := by simp [rng, h]
theorem rng_lenI {n : Int} (h : 0 ≤ n) (f : Ix → Int) : ((rng n f).length : Int) = n := by rw [rng_len]; omega
theorem rd_rng {n : Int} {f : Ix → Int} {k : Nat} (h : (k : Int) < n) : rd (rng n f) k = f [(k : Int)] := by
  rw [rd_eq, rng_get (by omega)]; rfl
theorem rd_rngI {n j : Int} {f : Ix → Int} (h0 : 0 ≤ j) (h : j < n) : rd (rng n f) j.toNat = f [j] := by
  rw [rd_rng (by omega), Int.toNat_of_nonneg h0]
/-- a row that holds a list -/
theorem rng_eq {n : Int} {f : Ix → Int} {xs : List Int} (hl : (xs.length : Int) = n) (h : ∀ j, 0 ≤ j → j < n → f [j] = rd xs j.toNat) : rng n f = xs := by
  refine ext_rd (by rw [rng_len]; omega) fun j hj => ?_
  rw [rng_len] at hj
  rw [rd_rng (by omega), h j (by omega) (by omega), Int.toNat_natCast]
theorem rng_at {n : Int} {f : Ix → Int} {xs : List Int} (h : rng n f = xs) {j : Int} (h0 : 0 ≤ j) (h1 : j < n) : f [j] = rd xs j.toNat := by
  rw [← h, rd_rngI h0 h1]
theorem rng_congr {n : Int} {f g : Ix → Int} (h : ∀ j, 0 ≤ j → j < n → g [j] = f [j]) : rng n g = rng n f := by
  unfold rng
  apply List.map_congr_left
  intro j hj
  have := List.mem_range.1 hj
  exact h j (by omega) (by omega)
theorem rng_fr0 (n : Int) (f : Ix → Int) : rng n (fun ix => f ((AM.hd ix + 0) :: ix.tail)) = rng n f := rng_congr fun j _ _ => by simp [AM.hd]
theorem rng_zero (f : Ix → Int) : rng 0 f = [] := rfl
end Go.Proofs.Ytilmhjojbolbeaa.AM

namespace Go.Proofs.Ytilmhjojbolbeaa.AM
open Go
theorem mixed : Try.prog.follows .mixedOrders = true := by kernel_rfl
abbrev ORD3 := OR0
abbrev ORD4 := OR0
abbrev ORD5 := OR0
abbrev ORD6 := OR0
abbrev ORD8 := OR0
abbrev ORD9 := OR0
abbrev ORD11 := OR0
abbrev ORD12 := OR0
abbrev ORD13 := OR0
abbrev ORD15 := OR0
abbrev ORD19 := OR0
abbrev ORD22 := OR0
abbrev ORD25 := OR0
abbrev ORD26 := OR0
abbrev ORD27 := OR0
abbrev ORD28 := OR0
abbrev ORD32 := OR0
abbrev ORD33 := OR0
abbrev ORD34 := OR0
abbrev ORD36 := OR0
abbrev ORD37 := OR0
abbrev ORD38 := OR0
abbrev ORD42 := OR0
abbrev ORD43 := OR0
abbrev ORD44 := OR0
abbrev ORD45 := OR0
abbrev ORD46 := OR0
abbrev ORD48 := OR0
abbrev ORD49 := OR0
abbrev ORD51 := OR0
abbrev ORD52 := OR0
abbrev ORD53 := OR0
abbrev ORD56 := OR0
abbrev ORD58 := OR0
abbrev ORD59 := OR0
abbrev ORD60 := OR0
abbrev ORD62 := OR0
abbrev ORD64 := OR0
abbrev ORD65 := OR0
abbrev ORD66 := OR0
abbrev ORD67 := OR0
abbrev ORD68 := OR0
abbrev ORD69 := OR0
abbrev ORD74 := OR0
abbrev ORD75 := OR0
abbrev ORD76 := OR0
abbrev ORD77 := OR0
abbrev ORD78 := OR0
abbrev ORD80 := OR0
abbrev ORD82 := OR0
abbrev ORD83 := OR0
abbrev ORD85 := OR0
abbrev ORD86 := OR0
abbrev ORD87 := OR0
abbrev ORD88 := OR0
abbrev ORD89 := OR0
abbrev ORD90 := OR0
abbrev ORD91 := OR0
abbrev ORD93 := OR0
abbrev ORD94 := OR0
abbrev ORD95 := OR0
abbrev ORD96 := OR0
abbrev ORD97 := OR0
abbrev ORD98 := OR0
abbrev ORD99 := OR0
abbrev ORD100 := OR0
abbrev ORD101 := OR0
abbrev ORD102 := OR0
abbrev ORD103 := OR0
abbrev ORD104 := OR0
abbrev ORD106 := OR0
abbrev ORD107 := OR0
abbrev ORD108 := OR0
abbrev ORD111 := OR0
abbrev ORD112 := OR0
abbrev ORD113 := OR0
abbrev ORD114 := OR0
abbrev ORD115 := OR0
abbrev ORD116 := OR0
abbrev ORD118 := OR0
abbrev ORD119 := OR0
abbrev ORD120 := OR0
abbrev ORD121 := OR0
abbrev ORD122 := OR0
abbrev ORD123 := OR0
abbrev ORD124 := OR0
abbrev ORD126 := OR0
abbrev ORD127 := OR0
abbrev ORD129 := OR0
abbrev ORD130 := OR0
abbrev ORD131 := OR0
abbrev ORD132 := OR0
abbrev ORD133 := OR0
abbrev ORD134 := OR0
abbrev ORD135 := OR0
abbrev ORD136 := OR0
abbrev ORD137 := OR0
abbrev ORD141 := OR0
abbrev ORD144 := OR0
abbrev ORD147 := OR0
abbrev ORD148 := OR0
abbrev ORD149 := OR0
abbrev ORD150 := OR0
abbrev ORD151 := OR0
abbrev ORD152 := OR0
abbrev ORD154 := OR0
abbrev ORD155 := OR0
abbrev ORD157 := OR0
abbrev ORD159 := OR0
abbrev ORD160 := OR0
abbrev ORD161 := OR0
abbrev ORD162 := OR0
abbrev ORD164 := OR0
abbrev ORD165 := OR0
abbrev ORD166 := OR0
abbrev ORD167 := OR0
abbrev ORD168 := OR0
abbrev ORD169 := OR0
abbrev ORD170 := OR0
abbrev ORD171 := OR0
abbrev ORD173 := OR0
abbrev ORD174 := OR0
abbrev ORD175 := OR0
abbrev ORD176 := OR0
abbrev ORD177 := OR0
abbrev ORD178 := OR0
abbrev ORD179 := OR0
abbrev ORD180 := OR0
abbrev ORD181 := OR0
abbrev ORD182 := OR0
abbrev ORD183 := OR0
abbrev ORD184 := OR0
abbrev ORD185 := OR0
abbrev ORD186 := OR0
abbrev ORD187 := OR0
abbrev ORD188 := OR0
abbrev ORD189 := OR0
abbrev ORD190 := OR0
abbrev ORD191 := OR0
abbrev ORD192 := OR0
abbrev ORD193 := OR0
def ORD7 : Nat → List (Nat × List Nat)
  | 1 => [(0, []), (1, []), (2, []), (3, []), (4, []), (5, []), (6, []), (7, []), (8, [2, 3, 4, 5, 6, 7]), (9, [4, 5, 6, 7]), (10, [6, 7]), (11, [])]
  | _ => []
def ORD10 : Nat → List (Nat × List Nat)
  | 15 => [(0, []), (1, []), (2, []), (3, []), (4, []), (5, []), (6, []), (7, []), (8, []), (9, []), (10, []), (11, []), (12, []), (13, []), (14, []), (15, []), (16, []), (17, [])]
  | _ => []
def ORD14 : Nat → List (Nat × List Nat)
  | 7 => [(0, []), (1, []), (2, [1]), (3, []), (4, [])]
  | _ => []
def ORD16 : Nat → List (Nat × List Nat)
  | 16 => [(0, []), (1, []), (2, []), (3, []), (4, []), (5, []), (6, []), (7, []), (8, []), (9, []), (10, []), (11, []), (12, [])]
  | 17 => [(0, []), (1, []), (2, []), (3, []), (4, []), (5, []), (6, []), (7, []), (8, []), (9, []), (10, []), (11, []), (12, [])]
  | 22 => [(0, []), (1, []), (2, []), (3, []), (4, []), (5, []), (6, []), (7, []), (8, []), (9, []), (10, []), (11, []), (12, [])]
  | _ => []
def ORD17 : Nat → List (Nat × List Nat)
  | 7 => [(0, []), (1, []), (2, []), (3, []), (4, []), (5, []), (6, []), (7, []), (8, []), (9, []), (10, []), (11, []), (12, []), (13, []), (14, []), (15, []), (16, []), (17, [])]
  | 9 => [(0, []), (1, []), (2, []), (3, []), (4, []), (5, []), (6, []), (7, []), (8, []), (9, []), (10, []), (11, []), (12, []), (13, []), (14, []), (15, []), (16, []), (17, [])]
  | _ => []
def ORD18 : Nat → List (Nat × List Nat)
  | 6 => [(0, []), (1, []), (2, []), (3, []), (4, []), (5, []), (6, []), (7, []), (8, [])]
  | _ => []
def ORD20 : Nat → List (Nat × List Nat)
  | 7 => [(0, []), (1, []), (2, []), (4, []), (5, []), (6, []), (3, [4, 5, 6]), (7, []), (8, []), (9, [0, 1, 2, 4, 5, 6, 8]), (10, [])]
  | _ => []
def ORD21 : Nat → List (Nat × List Nat)
  | 10 => [(0, []), (1, []), (3, []), (4, []), (2, [3, 4]), (5, []), (6, []), (7, [0, 1, 3, 4, 6]), (8, [])]
  | 12 => [(0, []), (1, []), (3, []), (4, []), (2, [3, 4]), (5, []), (6, []), (7, [])]
  | _ => []
def ORD23 : Nat → List (Nat × List Nat)
  | 1 => [(0, []), (1, []), (2, []), (3, []), (4, []), (5, []), (6, []), (7, []), (8, []), (9, []), (10, []), (11, []), (12, []), (13, []), (14, []), (15, []), (16, []), (17, []), (18, []), (19, []), (20, []), (21, []), (22, []), (23, []), (24, []), (25, []), (26, []), (27, []), (28, []), (29, [])]
  | 3 => [(0, []), (1, []), (2, []), (3, []), (4, []), (5, []), (6, []), (7, []), (8, []), (9, []), (10, []), (11, []), (12, []), (13, []), (14, []), (15, []), (16, []), (17, []), (18, [])]
  | 4 => [(0, []), (1, []), (3, []), (4, []), (2, [3, 4]), (5, []), (6, []), (7, [0, 1, 3, 4, 6]), (8, [])]
  | 5 => [(0, []), (1, []), (3, []), (4, []), (2, [3, 4]), (5, []), (6, []), (7, [0, 1, 3, 4, 6]), (8, [])]
  | 8 => [(0, []), (1, []), (2, [1]), (3, []), (4, [])]
  | _ => []
def ORD24 : Nat → List (Nat × List Nat)
  | 6 => [(0, []), (1, []), (2, []), (3, []), (4, []), (5, []), (6, []), (7, [])]
  | _ => []
def ORD29 : Nat → List (Nat × List Nat)
  | 15 => [(0, []), (1, []), (2, []), (3, []), (4, []), (5, []), (6, []), (7, []), (8, []), (9, []), (10, []), (11, []), (12, []), (13, []), (14, []), (15, []), (16, []), (17, [])]
  | _ => []
def ORD30 : Nat → List (Nat × List Nat)
  | 25 => [(0, []), (1, []), (2, []), (3, []), (4, []), (5, []), (6, [0, 1, 2, 3, 4]), (7, [0]), (8, []), (9, []), (10, [])]
  | _ => []
def ORD31 : Nat → List (Nat × List Nat)
  | 6 => [(0, []), (1, []), (2, []), (3, []), (4, []), (5, []), (6, []), (7, []), (8, [])]
  | _ => []
def ORD35 : Nat → List (Nat × List Nat)
  | 3 => [(0, []), (1, []), (2, []), (3, []), (4, []), (5, []), (6, []), (7, []), (8, []), (9, []), (10, []), (11, []), (12, [4, 5, 6, 7, 8, 9, 10, 11]), (13, [8, 9, 10, 11]), (14, [])]
  | _ => []
def ORD39 : Nat → List (Nat × List Nat)
  | 10 => [(0, []), (1, []), (2, []), (3, []), (4, []), (5, []), (6, []), (7, []), (8, [])]
  | _ => []
def ORD40 : Nat → List (Nat × List Nat)
  | 3 => [(0, []), (1, []), (3, []), (4, []), (2, [3, 4]), (5, []), (6, []), (7, [])]
  | _ => []
def ORD41 : Nat → List (Nat × List Nat)
  | 5 => [(0, []), (1, []), (2, []), (3, []), (4, []), (5, []), (6, []), (7, []), (8, []), (9, []), (10, []), (11, [0, 1]), (12, []), (13, [])]
  | _ => []
def ORD47 : Nat → List (Nat × List Nat)
  | 6 => [(0, []), (1, []), (2, []), (3, []), (4, []), (5, []), (6, []), (7, []), (8, []), (9, [])]
  | 11 => [(0, []), (1, []), (2, []), (3, []), (4, []), (5, []), (6, []), (7, []), (8, []), (9, [])]
  | _ => []
def ORD50 : Nat → List (Nat × List Nat)
  | 4 => [(0, []), (1, []), (3, []), (4, []), (2, [3, 4]), (5, []), (6, []), (7, [0, 1, 3, 4, 6]), (8, [])]
  | 5 => [(0, []), (1, []), (3, []), (4, []), (2, [3, 4]), (5, []), (6, []), (7, [0, 1, 3, 4, 6]), (8, [])]
  | 6 => [(0, []), (1, []), (2, []), (3, []), (4, []), (5, []), (6, []), (7, []), (8, []), (9, []), (10, [3, 4, 5, 7, 8]), (11, []), (12, [])]
  | 7 => [(0, []), (1, []), (2, [1]), (3, []), (4, [])]
  | _ => []
def ORD54 : Nat → List (Nat × List Nat)
  | 6 => [(0, []), (1, []), (2, []), (3, []), (4, []), (5, []), (6, []), (7, []), (8, []), (9, []), (10, [])]
  | _ => []
def ORD55 : Nat → List (Nat × List Nat)
  | 8 => [(0, []), (1, []), (2, []), (3, []), (4, []), (5, []), (6, []), (7, []), (8, [])]
  | _ => []
def ORD57 : Nat → List (Nat × List Nat)
  | 9 => [(0, []), (1, []), (2, []), (3, []), (4, []), (5, []), (6, []), (7, [0]), (8, []), (9, [])]
  | _ => []
def ORD61 : Nat → List (Nat × List Nat)
  | 2 => [(0, []), (1, []), (2, []), (3, []), (4, []), (5, []), (6, []), (7, []), (8, []), (9, [])]
  | _ => []
def ORD63 : Nat → List (Nat × List Nat)
  | 6 => [(0, []), (1, []), (2, []), (3, []), (4, []), (5, []), (6, []), (7, []), (8, []), (9, [])]
  | _ => []
def ORD70 : Nat → List (Nat × List Nat)
  | 1 => [(0, []), (1, []), (2, []), (3, []), (4, []), (5, []), (6, []), (7, []), (8, []), (9, []), (10, []), (11, []), (12, [11]), (13, [])]
  | 3 => [(0, []), (1, []), (2, []), (3, []), (4, []), (5, []), (6, []), (7, []), (8, []), (9, []), (10, []), (11, []), (12, []), (13, []), (14, []), (15, [])]
  | _ => []
def ORD71 : Nat → List (Nat × List Nat)
  | 11 => [(0, []), (1, []), (2, []), (3, []), (4, []), (5, []), (6, []), (7, []), (8, []), (9, []), (10, []), (11, []), (12, []), (13, []), (14, []), (15, []), (16, []), (17, [14, 15]), (18, []), (19, []), (20, [])]
  | _ => []
def ORD72 : Nat → List (Nat × List Nat)
  | 8 => [(0, []), (1, []), (2, []), (3, []), (4, []), (5, []), (6, []), (7, []), (8, [])]
  | _ => []
def ORD73 : Nat → List (Nat × List Nat)
  | 7 => [(0, []), (1, []), (2, []), (3, [0, 1]), (4, [])]
  | 9 => [(0, []), (1, []), (2, [0]), (3, []), (4, []), (5, []), (6, []), (7, [6]), (8, [])]
  | _ => []
def ORD79 : Nat → List (Nat × List Nat)
  | 3 => [(0, []), (1, []), (2, []), (3, []), (4, []), (5, []), (6, []), (7, []), (8, []), (9, []), (10, [5, 6, 7, 8, 9]), (11, [])]
  | _ => []
def ORD81 : Nat → List (Nat × List Nat)
  | 4 => [(0, []), (1, []), (2, []), (3, []), (4, []), (5, []), (6, []), (7, []), (8, [])]
  | 6 => [(0, []), (1, []), (2, []), (3, []), (4, []), (5, []), (6, []), (7, []), (8, [])]
  | _ => []
def ORD84 : Nat → List (Nat × List Nat)
  | 0 => [(0, []), (2, []), (1, [2]), (3, [2]), (4, [])]
  | 3 => [(0, []), (1, []), (2, []), (3, []), (4, []), (5, []), (6, []), (7, []), (8, []), (9, []), (10, []), (11, []), (12, [])]
  | _ => []
def ORD92 : Nat → List (Nat × List Nat)
  | 8 => [(0, []), (1, []), (2, []), (3, []), (4, []), (5, [2, 3]), (6, []), (7, [])]
  | _ => []
def ORD105 : Nat → List (Nat × List Nat)
  | 3 => [(0, []), (1, []), (2, []), (3, []), (4, []), (5, []), (6, []), (7, [])]
  | _ => []
def ORD109 : Nat → List (Nat × List Nat)
  | 14 => [(0, []), (2, []), (4, []), (5, []), (1, [2, 4, 5]), (3, [4, 5]), (6, []), (7, []), (8, [])]
  | _ => []
def ORD110 : Nat → List (Nat × List Nat)
  | 1 => [(0, []), (1, []), (2, []), (3, []), (4, []), (5, []), (6, []), (7, []), (8, []), (9, []), (10, []), (11, []), (12, []), (13, []), (14, [13]), (15, [])]
  | 3 => [(0, []), (1, []), (2, []), (3, []), (4, []), (5, []), (6, []), (7, []), (8, []), (9, []), (10, []), (11, []), (12, []), (13, []), (14, []), (15, []), (16, []), (17, [])]
  | 6 => [(0, []), (1, []), (2, []), (3, []), (4, []), (5, []), (6, []), (7, []), (8, []), (9, []), (10, []), (11, []), (12, []), (13, []), (14, []), (15, []), (16, []), (17, []), (18, [13, 14, 15, 16, 17]), (19, [])]
  | _ => []
def ORD117 : Nat → List (Nat × List Nat)
  | 17 => [(0, []), (1, []), (2, []), (3, []), (4, []), (5, []), (6, []), (7, []), (8, []), (9, []), (10, []), (11, []), (12, []), (13, []), (14, [])]
  | _ => []
def ORD125 : Nat → List (Nat × List Nat)
  | 3 => [(0, []), (1, []), (2, []), (3, []), (5, []), (6, []), (7, []), (8, []), (9, []), (11, []), (4, [5, 6, 7, 8, 9, 11]), (10, []), (12, [])]
  | _ => []
def ORD128 : Nat → List (Nat × List Nat)
  | 1 => [(0, []), (1, []), (2, []), (3, []), (5, []), (6, []), (7, []), (8, []), (9, []), (4, [5, 6, 7, 8, 9]), (10, []), (11, [])]
  | _ => []
def ORD138 : Nat → List (Nat × List Nat)
  | 4 => [(0, []), (1, []), (2, []), (3, []), (4, []), (5, []), (6, []), (7, []), (8, []), (9, []), (10, []), (11, []), (12, []), (13, []), (14, [])]
  | 6 => [(0, []), (1, []), (2, []), (3, []), (4, []), (5, []), (6, []), (7, []), (8, []), (9, []), (10, []), (11, []), (12, []), (13, []), (14, []), (15, [2, 3, 4]), (16, []), (17, [])]
  | _ => []
def ORD139 : Nat → List (Nat × List Nat)
  | 10 => [(0, []), (1, []), (2, []), (3, []), (4, []), (5, []), (6, []), (7, []), (8, []), (9, []), (10, []), (11, []), (12, []), (13, []), (14, []), (15, []), (16, []), (17, [2, 3, 4, 5]), (18, []), (19, [])]
  | _ => []
def ORD140 : Nat → List (Nat × List Nat)
  | 10 => [(0, []), (1, []), (2, []), (3, []), (4, []), (5, []), (6, []), (7, []), (8, []), (9, []), (10, []), (11, []), (12, []), (13, []), (14, []), (15, []), (16, []), (17, [2, 3, 4, 5]), (18, []), (19, [])]
  | _ => []
def ORD142 : Nat → List (Nat × List Nat)
  | 3 => [(0, []), (1, []), (2, []), (3, []), (4, []), (5, []), (6, []), (7, []), (8, []), (9, []), (10, []), (11, []), (12, []), (13, [2, 3]), (14, []), (15, [])]
  | _ => []
def ORD143 : Nat → List (Nat × List Nat)
  | 5 => [(0, []), (1, []), (2, []), (3, []), (4, []), (5, []), (6, []), (7, []), (8, []), (9, []), (10, []), (11, []), (12, []), (13, []), (14, []), (15, [])]
  | 11 => [(0, []), (1, []), (2, []), (3, []), (4, []), (5, []), (6, []), (7, []), (8, []), (9, []), (10, []), (11, []), (12, []), (13, []), (14, []), (15, [2, 3, 4]), (16, []), (17, [])]
  | 16 => [(0, []), (1, []), (2, []), (3, []), (4, []), (5, []), (6, []), (7, []), (8, []), (9, []), (10, [])]
  | 17 => [(0, []), (1, []), (2, []), (3, []), (4, []), (5, []), (6, []), (7, []), (8, []), (9, []), (10, []), (11, []), (12, []), (13, []), (14, []), (15, [2, 3, 4]), (16, []), (17, [])]
  | 22 => [(0, []), (1, []), (2, []), (3, []), (4, []), (5, []), (6, []), (7, []), (8, []), (9, []), (10, [])]
  | 23 => [(0, []), (1, []), (2, []), (3, []), (4, []), (5, []), (6, []), (7, []), (8, []), (9, []), (10, []), (11, []), (12, []), (13, []), (14, []), (15, [2, 3, 4]), (16, []), (17, [])]
  | _ => []
def ORD145 : Nat → List (Nat × List Nat)
  | 1 => [(0, []), (1, []), (2, []), (3, []), (4, []), (5, []), (6, []), (7, []), (8, []), (9, []), (10, []), (11, []), (12, []), (13, [2, 3]), (14, []), (15, [])]
  | 3 => [(0, []), (1, []), (2, []), (3, []), (4, []), (5, []), (6, []), (7, []), (8, []), (9, []), (10, []), (11, []), (12, []), (13, []), (14, [])]
  | 5 => [(0, []), (1, []), (2, []), (3, []), (4, []), (5, []), (6, []), (7, []), (8, []), (9, []), (10, []), (11, []), (12, []), (13, [])]
  | 8 => [(0, []), (1, []), (2, []), (3, []), (4, []), (5, []), (6, []), (7, []), (8, []), (9, []), (10, []), (11, []), (12, []), (13, [2, 3]), (14, []), (15, [])]
  | _ => []
def ORD146 : Nat → List (Nat × List Nat)
  | 1 => [(0, []), (1, []), (2, []), (3, []), (4, []), (5, []), (6, []), (7, []), (8, []), (9, []), (10, []), (11, []), (12, []), (13, [2, 3]), (14, []), (15, [])]
  | 3 => [(0, []), (1, []), (2, []), (3, []), (4, []), (5, []), (6, []), (7, []), (8, []), (9, []), (10, []), (11, []), (12, []), (13, [])]
  | 5 => [(0, []), (1, []), (2, []), (3, []), (4, []), (5, []), (6, []), (7, []), (8, []), (9, []), (10, []), (11, []), (12, []), (13, []), (14, [])]
  | 8 => [(0, []), (1, []), (2, []), (3, []), (4, []), (5, []), (6, []), (7, []), (8, []), (9, []), (10, []), (11, []), (12, []), (13, [2, 3]), (14, []), (15, [])]
  | 10 => [(0, []), (1, []), (2, []), (3, []), (4, []), (5, []), (6, []), (7, []), (8, []), (9, []), (10, []), (11, []), (12, []), (13, [2, 3]), (14, []), (15, [])]
  | 13 => [(0, []), (1, []), (2, []), (3, []), (4, []), (5, []), (6, []), (7, []), (8, []), (9, []), (10, []), (11, []), (12, []), (13, [])]
  | 15 => [(0, []), (1, []), (2, []), (3, []), (4, []), (5, []), (6, []), (7, []), (8, []), (9, []), (10, []), (11, []), (12, []), (13, []), (14, [])]
  | 18 => [(0, []), (1, []), (2, []), (3, []), (4, []), (5, []), (6, []), (7, []), (8, []), (9, []), (10, []), (11, []), (12, []), (13, [2, 3]), (14, []), (15, [])]
  | 21 => [(0, []), (1, []), (2, []), (3, []), (4, []), (5, []), (6, []), (7, []), (8, []), (9, []), (10, []), (11, []), (12, []), (13, [2, 3]), (14, []), (15, [])]
  | _ => []
def ORD153 : Nat → List (Nat × List Nat)
  | 0 => [(0, []), (1, []), (2, []), (3, []), (6, []), (9, []), (10, []), (11, []), (12, []), (13, []), (4, [6, 9, 10, 11, 12, 13]), (5, []), (7, []), (8, [9, 10, 11, 12, 13]), (14, []), (15, [])]
  | _ => []
def ORD156 : Nat → List (Nat × List Nat)
  | 3 => [(0, []), (1, []), (2, []), (3, []), (4, []), (5, []), (6, []), (7, []), (8, []), (9, []), (10, []), (11, []), (12, []), (13, []), (14, []), (15, []), (16, []), (17, []), (18, []), (19, [])]
  | 5 => [(0, []), (1, []), (2, []), (3, []), (4, []), (5, []), (6, []), (7, []), (8, []), (9, []), (10, []), (11, []), (12, []), (13, [])]
  | 6 => [(0, []), (1, []), (2, []), (3, []), (4, []), (5, []), (6, []), (7, []), (8, []), (9, []), (10, []), (11, []), (12, []), (13, []), (14, []), (15, []), (16, []), (17, []), (18, []), (19, []), (20, []), (21, [4, 5, 6, 7]), (22, []), (23, [])]
  | _ => []
def ORD158 : Nat → List (Nat × List Nat)
  | 1 => [(0, []), (1, []), (2, []), (3, []), (4, []), (5, []), (6, []), (7, []), (8, []), (9, [])]
  | 2 => [(0, []), (1, []), (2, []), (3, []), (4, []), (5, []), (6, []), (7, []), (8, []), (9, [])]
  | 3 => [(0, []), (1, []), (2, []), (3, []), (4, []), (5, []), (6, []), (7, []), (8, []), (9, [])]
  | _ => []
def ORD163 : Nat → List (Nat × List Nat)
  | 6 => [(0, []), (1, []), (2, []), (3, []), (4, []), (5, []), (6, []), (7, []), (8, []), (9, []), (10, [])]
  | _ => []
def ORD172 : Nat → List (Nat × List Nat)
  | 1 => [(0, []), (1, []), (2, []), (3, []), (4, []), (5, []), (6, []), (7, []), (8, [])]
  | _ => []
end Go.Proofs.Ytilmhjojbolbeaa.AM

namespace Go.Proofs.Ytilmhjojbolbeaa.AM
open Go
set_option maxRecDepth 100000
set_option maxHeartbeats 4000000
theorem okp_next {d i : Int} {zs : Ix → Int} {n : Int} (h0 : 0 ≤ i) (h1 : i < d) (hn : n = pr (rng d zs) i.toNat) (hk : okp (rng d zs) i.toNat = true) (a : 1 ≤ zs [i]) (b : zs [i] ≤ 4096) (c : n * zs [i] ≤ 4096) :
    okp (rng d zs) (i + 1).toNat = true ∧ n * zs [i] = pr (rng d zs) (i + 1).toNat := by
  rw [show (i + 1).toNat = i.toNat + 1 by omega, okp, pr, rd_rngI h0 h1, hk, ← hn]
  simp [a, b, c]
theorem okp_bad {d i : Int} {zs : Ix → Int} {n : Int} (h0 : 0 ≤ i) (h1 : i < d) (hn : n = pr (rng d zs) i.toNat) (h : ¬ (1 ≤ zs [i] ∧ zs [i] ≤ 4096 ∧ n * zs [i] ≤ 4096)) : prodV (rng d zs) = 0 := by
  have e : okp (rng d zs) (i.toNat + 1) = false := by
    rw [okp, rd_rngI h0 h1, ← hn, ← Bool.not_eq_true]
    simp only [Bool.and_eq_true, decide_eq_true_eq]
    intro h2; exact h h2.2
  have := okp_mono (l := (rng d zs).length) (by rw [rng_len]; omega) e
  rw [prodV, if_neg (by rw [this]; simp)]
theorem okp_all {d : Int} {zs : Ix → Int} (h : okp (rng d zs) d.toNat = true) : prodV (rng d zs) = pr (rng d zs) d.toNat := by
  rw [prodV, rng_len, if_pos h]
theorem mul_in {a b : Int} (h : 1 ≤ a ∧ a ≤ 4096) (h1 : 1 ≤ b) (h2 : b ≤ 4096) : 1 ≤ a * b ∧ a * b ≤ 16777216 := by
  have h3 := Int.mul_le_mul h.2 h2 (by omega) (by omega)
  have h4 := Int.mul_le_mul h.1 h1 (by omega) (by omega)
  omega
theorem mul_i64 {a b : Int} (h : 1 ≤ a ∧ a ≤ 4096) (h1 : 1 ≤ b) (h2 : b ≤ 4096) : -9223372036854775808 ≤ a * b ∧ a * b ≤ 9223372036854775807 := by
  have := mul_in h h1 h2; omega
theorem okp_go {d i i' n n' v : Int} {zs : Ix → Int} (hi : 0 ≤ i ∧ i ≤ d) (h1 : i < d) (hb : 1 ≤ n ∧ n ≤ 4096) (hn : n = pr (rng d zs) i.toNat) (hk : okp (rng d zs) i.toNat = true) (hz : zs [i] = v) (a : 1 ≤ v) (b : v ≤ 4096) (hm : n * v = n') (c : n' ≤ 4096) (hi' : i + 1 = i') :
    (1 ≤ n' ∧ n' ≤ 4096) ∧ n' = pr (rng d zs) i'.toNat ∧ okp (rng d zs) i'.toNat = true := by
  subst hi' hm hz
  have h2 := okp_next hi.1 h1 hn hk a b c
  have h3 := mul_in hb a b
  exact ⟨⟨h3.1, c⟩, h2.2, h2.1⟩
/-- slab: how many cells sizes make -/
theorem product_tri (d : Int) (zs : Ix → Int) (fl : Bool) (hd : 0 ≤ d ∧ d ≤ 9223372036854775807) : TriS Try.prog 36 [.l d [.i .i64 zs] fl] [] (fun r σ => ∃ p, p = prodV (rng d zs) ∧ r = .i .i64 p ∧ σ = []) := by
  refine tri_of TT_ok mixed (OR := ORD36) (fn := Try.f36) (c := body Try.f36) (by kernel_rfl) (by kernel_rfl) (by kernel_rfl) (by kernel_rfl) (by simp [Try.f36]) fun H Tri hH hTri => ?_
  cbv
  refine' ⟨0, Int × Int, fun ((i, n) : Int × Int) => ⟨[(7, V.i IntKind.i64 d), (6, V.l d [C.i IntKind.i64 zs] fl), (8, .i .i64 i), (3, .i .i64 n), (2, V.i IntKind.i64 0)], [], 100⟩, fun ((i, n) : Int × Int) => (0 ≤ i ∧ i ≤ d) ∧ (1 ≤ n ∧ n ≤ 4096) ∧ (n = pr (rng d zs) i.toNat) ∧ (okp (rng d zs) i.toNat = true), fun ((i, n) : Int × Int) => (d - i).toNat, ⟨(0, 1), ⟨?p_1, ?p_2, ?p_3, ?p_4⟩, ?s_5⟩, ?r_6⟩
  case s_5 => cbv <;> repeat' first | exact rfl | exact trivial | exact Or.inr trivial | exact Or.inl rfl | apply And.intro | omega | (split <;> first | exact trivial | (exfalso; simp_all; done)) | (subst_vars; simp [o0]; done)
  case p_1 => omega
  case p_2 => omega
  case p_3 => rfl
  case p_4 => rfl
  rintro ⟨i, n⟩ ⟨hi, hb, hn, hok⟩
  cbv
  split
  · rename_i h_7
    simp only [hH, decide_eq_true_eq] at h_7
    cbv
    generalize e_8 : H Int _ = v_9
    simp only [hH, zeroS] at e_8
    generalize e_10 : (fun ix => zs (i :: ix)) = c_11
    refine ⟨by rw [hH]; simp; omega, ?_⟩
    cbv
    split
    · rename_i h_12
      simp only [hH, decide_eq_true_eq] at h_12
      cbv
      exact fin (h := ⟨_, ⟨(by (exact (okp_bad hi.1 ‹_› hn (by subst_vars; omega)).symm)), ⟨rfl, rfl⟩⟩⟩)
    · rename_i h_13
      simp only [hH, decide_eq_false_iff_not, Int.not_lt, Int.not_le] at h_13
      cbv
      split
      · rename_i h_14
        simp only [hH, decide_eq_true_eq] at h_14
        cbv
        exact fin (h := ⟨_, ⟨(by (exact (okp_bad hi.1 ‹_› hn (by subst_vars; omega)).symm)), ⟨rfl, rfl⟩⟩⟩)
      · rename_i h_15
        simp only [hH, decide_eq_false_iff_not, Int.not_lt, Int.not_le] at h_15
        cbv
        generalize e_16 : H Int _ = v_17
        simp only [hH, zeroS] at e_16
        replace e_16 := (IntWalk.i64_in _ (by (first | exact mul_i64 hb ‹_› ‹_› | exact mul_i64 hb (Int.not_lt.1 ‹_›) (Int.not_lt.1 ‹_›)))).symm.trans e_16
        split
        · rename_i h_18
          simp only [hH, decide_eq_true_eq] at h_18
          cbv
          exact fin (h := ⟨_, ⟨(by (exact (okp_bad hi.1 ‹_› hn (by subst_vars; omega)).symm)), ⟨rfl, rfl⟩⟩⟩)
        · rename_i h_19
          simp only [hH, decide_eq_false_iff_not, Int.not_lt, Int.not_le] at h_19
          cbv
          generalize e_20 : H Int _ = v_21
          simp only [hH, zeroS] at e_20
          replace e_20 := (IntWalk.i64_in _ (by omega)).symm.trans e_20
          generalize e_22 : H Int _ = v_23
          simp only [hH, zeroS] at e_22
          replace e_22 := (IntWalk.i64_in _ (by (first | exact mul_i64 hb ‹_› ‹_› | exact mul_i64 hb (Int.not_lt.1 ‹_›) (Int.not_lt.1 ‹_›)))).symm.trans e_22
          exact rnd (_, _) (h := ⟨⟨(by omega), (by omega)⟩, ⟨⟨(by (obtain ⟨h1, h2, h3⟩ := okp_go hi ‹_› hb hn hok ‹_› ‹_› ‹_› ‹_› (by omega) ‹_›; first | exact h1.1 | exact h1.2 | exact h1 | exact h2 | exact h3)), (by omega)⟩, ⟨(by (obtain ⟨h1, h2, h3⟩ := okp_go hi ‹_› hb hn hok ‹_› ‹_› ‹_› ‹_› (by omega) ‹_›; first | exact h1.1 | exact h1.2 | exact h1 | exact h2 | exact h3)), (by (obtain ⟨h1, h2, h3⟩ := okp_go hi ‹_› hb hn hok ‹_› ‹_› ‹_› ‹_› (by omega) ‹_›; first | exact h1.1 | exact h1.2 | exact h1 | exact h2 | exact h3))⟩⟩⟩) (s := q3)
  · rename_i h_24
    simp only [hH, decide_eq_false_iff_not, Int.not_lt, Int.not_le] at h_24
    cbv
    exact fin (h := ⟨_, ⟨(by (obtain rfl : i = d := (by omega); exact hn.trans (okp_all hok).symm)), ⟨rfl, rfl⟩⟩⟩)
theorem productR_tri (d : Int) (zs : Ix → Int) (fl : Bool) (hd : 0 ≤ d ∧ d ≤ 9223372036854775807) : TriS Try.prog 38 [.l d [.i .i64 zs] fl] [] (fun r σ => ∃ p, p = prodV (rng d zs) ∧ r = .i .i64 p ∧ σ = []) := by
  refine tri_of TT_ok mixed (OR := ORD38) (fn := Try.f38) (c := body Try.f38) (by kernel_rfl) (by kernel_rfl) (by kernel_rfl) (by kernel_rfl) (by simp [Try.f38]) fun H Tri hH hTri => ?_
  cbv
  refine' ⟨0, Int × Int, fun ((i, n) : Int × Int) => ⟨[(0, V.l d [C.i IntKind.i64 zs] fl), (4, .i .i64 i), (3, .i .i64 n), (2, V.i IntKind.i64 0)], [], 100⟩, fun ((i, n) : Int × Int) => (0 ≤ i ∧ i ≤ d) ∧ (1 ≤ n ∧ n ≤ 4096) ∧ (n = pr (rng d zs) i.toNat) ∧ (okp (rng d zs) i.toNat = true), fun ((i, n) : Int × Int) => (d - i).toNat, ⟨(0, 1), ⟨?p_1, ?p_2, ?p_3, ?p_4⟩, ?s_5⟩, ?r_6⟩
  case s_5 => cbv <;> repeat' first | exact rfl | exact trivial | exact Or.inr trivial | exact Or.inl rfl | apply And.intro | omega | (split <;> first | exact trivial | (exfalso; simp_all; done)) | (subst_vars; simp [o0]; done)
  case p_1 => omega
  case p_2 => omega
  case p_3 => rfl
  case p_4 => rfl
  rintro ⟨i, n⟩ ⟨hi, hb, hn, hok⟩
  cbv
  split
  · rename_i h_7
    simp only [hH, decide_eq_true_eq] at h_7
    cbv
    generalize e_8 : H Int _ = v_9
    simp only [hH, zeroS] at e_8
    generalize e_10 : (fun ix => zs (i :: ix)) = c_11
    refine ⟨by rw [hH]; simp; omega, ?_⟩
    cbv
    split
    · rename_i h_12
      simp only [hH, decide_eq_true_eq] at h_12
      cbv
      exact fin (h := ⟨_, ⟨(by (exact (okp_bad hi.1 ‹_› hn (by subst_vars; omega)).symm)), ⟨rfl, rfl⟩⟩⟩)
    · rename_i h_13
      simp only [hH, decide_eq_false_iff_not, Int.not_lt, Int.not_le] at h_13
      cbv
      generalize e_14 : H Int _ = v_15
      simp only [hH, zeroS] at e_14
      obtain rfl := Eq.trans (Eq.symm e_8) e_14
      generalize e_16 : (fun ix => zs (i :: ix)) = c_17
      refine ⟨by rw [hH]; simp; omega, ?_⟩
      cbv
      split
      · rename_i h_18
        simp only [hH, decide_eq_true_eq] at h_18
        cbv
        exact fin (h := ⟨_, ⟨(by (exact (okp_bad hi.1 ‹_› hn (by subst_vars; omega)).symm)), ⟨rfl, rfl⟩⟩⟩)
      · rename_i h_19
        simp only [hH, decide_eq_false_iff_not, Int.not_lt, Int.not_le] at h_19
        cbv
        generalize e_20 : H Int _ = v_21
        simp only [hH, zeroS] at e_20
        rw [e_8] at e_20
        replace e_20 := (IntWalk.i64_in _ (by (first | exact mul_i64 hb ‹_› ‹_› | exact mul_i64 hb (Int.not_lt.1 ‹_›) (Int.not_lt.1 ‹_›)))).symm.trans e_20
        generalize e_22 : H Int _ = v_23
        simp only [hH, zeroS] at e_22
        obtain rfl := Eq.trans (Eq.symm e_8) e_22
        generalize e_24 : (fun ix => zs (i :: ix)) = c_25
        refine ⟨by rw [hH]; simp; omega, ?_⟩
        cbv
        split
        · rename_i h_26
          simp only [hH, decide_eq_true_eq] at h_26
          cbv
          exact fin (h := ⟨_, ⟨(by (exact (okp_bad hi.1 ‹_› hn (by subst_vars; omega)).symm)), ⟨rfl, rfl⟩⟩⟩)
        · rename_i h_27
          simp only [hH, decide_eq_false_iff_not, Int.not_lt, Int.not_le] at h_27
          cbv
          generalize e_28 : H Int _ = v_29
          simp only [hH, zeroS] at e_28
          replace e_28 := (IntWalk.i64_in _ (by omega)).symm.trans e_28
          generalize e_30 : H Int _ = v_31
          simp only [hH, zeroS] at e_30
          rw [e_8] at e_30
          replace e_30 := (IntWalk.i64_in _ (by (first | exact mul_i64 hb ‹_› ‹_› | exact mul_i64 hb (Int.not_lt.1 ‹_›) (Int.not_lt.1 ‹_›)))).symm.trans e_30
          generalize e_32 : H Int _ = v_33
          simp only [hH, zeroS] at e_32
          obtain rfl := Eq.trans (Eq.symm e_8) e_32
          generalize e_34 : (fun ix => zs (i :: ix)) = c_35
          refine ⟨by rw [hH]; simp; omega, ?_⟩
          cbv
          exact rnd (_, _) (h := ⟨⟨(by omega), (by omega)⟩, ⟨⟨(by (obtain ⟨h1, h2, h3⟩ := okp_go hi ‹_› hb hn hok ‹_› ‹_› ‹_› ‹_› (by omega) ‹_›; first | exact h1.1 | exact h1.2 | exact h1 | exact h2 | exact h3)), (by omega)⟩, ⟨(by (obtain ⟨h1, h2, h3⟩ := okp_go hi ‹_› hb hn hok ‹_› ‹_› ‹_› ‹_› (by omega) ‹_›; first | exact h1.1 | exact h1.2 | exact h1 | exact h2 | exact h3)), (by (obtain ⟨h1, h2, h3⟩ := okp_go hi ‹_› hb hn hok ‹_› ‹_› ‹_› ‹_› (by omega) ‹_›; first | exact h1.1 | exact h1.2 | exact h1 | exact h2 | exact h3))⟩⟩⟩) (s := q3)
  · rename_i h_36
    simp only [hH, decide_eq_false_iff_not, Int.not_lt, Int.not_le] at h_36
    cbv
    exact fin (h := ⟨_, ⟨(by (obtain rfl : i = d := (by omega); exact hn.trans (okp_all hok).symm)), ⟨rfl, rfl⟩⟩⟩)
theorem iclone_tri (n : Int) (f : Ix → Int) (fl : Bool) (hn : 0 ≤ n ∧ n ≤ 1000000000) : TriS Try.prog 37 [.l n [.i .i64 f] fl] [] (fun r σ => ∃ c, (∀ j, 0 ≤ j → j < n → c [j] = f [j]) ∧ r = .sl 100 0 n 1 false ∧ σ = [(100, .ar n [.i .i64 c] 3)]) := by
  refine tri_of TT_ok mixed (OR := ORD37) (fn := Try.f37) (c := body Try.f37) (by kernel_rfl) (by kernel_rfl) (by kernel_rfl) (by kernel_rfl) (by simp [Try.f37]) fun H Tri hH hTri => ?_
  cbv
  intro b_1 h_2
  rcases b_1 with _ | _
  · simp only [boolS] at h_2
    cbv
    generalize e_3 : H Int _ = v_4
    simp only [hH, zeroS] at e_3
    subst e_3
    refine ⟨by rw [hH]; simp, ?_⟩
    cbv
    refine ⟨by rw [hH]; simp; omega, ?_⟩
    cbv
    exact fin (h := ⟨_, ⟨(by omega), ⟨rfl, rfl⟩⟩⟩)
  · simp only [boolS] at h_2
    cbv
    refine' ⟨_, _, ⟨_, ⟨?p_5, ⟨rfl, rfl⟩⟩⟩, ?c_6, ?s_7⟩
    case s_7 => cbv <;> repeat' first | exact rfl | exact trivial | apply And.intro | omega
    case c_6 => rfl
    case p_5 => omega
    exact fun _ => 0
/-- a slab -/
def slabS (a b c : Nat) (d n : Int) (zs cs : Ix → Int) : Sto := [(a, .st [.sl b 0 d 1 false, .sl c 0 n 1 false] 81), (b, .ar d [.i .i64 zs] 3), (c, .ar n [.i .i64 cs] 3)]
def slabR (a b c : Nat) (d n : Int) (zs cs : Ix → Int) : Sto := [(a, .st [.sl b 0 d 1 false, .sl c 0 n 1 false] 83), (b, .ar d [.i .i64 zs] 3), (c, .ar n [.i .i64 cs] 3)]
section
variable (d n : Int) (zs cs : Ix → Int) (f1 f2 : Bool)
theorem ofB_iff {d n : Int} {zs cs : Ix → Int} (hd : 0 ≤ d) (hn : 0 ≤ n) : ofB (rng d zs) (rng n cs) = true ↔ (1 ≤ d ∧ d ≤ 6 ∧ n ≠ 0 ∧ prodV (rng d zs) = n) := by
  rw [ofB]
  simp only [Bool.and_eq_true, decide_eq_true_eq, rng_len]
  constructor
  · rintro ⟨h1, h2, h3, h4⟩
    have h5 := (okp_bd h3).1
    refine ⟨by omega, by omega, by omega, ?_⟩
    rw [prodV, rng_len, if_pos h3, h4]; omega
  · rintro ⟨h1, h2, h3, h4⟩
    have : okp (rng d zs) d.toNat = true := by
      rw [← Bool.not_eq_false]
      intro h
      rw [prodV, rng_len, if_neg (by rw [h]; simp)] at h4
      omega
    rw [prodV, rng_len, if_pos this] at h4
    exact ⟨by omega, by omega, this, by omega⟩
theorem of_ok (hd : 0 ≤ d ∧ d ≤ 1000000) (hn : 0 ≤ n ∧ n ≤ 1000000) (h : ofB (rng d zs) (rng n cs) = true) : TriS Try.prog 12 [.l d [.i .i64 zs] f1, .l n [.i .i64 cs] f2] [] (fun r σ => ∃ zs' cs', rng d zs' = rng d zs ∧ rng n cs' = rng n cs ∧ r = .tu [.pt 100 0, .i .i64 0] ∧ σ = slabS 100 101 102 d n zs' cs') := by
  obtain ⟨h1, h2, h3, h4⟩ := (ofB_iff hd.1 hn.1).1 h
  refine tri_of TT_ok mixed (OR := ORD12) (fn := Try.f12) (c := body Try.f12) (by kernel_rfl) (by kernel_rfl) (by kernel_rfl) (by kernel_rfl) (by simp [Try.f12]) fun H Tri hH hTri => ?_
  cbv
  split
  case h_1 => rename_i hh; exact absurd hh (by rw [hH]; simp; omega)
  cbv
  split
  case h_1 => rename_i hh; exact absurd hh (by rw [hH]; simp; omega)
  cbv
  split
  case h_1 => rename_i hh; exact absurd hh (by rw [hH]; simp; omega)
  cbv
  generalize e_1 : H Bool _ = b_2
  simp only [hH] at e_1
  replace e_1 := boolN e_1
  generalize e_3 : H Bool _ = b_4
  simp only [hH] at e_3
  replace e_3 := boolN e_3
  generalize e_5 : H Bool _ = b_6
  simp only [hH] at e_5
  replace e_5 := boolN e_5
  refine cal [] (t := hTri _ _ _ _ (product_tri _ _ _ (by omega))) (k := ?k_7)
  rintro r_8 σ_9 ⟨v_10, ⟨h_11, ⟨rfl, rfl⟩⟩⟩
  cbv
  split
  case h_1 => rename_i hh; exact absurd hh (by rw [hH]; simp; omega)
  cbv
  generalize e_12 : H Bool _ = b_13
  simp only [hH] at e_12
  replace e_12 := boolN e_12
  refine cal [] (t := hTri _ _ _ _ (iclone_tri _ _ _ (by omega))) (k := ?k_14)
  rintro r_15 σ_16 ⟨x_17, ⟨h_18, ⟨rfl, rfl⟩⟩⟩
  cbv
  refine cal [] (t := hTri _ _ _ _ (iclone_tri _ _ _ (by omega))) (k := ?k_19)
  rintro r_20 σ_21 ⟨x_22, ⟨h_23, ⟨rfl, rfl⟩⟩⟩
  cbv
  exact fin (h := ⟨_, ⟨_, ⟨(by (exact rng_congr ‹_›)), ⟨(by (exact rng_congr ‹_›)), ⟨rfl, rfl⟩⟩⟩⟩⟩)
theorem of_bad (hd : 0 ≤ d ∧ d ≤ 1000000) (hn : 0 ≤ n ∧ n ≤ 1000000) (h : ofB (rng d zs) (rng n cs) = false) : TriS Try.prog 12 [.l d [.i .i64 zs] f1, .l n [.i .i64 cs] f2] [] (fun r σ => r = .tu [nilp, .i .i64 1] ∧ σ = []) := by
  have h := mt (ofB_iff hd.1 hn.1).2 (by rw [h]; simp)
  refine tri_of TT_ok mixed (OR := ORD12) (fn := Try.f12) (c := body Try.f12) (by kernel_rfl) (by kernel_rfl) (by kernel_rfl) (by kernel_rfl) (by simp [Try.f12]) fun H Tri hH hTri => ?_
  cbv
  split
  · rename_i h_1
    simp only [hH, decide_eq_true_eq] at h_1
    cbv
    exact fin (h := ⟨rfl, rfl⟩)
  · rename_i h_2
    simp only [hH, decide_eq_false_iff_not, Int.not_lt, Int.not_le] at h_2
    cbv
    split
    · rename_i h_3
      simp only [hH, decide_eq_true_eq] at h_3
      cbv
      exact fin (h := ⟨rfl, rfl⟩)
    · rename_i h_4
      simp only [hH, decide_eq_false_iff_not, Int.not_lt, Int.not_le] at h_4
      cbv
      split
      · rename_i h_5
        simp only [hH, decide_eq_true_eq] at h_5
        cbv
        exact fin (h := ⟨rfl, rfl⟩)
      · rename_i h_6
        simp only [hH, decide_eq_false_iff_not, Int.not_lt, Int.not_le] at h_6
        cbv
        generalize e_7 : H Bool _ = b_8
        simp only [hH] at e_7
        replace e_7 := boolN e_7
        generalize e_9 : H Bool _ = b_10
        simp only [hH] at e_9
        replace e_9 := boolN e_9
        generalize e_11 : H Bool _ = b_12
        simp only [hH] at e_11
        replace e_11 := boolN e_11
        refine cal [] (t := hTri _ _ _ _ (product_tri _ _ _ (by omega))) (k := ?k_13)
        rintro r_14 σ_15 ⟨v_16, ⟨h_17, ⟨rfl, rfl⟩⟩⟩
        cbv
        split
        case h_2 => rename_i hh; exact absurd hh (by rw [hH]; simp; omega)
        cbv
        exact fin (h := ⟨rfl, rfl⟩)
theorem ofR_ok (hd : 0 ≤ d ∧ d ≤ 1000000) (hn : 0 ≤ n ∧ n ≤ 1000000) (h : ofB (rng d zs) (rng n cs) = true) : TriS Try.prog 13 [.l d [.i .i64 zs] f1, .l n [.i .i64 cs] f2] [] (fun r σ => ∃ zs' cs', rng d zs' = rng d zs ∧ rng n cs' = rng n cs ∧ r = .tu [.pt 100 0, .i .i64 0] ∧ σ = slabR 100 101 102 d n zs' cs') := by
  obtain ⟨h1, h2, h3, h4⟩ := (ofB_iff hd.1 hn.1).1 h
  refine tri_of TT_ok mixed (OR := ORD13) (fn := Try.f13) (c := body Try.f13) (by kernel_rfl) (by kernel_rfl) (by kernel_rfl) (by kernel_rfl) (by simp [Try.f13]) fun H Tri hH hTri => ?_
  cbv
  split
  case h_1 => rename_i hh; exact absurd hh (by rw [hH]; simp; omega)
  cbv
  split
  case h_1 => rename_i hh; exact absurd hh (by rw [hH]; simp; omega)
  cbv
  generalize e_1 : H Bool _ = b_2
  simp only [hH] at e_1
  replace e_1 := boolN e_1
  generalize e_3 : H Bool _ = b_4
  simp only [hH] at e_3
  replace e_3 := boolN e_3
  refine cal [] (t := hTri _ _ _ _ (productR_tri _ _ _ (by omega))) (k := ?k_5)
  rintro r_6 σ_7 ⟨v_8, ⟨h_9, ⟨rfl, rfl⟩⟩⟩
  cbv
  split
  case h_1 => rename_i hh; exact absurd hh (by rw [hH]; simp; omega)
  cbv
  generalize e_10 : H Bool _ = b_11
  simp only [hH] at e_10
  replace e_10 := boolN e_10
  refine cal [] (t := hTri _ _ _ _ (productR_tri _ _ _ (by omega))) (k := ?k_12)
  rintro r_13 σ_14 ⟨v_15, ⟨h_16, ⟨rfl, rfl⟩⟩⟩
  cbv
  split
  case h_1 => rename_i hh; exact absurd hh (by rw [hH]; simp; omega)
  cbv
  generalize e_17 : H Int _ = v_18
  simp only [hH, zeroS] at e_17
  subst e_17
  generalize e_19 : H Int _ = v_20
  simp only [hH, zeroS] at e_19
  subst e_19
  refine ⟨by rw [hH]; simp, ?_⟩
  cbv
  refine ⟨by rw [hH]; simp; omega, ?_⟩
  cbv
  refine ⟨by rw [hH]; simp, ?_⟩
  cbv
  refine ⟨by rw [hH]; simp; omega, ?_⟩
  cbv
  exact fin (h := ⟨_, ⟨_, ⟨(by rfl), ⟨(by rfl), ⟨rfl, rfl⟩⟩⟩⟩⟩)
theorem ofR_bad (hd : 0 ≤ d ∧ d ≤ 1000000) (hn : 0 ≤ n ∧ n ≤ 1000000) (h : ofB (rng d zs) (rng n cs) = false) : TriS Try.prog 13 [.l d [.i .i64 zs] f1, .l n [.i .i64 cs] f2] [] (fun r σ => r = .tu [nilp, .i .i64 1] ∧ σ = []) := by
  have h := mt (ofB_iff hd.1 hn.1).2 (by rw [h]; simp)
  refine tri_of TT_ok mixed (OR := ORD13) (fn := Try.f13) (c := body Try.f13) (by kernel_rfl) (by kernel_rfl) (by kernel_rfl) (by kernel_rfl) (by simp [Try.f13]) fun H Tri hH hTri => ?_
  cbv
  split
  · rename_i h_1
    simp only [hH, decide_eq_true_eq] at h_1
    cbv
    exact fin (h := ⟨rfl, rfl⟩)
  · rename_i h_2
    simp only [hH, decide_eq_false_iff_not, Int.not_lt, Int.not_le] at h_2
    cbv
    split
    · rename_i h_3
      simp only [hH, decide_eq_true_eq] at h_3
      cbv
      exact fin (h := ⟨rfl, rfl⟩)
    · rename_i h_4
      simp only [hH, decide_eq_false_iff_not, Int.not_lt, Int.not_le] at h_4
      cbv
      generalize e_5 : H Bool _ = b_6
      simp only [hH] at e_5
      replace e_5 := boolN e_5
      generalize e_7 : H Bool _ = b_8
      simp only [hH] at e_7
      replace e_7 := boolN e_7
      refine cal [] (t := hTri _ _ _ _ (productR_tri _ _ _ (by omega))) (k := ?k_9)
      rintro r_10 σ_11 ⟨v_12, ⟨h_13, ⟨rfl, rfl⟩⟩⟩
      cbv
      split
      · rename_i h_14
        simp only [hH, decide_eq_true_eq] at h_14
        cbv
        exact fin (h := ⟨rfl, rfl⟩)
      · rename_i h_15
        simp only [hH, decide_eq_false_iff_not, Int.not_lt, Int.not_le] at h_15
        cbv
        generalize e_16 : H Bool _ = b_17
        simp only [hH] at e_16
        replace e_16 := boolN e_16
        refine cal [] (t := hTri _ _ _ _ (productR_tri _ _ _ (by omega))) (k := ?k_18)
        rintro r_19 σ_20 ⟨v_21, ⟨h_22, ⟨rfl, rfl⟩⟩⟩
        cbv
        split
        case h_2 => rename_i hh; exact absurd hh (by rw [hH]; simp; omega)
        cbv
        exact fin (h := ⟨rfl, rfl⟩)
end
end Go.Proofs.Ytilmhjojbolbeaa.AM

namespace Go.Proofs.Ytilmhjojbolbeaa.AM
open Go
set_option maxRecDepth 100000
set_option maxHeartbeats 4000000
section
variable {d n k i v s q : Int} {zs cs c : Ix → Int}
theorem wf_d (hw : Wf (rng d zs) (rng n cs)) : 1 ≤ d ∧ d ≤ 6 := by
  have h1 := hw.lo; have h2 := hw.hi; rw [rng_len] at h1 h2; omega
theorem wf_n (hw : Wf (rng d zs) (rng n cs)) : 1 ≤ n ∧ n ≤ 4096 := by
  have h1 := hw.pos'; have h2 := hw.most; rw [rng_len] at h1 h2; omega
theorem wf_z (hw : Wf (rng d zs) (rng n cs)) {i : Int} (h0 : 0 ≤ i) (h1 : i < d) : 1 ≤ zs [i] ∧ zs [i] ≤ 4096 := by
  have := hw.size_le (k := i.toNat) (by rw [rng_len]; omega); rwa [rd_rngI h0 h1] at this
theorem plc_go (hw : Wf (rng d zs) (rng n cs)) (hi : 0 ≤ i) (h1 : i < d) (hk : k = d) (ha : q = plc (rng d zs) (rng k c) i.toNat) (ho : okc (rng d zs) (rng k c) i.toNat = true) (hv : c [i] = v) (hs : zs [i] = s) (a : 0 ≤ v) (b : v < s) :
    (0 ≤ q * s ∧ q * s + v < 4096) ∧ q * s + v = plc (rng d zs) (rng k c) (i + 1).toNat ∧ okc (rng d zs) (rng k c) (i + 1).toNat = true := by
  subst hk hv hs ha
  have e : (i + 1).toNat = i.toNat + 1 := by omega
  have e1 : okc (rng k zs) (rng k c) (i + 1).toNat = true := by rw [e, okc, ho, rd_rngI hi h1, rd_rngI hi h1]; simp [a, b]
  have e2 : plc (rng k zs) (rng k c) (i + 1).toNat = plc (rng k zs) (rng k c) i.toNat * zs [i] + c [i] := by rw [e, plc, rd_rngI hi h1, rd_rngI hi h1]
  have h2 := plc_lt hw.pos (k := (i + 1).toNat) (by rw [rng_len]; omega) e1
  have h3 := hw.pr_le (k := (i + 1).toNat) (by rw [rng_len]; omega)
  have h4 := plc_lt hw.pos (k := i.toNat) (by rw [rng_len]; omega) ho
  have h5 := Int.mul_nonneg h4.1 (show 0 ≤ zs [i] by omega)
  rw [e2] at h2
  exact ⟨by omega, e2.symm, e1⟩
theorem place_len (hd : 0 ≤ d) (hk : 0 ≤ k) (h : k ≠ d) : 0 = placeV (rng d zs) (rng k c) ∧ 1 = placeE (rng d zs) (rng k c) := by
  have : isCell (rng d zs) (rng k c) = false := by
    have : ¬ (k.toNat = d.toNat) := by omega
    simp [isCell, rng_len, this]
  simp [placeV, placeE, this]
theorem place_out (hi : 0 ≤ i) (h1 : i < d) (hk : k = d) (h : ¬ (0 ≤ c [i] ∧ c [i] < zs [i])) : 0 = placeV (rng d zs) (rng k c) ∧ 1 = placeE (rng d zs) (rng k c) := by
  subst hk
  have e : okc (rng k zs) (rng k c) (i.toNat + 1) = false := by
    rw [okc, rd_rngI hi h1, rd_rngI hi h1, ← Bool.not_eq_true]
    simp only [Bool.and_eq_true, decide_eq_true_eq]
    exact fun h2 => h h2.2
  have := okc_mono (l := (rng k c).length) (by rw [rng_len]; omega) e
  have : isCell (rng k zs) (rng k c) = false := by simp [isCell, this]
  simp [placeV, placeE, this]
theorem place_all (hk : k = d) (hi : i = d) (ha : q = plc (rng d zs) (rng k c) i.toNat) (ho : okc (rng d zs) (rng k c) i.toNat = true) : q = placeV (rng d zs) (rng k c) ∧ 0 = placeE (rng d zs) (rng k c) := by
  subst hk hi
  have : isCell (rng i zs) (rng i c) = true := by simp [isCell, rng_len, ho]
  simp [placeV, placeE, this, rng_len, ha]
end
section
variable (d n k : Int) (zs cs c : Ix → Int) (fl : Bool)
theorem place_tri (hk : 0 ≤ k ∧ k ≤ 1000000000) (hw : Wf (rng d zs) (rng n cs)) : TriS Try.prog 83 [.pt 0 0, .l k [.i .i64 c] fl] (slabS 0 1 2 d n zs cs) (fun r σ => ∃ v e, v = placeV (rng d zs) (rng k c) ∧ e = placeE (rng d zs) (rng k c) ∧ r = .tu [.i .i64 v, .i .i64 e] ∧ σ = slabS 0 1 2 d n zs cs) := by
  obtain ⟨hd1, hd2⟩ := wf_d hw
  refine tri_of TT_ok mixed (OR := ORD83) (fn := Try.f83) (c := body Try.f83) (by kernel_rfl) (by kernel_rfl) (by kernel_rfl) (by kernel_rfl) (by simp [Try.f83]) fun H Tri hH hTri => ?_
  cbv
  split
  · rename_i h_1
    simp only [hH, decide_eq_true_eq] at h_1
    cbv
    exact fin (h := ⟨_, ⟨_, ⟨(by (first | exact (place_len (by omega) (by omega) ‹_›).1 | exact (place_len (by omega) (by omega) ‹_›).2)), ⟨(by (first | exact (place_len (by omega) (by omega) ‹_›).1 | exact (place_len (by omega) (by omega) ‹_›).2)), ⟨rfl, rfl⟩⟩⟩⟩⟩)
  · rename_i h_2
    simp only [hH, decide_eq_false_iff_not, Int.not_lt, Int.not_le] at h_2
    cbv
    refine' ⟨0, Int × Int, fun ((i, q) : Int × Int) => ⟨[(22, V.i IntKind.i64 k), (21, V.l k [C.i IntKind.i64 c] fl), (0, V.pt 0 0), (23, .i .i64 i), (6, .i .i64 q), (5, V.i IntKind.i64 0), (4, V.i IntKind.i64 0)], [(0, O.st [V.sl 1 0 d 1 false, V.sl 2 0 n 1 false] 81), (1, O.ar d [C.i IntKind.i64 zs] 3), (2, O.ar n [C.i IntKind.i64 cs] 3)], 100⟩, fun ((i, q) : Int × Int) => (0 ≤ i ∧ i ≤ d) ∧ (q = plc (rng d zs) (rng k c) i.toNat) ∧ (okc (rng d zs) (rng k c) i.toNat = true), fun ((i, q) : Int × Int) => (d - i).toNat, ⟨(0, 0), ⟨(by omega), (by rfl), (by rfl)⟩, q3⟩, ?r_3⟩
    rintro ⟨i, q⟩ ⟨hi, ha, ho⟩
    cbv
    split
    · rename_i h_4
      simp only [hH, decide_eq_true_eq] at h_4
      cbv
      generalize e_5 : H Int _ = v_6
      simp only [hH, zeroS] at e_5
      generalize e_7 : (fun ix => c (i :: ix)) = c_8
      refine ⟨by rw [hH]; simp; omega, ?_⟩
      cbv
      split
      · rename_i h_9
        simp only [hH, decide_eq_true_eq] at h_9
        cbv
        exact fin (h := ⟨_, ⟨_, ⟨(by (first | exact (place_out hi.1 (by omega) (by omega) (by omega)).1 | exact (place_out hi.1 (by omega) (by omega) (by omega)).2)), ⟨(by (first | exact (place_out hi.1 (by omega) (by omega) (by omega)).1 | exact (place_out hi.1 (by omega) (by omega) (by omega)).2)), ⟨rfl, rfl⟩⟩⟩⟩⟩)
      · rename_i h_10
        simp only [hH, decide_eq_false_iff_not, Int.not_lt, Int.not_le] at h_10
        cbv
        generalize e_11 : H Int _ = v_12
        simp only [hH, zeroS] at e_11
        generalize e_13 : H Int _ = v_14
        simp only [hH, zeroS] at e_13
        subst e_13
        refine ⟨by rw [hH]; simp; omega, ?_⟩
        cbv
        split
        · rename_i h_15
          simp only [hH, decide_eq_true_eq] at h_15
          cbv
          exact fin (h := ⟨_, ⟨_, ⟨(by (first | exact (place_out hi.1 (by omega) (by omega) (by omega)).1 | exact (place_out hi.1 (by omega) (by omega) (by omega)).2)), ⟨(by (first | exact (place_out hi.1 (by omega) (by omega) (by omega)).1 | exact (place_out hi.1 (by omega) (by omega) (by omega)).2)), ⟨rfl, rfl⟩⟩⟩⟩⟩)
        · rename_i h_16
          simp only [hH, decide_eq_false_iff_not, Int.not_lt, Int.not_le] at h_16
          cbv
          generalize e_17 : H Int _ = v_18
          simp only [hH, zeroS] at e_17
          replace e_17 := (IntWalk.i64_in _ (by omega)).symm.trans e_17
          generalize e_19 : H Int _ = v_20
          simp only [hH, zeroS] at e_19
          rw [e_11] at e_19
          rw [IntWalk.i64_in (q * v_12) (by ((have := plc_go hw hi.1 (by omega) (by omega) ha ho ‹_› ‹_› (by omega) (by omega); omega)))] at e_19
          rw [IntWalk.i64_in (q * v_12 + v_6) (by ((have := plc_go hw hi.1 (by omega) (by omega) ha ho ‹_› ‹_› (by omega) (by omega); omega)))] at e_19
          generalize e_21 : H Int _ = v_22
          simp only [hH, zeroS] at e_21
          rw [e_11] at e_21
          replace e_21 := (IntWalk.i64_in _ (by ((have := plc_go hw hi.1 (by omega) (by omega) ha ho ‹_› ‹_› (by omega) (by omega); omega)))).symm.trans e_21
          generalize e_23 : H Int _ = v_24
          simp only [hH, zeroS] at e_23
          obtain rfl := Eq.trans (Eq.symm e_11) e_23
          generalize e_25 : H Int _ = v_26
          simp only [hH, zeroS] at e_25
          subst e_25
          refine ⟨by rw [hH]; simp; omega, ?_⟩
          cbv
          exact rnd (_, _) (h := ⟨⟨(by omega), (by omega)⟩, ⟨(by (obtain ⟨h1, h2, h3⟩ := plc_go hw hi.1 (by omega) (by omega) ha ho ‹_› ‹_› (by omega) (by omega); subst_vars; first | exact h2 | exact h3)), (by (obtain ⟨h1, h2, h3⟩ := plc_go hw hi.1 (by omega) (by omega) ha ho ‹_› ‹_› (by omega) (by omega); subst_vars; first | exact h2 | exact h3))⟩⟩) (s := q3)
    · rename_i h_27
      simp only [hH, decide_eq_false_iff_not, Int.not_lt, Int.not_le] at h_27
      cbv
      exact fin (h := ⟨_, ⟨_, ⟨(by (first | exact (place_all (by omega) (by omega) ha ho).1 | exact (place_all (by omega) (by omega) ha ho).2)), ⟨(by (first | exact (place_all (by omega) (by omega) ha ho).1 | exact (place_all (by omega) (by omega) ha ho).2)), ⟨rfl, rfl⟩⟩⟩⟩⟩)
end
end Go.Proofs.Ytilmhjojbolbeaa.AM

namespace Go.Proofs.Ytilmhjojbolbeaa.AM
open Go
set_option maxRecDepth 100000
set_option maxHeartbeats 4000000
/-- what an iterator over a range's places holds -/
def itS (a : Nat) (d p : Int) (lo hi : Ix → Int) (f1 f2 : Bool) : Sto := [(a, .st [.l d [.i .i64 lo] f1] 22), (a + 1, .st [.i .i64 p] 3), (a + 2, .st [.l d [.i .i64 hi] f2] 22), (a + 3, .st [.pt 0 0] 24)]
section
variable {d n k1 k2 i : Int} {zs cs lo hi : Ix → Int}
theorem may_place (hm : mayB (rng d zs) (rng k1 lo) (rng k2 hi) = true) (hd : 0 ≤ d) (h1 : 0 ≤ k1) (h2 : 0 ≤ k2) : placeE (rng d zs) (rng k1 lo) = 0 ∧ placeE (rng d zs) (rng k2 hi) = 0 ∧ k1 = d ∧ k2 = d ∧ ∀ j, 0 ≤ j → j < d → lo [j] ≤ hi [j] := by
  have ha := hm
  simp only [mayB, Bool.and_eq_true] at ha
  obtain ⟨l1, l2, o1, o2, hle⟩ := may_facts hm
  simp only [rng_len] at l1 l2
  refine ⟨by simp [placeE, ha.1.1], by simp [placeE, ha.1.2], by omega, by omega, fun j h0 h1 => ?_⟩
  have := hle j.toNat (by rw [rng_len]; omega)
  rwa [rd_rngI h0 (by omega), rd_rngI h0 (by omega)] at this
theorem le_next (h0 : 0 ≤ i) (h1 : i < k1) (h2 : i < k2) (hl : leB (rng k1 lo) (rng k2 hi) i.toNat = true) (h : lo [i] ≤ hi [i]) : leB (rng k1 lo) (rng k2 hi) (i + 1).toNat = true := by
  rw [show (i + 1).toNat = i.toNat + 1 by omega, leB, hl, rd_rngI h0 h1, rd_rngI h0 h2]; simp [h]
theorem may_all (hd : 0 ≤ d) (h1 : 0 ≤ k1) (h2 : 0 ≤ k2) (e1 : placeE (rng d zs) (rng k1 lo) = 0) (e2 : placeE (rng d zs) (rng k2 hi) = 0) (hl : leB (rng k1 lo) (rng k2 hi) k1.toNat = true) : mayB (rng d zs) (rng k1 lo) (rng k2 hi) = true := by
  have a1 : isCell (rng d zs) (rng k1 lo) = true := by simp only [placeE] at e1; split at e1 <;> simp_all
  have a2 : isCell (rng d zs) (rng k2 hi) = true := by simp only [placeE] at e2; split at e2 <;> simp_all
  rw [mayB, a1, a2, rng_len, hl]; rfl
theorem place_len2 (hd : 0 ≤ d) (h1 : 0 ≤ k1) (e1 : placeE (rng d zs) (rng k1 lo) = 0) : k1 = d := by
  by_cases h : k1 = d
  · exact h
  · have := place_len (zs := zs) (c := lo) hd h1 h; omega
end
section
variable (d n k1 k2 : Int) (zs cs lo hi : Ix → Int) (f1 f2 : Bool)
theorem places_ok (hk1 : 0 ≤ k1 ∧ k1 ≤ 1000000000) (hk2 : 0 ≤ k2 ∧ k2 ≤ 1000000000) (hw : Wf (rng d zs) (rng n cs)) (hm : mayB (rng d zs) (rng k1 lo) (rng k2 hi) = true) :
    TriS Try.prog 55 [.pt 0 0, .l k1 [.i .i64 lo] f1, .l k2 [.i .i64 hi] f2] (slabS 0 1 2 d n zs cs) (fun r σ => ∃ p, p = placeV (rng d zs) (rng d lo) ∧ r = .tu [.fn (.func 84) [.pt 100 0, .pt 101 0, .pt 102 0, .pt 103 0], .i .i64 0] ∧ σ = slabS 0 1 2 d n zs cs ++ itS 100 d p lo hi f1 f2) := by
  obtain ⟨hd1, hd2⟩ := wf_d hw
  obtain ⟨e1, e2, rfl, rfl, hle⟩ := may_place hm (by omega) hk1.1 hk2.1
  refine tri_of TT_ok mixed (OR := ORD55) (fn := Try.f55) (c := body Try.f55) (by kernel_rfl) (by kernel_rfl) (by kernel_rfl) (by kernel_rfl) (by simp [Try.f55]) fun H Tri hH hTri => ?_
  cbv
  refine cal [0, 1, 2] (t := hTri _ _ _ _ (place_tri _ _ _ _ _ _ _ (by assumption) (by assumption))) (k := ?k_1)
  rintro r_2 σ_3 ⟨v_4, ⟨v_5, ⟨h_6, ⟨h_7, ⟨rfl, rfl⟩⟩⟩⟩⟩
  cbv
  refine cal [0, 1, 2] (t := hTri _ _ _ _ (place_tri _ _ _ _ _ _ _ (by assumption) (by assumption))) (k := ?k_8)
  rintro r_9 σ_10 ⟨v_11, ⟨v_12, ⟨h_13, ⟨h_14, ⟨rfl, rfl⟩⟩⟩⟩⟩
  cbv
  split
  case h_1 => rename_i hh; exact absurd hh (by rw [hH]; simp; omega)
  cbv
  split
  case h_1 => rename_i hh; exact absurd hh (by rw [hH]; simp; omega)
  cbv
  refine' ⟨0, Int, fun (i : Int) => ⟨[(32, V.i IntKind.i64 k2), (8, V.pt 123 0), (5, V.pt 102 0), (4, V.pt 101 0), (3, V.pt 100 0), (33, .i .i64 i), (7, V.i IntKind.i64 0), (6, V.v Value.nilFunc)], [(0, O.st [V.sl 1 0 k2 1 false, V.sl 2 0 n 1 false] 81), (1, O.ar k2 [C.i IntKind.i64 zs] 3), (2, O.ar n [C.i IntKind.i64 cs] 3), (123, O.st [V.i IntKind.i64 v_4] 3), (102, O.st [V.l k2 [C.i IntKind.i64 hi] f2] 22), (101, O.st [V.l k2 [C.i IntKind.i64 lo] f1] 22), (100, O.st [V.pt 0 0] 24)], 144⟩, fun (i : Int) => (0 ≤ i ∧ i ≤ k2), fun (i : Int) => (k2 - i).toNat, ⟨0, (by omega), q3⟩, ?r_15⟩
  rintro i hi
  cbv
  split
  · rename_i h_16
    simp only [hH, decide_eq_true_eq] at h_16
    cbv
    generalize e_17 : H Int _ = v_18
    simp only [hH, zeroS] at e_17
    generalize e_19 : H Int _ = v_20
    simp only [hH, zeroS] at e_19
    refine ⟨by rw [hH]; simp; omega, ?_⟩
    cbv
    refine ⟨by rw [hH]; simp; omega, ?_⟩
    cbv
    split
    case h_1 => rename_i hh; exact absurd hh (by simp only [hH]; ((have := hle i hi.1 (by omega); simp; omega)))
    cbv
    generalize e_21 : H Int _ = v_22
    simp only [hH, zeroS] at e_21
    replace e_21 := (IntWalk.i64_in _ (by omega)).symm.trans e_21
    exact rnd _ (h := ⟨(by omega), (by omega)⟩) (s := q3)
  · rename_i h_23
    simp only [hH, decide_eq_false_iff_not, Int.not_lt, Int.not_le] at h_23
    cbv
    exact fin (h := ⟨_, ⟨(by assumption), ⟨rfl, rfl⟩⟩⟩) (s := q3)
theorem places_bad (hk1 : 0 ≤ k1 ∧ k1 ≤ 1000000000) (hk2 : 0 ≤ k2 ∧ k2 ≤ 1000000000) (hw : Wf (rng d zs) (rng n cs)) (hm : mayB (rng d zs) (rng k1 lo) (rng k2 hi) = false) :
    TriS Try.prog 55 [.pt 0 0, .l k1 [.i .i64 lo] f1, .l k2 [.i .i64 hi] f2] (slabS 0 1 2 d n zs cs) (fun r σ => r = .tu [.v .nilFunc, .i .i64 1] ∧ σ = slabS 0 1 2 d n zs cs) := by
  obtain ⟨hd1, hd2⟩ := wf_d hw
  refine tri_of TT_ok mixed (OR := ORD55) (fn := Try.f55) (c := body Try.f55) (by kernel_rfl) (by kernel_rfl) (by kernel_rfl) (by kernel_rfl) (by simp [Try.f55]) fun H Tri hH hTri => ?_
  cbv
  refine cal [0, 1, 2] (t := hTri _ _ _ _ (place_tri _ _ _ _ _ _ _ (by assumption) (by assumption))) (k := ?k_1)
  rintro r_2 σ_3 ⟨v_4, ⟨v_5, ⟨h_6, ⟨h_7, ⟨rfl, rfl⟩⟩⟩⟩⟩
  cbv
  refine cal [0, 1, 2] (t := hTri _ _ _ _ (place_tri _ _ _ _ _ _ _ (by assumption) (by assumption))) (k := ?k_8)
  rintro r_9 σ_10 ⟨v_11, ⟨v_12, ⟨h_13, ⟨h_14, ⟨rfl, rfl⟩⟩⟩⟩⟩
  cbv
  split
  · rename_i h_15
    simp only [hH, decide_eq_true_eq] at h_15
    cbv
    exact fin (h := ⟨rfl, rfl⟩)
  · rename_i h_16
    simp only [hH, decide_eq_false_iff_not, Int.not_lt, Int.not_le] at h_16
    cbv
    split
    · rename_i h_17
      simp only [hH, decide_eq_true_eq] at h_17
      cbv
      exact fin (h := ⟨rfl, rfl⟩)
    · rename_i h_18
      simp only [hH, decide_eq_false_iff_not, Int.not_lt, Int.not_le] at h_18
      cbv
      refine' ⟨0, Int, fun (i : Int) => ⟨[(32, V.i IntKind.i64 k1), (8, V.pt 123 0), (5, V.pt 102 0), (4, V.pt 101 0), (3, V.pt 100 0), (33, .i .i64 i), (7, V.i IntKind.i64 0), (6, V.v Value.nilFunc)], [(0, O.st [V.sl 1 0 d 1 false, V.sl 2 0 n 1 false] 81), (1, O.ar d [C.i IntKind.i64 zs] 3), (2, O.ar n [C.i IntKind.i64 cs] 3), (123, O.st [V.i IntKind.i64 v_4] 3), (102, O.st [V.l k2 [C.i IntKind.i64 hi] f2] 22), (101, O.st [V.l k1 [C.i IntKind.i64 lo] f1] 22), (100, O.st [V.pt 0 0] 24)], 144⟩, fun (i : Int) => (0 ≤ i ∧ i ≤ k1) ∧ (leB (rng k1 lo) (rng k2 hi) i.toNat = true) ∧ (k1 = d ∧ k2 = d), fun (i : Int) => (k1 - i).toNat, ⟨0, ⟨(by omega), (by rfl), (by (exact ⟨place_len2 (zs := zs) (lo := lo) (by omega) (by omega) (by omega), place_len2 (zs := zs) (lo := hi) (by omega) (by omega) (by omega)⟩))⟩, q3⟩, ?r_19⟩
      rintro i ⟨hj, hl, hkd⟩
      cbv
      split
      · rename_i h_20
        simp only [hH, decide_eq_true_eq] at h_20
        cbv
        generalize e_21 : H Int _ = v_22
        simp only [hH, zeroS] at e_21
        generalize e_23 : H Int _ = v_24
        simp only [hH, zeroS] at e_23
        generalize e_25 : (fun ix => hi (i :: ix)) = c_26
        generalize e_27 : (fun ix => lo (i :: ix)) = c_28
        refine ⟨by rw [hH]; simp; omega, ?_⟩
        cbv
        refine ⟨by rw [hH]; simp; omega, ?_⟩
        cbv
        split
        · rename_i h_29
          simp only [hH, decide_eq_true_eq] at h_29
          cbv
          exact fin (h := ⟨rfl, rfl⟩)
        · rename_i h_30
          simp only [hH, decide_eq_false_iff_not, Int.not_lt, Int.not_le] at h_30
          cbv
          generalize e_31 : H Int _ = v_32
          simp only [hH, zeroS] at e_31
          replace e_31 := (IntWalk.i64_in _ (by omega)).symm.trans e_31
          exact rnd _ (h := ⟨⟨(by omega), (by omega)⟩, ⟨(by (subst_vars; exact le_next hj.1 (by omega) (by omega) hl (by omega))), ⟨(by omega), (by omega)⟩⟩⟩) (s := q3)
      · rename_i h_33
        simp only [hH, decide_eq_false_iff_not, Int.not_lt, Int.not_le] at h_33
        cbv
        generalize e_34 : H Bool _ = b_35
        simp only [hH] at e_34
        replace e_34 := boolN e_34
        exact absurd (may_all (zs := zs) (lo := lo) (hi := hi) (d := d) (k1 := k1) (k2 := k2) (by omega) (by omega) (by omega) (by omega) (by omega) (by rw [show k1.toNat = i.toNat by omega]; exact hl)) (by rw [hm]; simp)
end
end Go.Proofs.Ytilmhjojbolbeaa.AM

namespace Go.Proofs.Ytilmhjojbolbeaa.AM
open Go
set_option maxRecDepth 100000
set_option maxHeartbeats 4000000
theorem rng_set {n i v : Int} {f g : Ix → Int} (h0 : 0 ≤ i) (h1 : i < n) (hg : ∀ j, 0 ≤ j → j < n → g [j] = if j = i then v else f [j]) : rng n g = (rng n f).set i.toNat v := by
  refine ext_rd (by simp [rng_len]) fun j hj => ?_
  rw [rng_len] at hj
  rw [rd_rng (by omega), hg j (by omega) (by omega), rd_set _ _ _ _ (by rw [rng_len]; omega), rd_rng (by omega)]
  by_cases e : (j : Int) = i
  · rw [if_pos e, if_pos (by omega)]
  · rw [if_neg e, if_neg (by omega)]
theorem rng_put {n i v : Int} {f g : Ix → Int} (h0 : 0 ≤ i) (h1 : i < n) (hg : (fun ix => bif decide (AM.hd ix = i) then v else f ix) = g) : rng n g = (rng n f).set i.toNat v :=
  rng_set h0 h1 fun j _ _ => by subst hg; by_cases e : j = i <;> simp [e, AM.hd]
section
variable {d n p q q' i i' v x : Int} {zs cs lo hi cc cd c c1 g : Ix → Int}
theorem it_first (hw : Wf (rng d zs) (rng n cs)) (hm : mayB (rng d zs) (rng d lo) (rng d hi) = true) (hp : p = placeV (rng d zs) (rng d lo)) (hg : ∀ j, 0 ≤ j → j < d → g [j] = lo [j]) :
    (0 ≤ p ∧ p < n) ∧ rng d g = cellL (rng d zs) p ∧ hitB (rng d zs) (rng d lo) (rng d hi) p.toNat = true ∧ hits (rng d zs) (rng d lo) (rng d hi) p.toNat = [] := by
  obtain ⟨m, h1, h2, h3, h4, h5⟩ := first_hit hw hm
  have hn := wf_n hw
  rw [rng_len] at h2
  have : p = m := by
    have ha := hm; simp only [mayB, Bool.and_eq_true] at ha
    rw [hp, placeV, if_pos ha.1.1, ← h1, rng_len, rng_len]
  subst this
  exact ⟨by omega, by rw [h3]; exact rng_congr hg, h4, h5⟩
theorem odo_at (hc : rng d cc = cellL (rng d zs) q) (ho : rng d cd = odo (cellL (rng d zs) q) (rng d lo) (i + 1).toNat) (h0 : 0 ≤ i) (h1 : i < d) : cd [i] = cc [i] := by
  rw [rng_at ho h0 h1, rng_at hc h0 h1, rd_odo _ _ _ _ (by simp [rng_len]; omega), if_pos (by omega)]
theorem odo_start (hc : rng d cc = cellL (rng d zs) q) (hi : i + 1 = d) : rng d cc = odo (cellL (rng d zs) q) (rng d lo) (i + 1).toNat := by
  rw [hi, hc]
  have := odo_all (cellL (rng d zs) q) (rng d lo)
  rw [cellL_length, rng_len] at this
  exact this.symm
theorem odo_back (ho : rng d cd = odo (cellL (rng d zs) q) (rng d lo) (i + 1).toNat) (h0 : 0 ≤ i) (h1 : i < d) (hg : (fun ix => bif decide (AM.hd ix = i) then v else cd ix) = g) (hv : lo [i] = v) (hi : i - 1 = i') : rng d g = odo (cellL (rng d zs) q) (rng d lo) (i' + 1).toNat := by
  rw [rng_put h0 h1 hg, ho, ← hv, ← rd_rngI h0 h1 (f := lo), show (i + 1).toNat = i.toNat + 1 by omega, odo_step _ _ _ (by simp [rng_len]; omega)]
  congr 1; omega
theorem cd_bd (hw : Wf (rng d zs) (rng n cs)) (hc : rng d cc = cellL (rng d zs) q) (ho : rng d cd = odo (cellL (rng d zs) q) (rng d lo) (i + 1).toNat) (h0 : 0 ≤ i) (h1 : i < d) : 0 ≤ cd [i] ∧ cd [i] < 4096 := by
  rw [odo_at hc ho h0 h1, rng_at hc h0 h1]
  have h2 := cellL_bd hw.pos q (k := i.toNat) (by rw [rng_len]; omega)
  have h3 := wf_z hw h0 h1
  rw [rd_rngI h0 h1] at h2
  omega
theorem it_next (hw : Wf (rng d zs) (rng n cs)) (hm : mayB (rng d zs) (rng d lo) (rng d hi) = true) (hq : 0 ≤ q ∧ q < n) (hc : rng d cc = cellL (rng d zs) q) (hh : hitB (rng d zs) (rng d lo) (rng d hi) q.toNat = true)
    (ho : rng d cd = odo (cellL (rng d zs) q) (rng d lo) (i + 1).toNat) (h0 : 0 ≤ i) (h1 : i < d) (he : ∀ j, i < j → j < d → cc [j] = hi [j]) (hne : cd [i] ≠ hi [i]) (hg : (fun ix => bif decide (AM.hd ix = i) then v else cd ix) = g) (hv : cd [i] + 1 = v) (hq' : q' = placeV (rng d zs) (rng d g)) :
    (0 ≤ q' ∧ q' < n) ∧ q < q' ∧ rng d g = cellL (rng d zs) q' ∧ hitB (rng d zs) (rng d lo) (rng d hi) q'.toNat = true ∧
      hits (rng d zs) (rng d lo) (rng d hi) q'.toNat = hits (rng d zs) (rng d lo) (rng d hi) q.toNat ++ [q.toNat] := by
  have e : ((q.toNat : Nat) : Int) = q := by omega
  subst hq' hv
  have eg : rng d g = nxt (cellL (rng d zs) q) (rng d lo) i.toNat := by
    rw [rng_put h0 h1 hg, ho, nxt, odo_at hc ho h0 h1, rng_at hc h0 h1, show (i + 1).toNat = i.toNat + 1 by omega]
  obtain ⟨m, a1, a2, a3, a4, a5, a6⟩ := next_hit (j := i.toNat) hw hm (p := q.toNat) (by rw [rng_len]; omega) hh (by rw [rng_len]; omega) (fun j b1 b2 => by
      rw [rng_len] at b2
      rw [e, ← hc, rd_rng (by omega), rd_rng (by omega)]; exact he j (by omega) (by omega))
    (by rw [e, ← hc, rd_rngI h0 h1, rd_rngI h0 h1, ← odo_at hc ho h0 h1]; exact hne)
  rw [e, ← eg] at a1 a3
  rw [rng_len] at a2
  rw [hits_hit hh] at a5
  rw [a1, Int.toNat_natCast]
  exact ⟨by omega, by omega, by rw [a3], a4, a5⟩
theorem it_last (hw : Wf (rng d zs) (rng n cs)) (hq : 0 ≤ q ∧ q < n) (hc : rng d cc = cellL (rng d zs) q) (hh : hitB (rng d zs) (rng d lo) (rng d hi) q.toNat = true) (h0 : i < 0) (he : ∀ j, i < j → j < d → cc [j] = hi [j]) :
    hits (rng d zs) (rng d lo) (rng d hi) n.toNat = hits (rng d zs) (rng d lo) (rng d hi) q.toNat ++ [q.toNat] := by
  have e : ((q.toNat : Nat) : Int) = q := by omega
  have := last_hit (low := rng d lo) (high := rng d hi) hw (p := q.toNat) (by rw [rng_len]; omega) (fun j hj => by
    rw [rng_len] at hj
    rw [e, ← hc, rd_rng (by omega), rd_rng (by omega)]; exact he j (by omega) (by omega))
  rw [rng_len] at this
  rw [this, hits_hit hh]
theorem fill_step (hq : 0 ≤ q ∧ q < n) {pre : List Nat} (hf : rng n c = fillBy (rng n cs) x pre) (h1 : rng n c1 = (rng n c).set q.toNat x) : rng n c1 = fillBy (rng n cs) x (pre ++ [q.toNat]) := by
  rw [h1, hf, fillBy_snoc _ _ _ _ (by rw [rng_len]; omega)]
theorem wf_cur (hw : Wf (rng d zs) (rng n cs)) (c : Ix → Int) : Wf (rng d zs) (rng n c) := ⟨hw.lo, hw.hi, hw.pos, by rw [rng_len, ← hw.len, rng_len], by have := hw.most; rw [rng_len] at this; rw [rng_len]; exact this⟩
end
/-- what a round of Fill is handed -/
def recF (l : Nat) (rf : LoopState → Option Code → Obj) (vs : List Value) (m : Nat) (x : Int) : Sto :=
  [(m, .rw l rf .ready none [.pt (m + 1) 0, .pt (m + 2) 0] vs), (m + 1, .st [.pt 0 0] 24), (m + 2, .st [.i .i64 x] 3)]
section
variable (d n p x : Int) (zs cs lo hi : Ix → Int) (f1 f2 : Bool)
theorem fill_it (hw : Wf (rng d zs) (rng n cs)) (hm : mayB (rng d zs) (rng d lo) (rng d hi) = true) (hp : p = placeV (rng d zs) (rng d lo)) (l : Nat) (rf : LoopState → Option Code → Obj) (vs : List Value) (J : YSp)
    (hJ : ∀ (q : Int) (c : Ix → Int), 0 ≤ q → q < n → J [.i .i64 q] (slabS 0 1 2 d n zs c ++ recF l rf vs 3 x) (fun r σ => ∃ c', rng n c' = (rng n c).set q.toNat x ∧ r = .b true ∧ σ = slabS 0 1 2 d n zs c' ++ recF l rf vs 3 x)) :
    TriIS Try.prog l J 84 [.fn (.yield l) [], .pt 3 0, .pt 4 0, .pt 5 0, .pt 6 0] (slabS 0 1 2 d n zs cs ++ itS 3 d p lo hi f1 f2 ++ recF l rf vs 7 x)
      (fun r σ => ∃ c', rng n c' = fillL (rng d zs) (rng n cs) (rng d lo) (rng d hi) x ∧ r = .tu [] ∧ σ = slabS 0 1 2 d n zs c' ++ itS 3 d p lo hi f1 f2 ++ recF l rf vs 7 x) := by
  obtain ⟨hd1, hd2⟩ := wf_d hw
  obtain ⟨hn1, hn2⟩ := wf_n hw
  refine tri_it TT_ok mixed (OR := ORD84) (fn := Try.f84) (c := body Try.f84) (by kernel_rfl) (by kernel_rfl) (by kernel_rfl) (by kernel_rfl) (by simp [Try.f84]) fun H Tri Yl hH hTri hYl => ?_
  cbv
  refine cal [] (t := hTri _ _ _ _ (iclone_tri _ _ _ (by omega))) (k := ?k_1)
  rintro r_2 σ_3 ⟨x_4, ⟨h_5, ⟨rfl, rfl⟩⟩⟩
  cbv
  refine' ⟨0, Int × (Ix → Int) × (Ix → Int), fun ((q, cc, c) : Int × (Ix → Int) × (Ix → Int)) => ⟨[(6, V.sl 200 0 d 1 false), (0, V.fn (Fn.yield l) []), (1, V.pt 3 0), (3, V.pt 5 0), (4, V.pt 6 0), (7, .i .i64 q)], [(200, .ar d [.i .i64 cc] 3), (0, O.st [V.sl 1 0 d 1 false, V.sl 2 0 n 1 false] 81), (1, O.ar d [C.i IntKind.i64 zs] 3), (2, .ar n [.i .i64 c] 3), (3, O.st [V.l d [C.i IntKind.i64 lo] f1] 22), (4, O.st [V.i IntKind.i64 p] 3), (5, O.st [V.l d [C.i IntKind.i64 hi] f2] 22), (6, O.st [V.pt 0 0] 24), (7, O.rw l rf LoopState.ready none [V.pt 8 0, V.pt 9 0] vs), (8, O.st [V.pt 0 0] 24), (9, O.st [V.i IntKind.i64 x] 3)], 201⟩, fun ((q, cc, c) : Int × (Ix → Int) × (Ix → Int)) => (0 ≤ q ∧ q < n) ∧ (rng d cc = cellL (rng d zs) q) ∧ (hitB (rng d zs) (rng d lo) (rng d hi) q.toNat = true) ∧ (rng n c = fillBy (rng n cs) x (hits (rng d zs) (rng d lo) (rng d hi) q.toNat)), fun ((q, cc, c) : Int × (Ix → Int) × (Ix → Int)) => (n - q).toNat, ⟨(p, _, cs), ⟨(by (exact (it_first hw hm hp ‹_›).1)), (by (exact (it_first hw hm hp ‹_›).2.1)), (by (exact (it_first hw hm hp ‹_›).2.2.1)), (by (rw [(it_first hw hm hp ‹_›).2.2.2, fillBy_nil]))⟩, q3⟩, ?r_6⟩
  rintro ⟨q, cc, c⟩ ⟨hq, hc, hh, hf⟩
  cbv
  refine cal [0, 1, 2, 7, 8, 9] (t := hYl _ _ _ (hJ _ _ (by omega) (by omega))) (k := ?k_7)
  rintro r_8 σ_9 ⟨x_10, ⟨h_11, ⟨rfl, rfl⟩⟩⟩
  cbv
  generalize e_12 : H Int _ = v_13
  simp only [hH, zeroS] at e_12
  replace e_12 := (IntWalk.i64_in _ (by omega)).symm.trans e_12
  refine' ⟨0, Int × (Ix → Int), fun ((i, cd) : Int × (Ix → Int)) => ⟨[(6, V.sl 200 0 d 1 false), (0, V.fn (Fn.yield l) []), (1, V.pt 3 0), (3, V.pt 5 0), (4, V.pt 6 0), (7, V.i IntKind.i64 q), (8, .i .i64 i)], [(0, O.st [V.sl 1 0 d 1 false, V.sl 2 0 n 1 false] 81), (1, O.ar d [C.i IntKind.i64 zs] 3), (2, O.ar n [C.i IntKind.i64 x_10] 3), (7, O.rw l rf LoopState.ready none [V.pt 8 0, V.pt 9 0] vs), (8, O.st [V.pt 0 0] 24), (9, O.st [V.i IntKind.i64 x] 3), (200, .ar d [.i .i64 cd] 3), (3, O.st [V.l d [C.i IntKind.i64 lo] f1] 22), (4, O.st [V.i IntKind.i64 p] 3), (5, O.st [V.l d [C.i IntKind.i64 hi] f2] 22), (6, O.st [V.pt 0 0] 24)], 221⟩, fun ((i, cd) : Int × (Ix → Int)) => (-1 ≤ i ∧ i < d) ∧ (rng d cd = odo (cellL (rng d zs) q) (rng d lo) (i + 1).toNat) ∧ (∀ j, i < j → j < d → cc [j] = hi [j]), fun ((i, cd) : Int × (Ix → Int)) => (i + 1).toNat, ⟨(_, cc), ⟨?p_14, ?p_15, ?p_16⟩, ?s_17⟩, ?r_18⟩
  case s_17 => cbv <;> repeat' first | exact rfl | exact trivial | exact Or.inr trivial | exact Or.inl rfl | apply And.intro | omega | (split <;> first | exact trivial | (exfalso; simp_all; done)) | (subst_vars; simp [o0]; done)
  case p_14 => omega
  case p_15 => (exact odo_start hc (by omega))
  case p_16 => omega
  rintro ⟨i, cd⟩ ⟨hj, ho, he⟩
  cbv
  split
  · rename_i h_19
    simp only [hH, decide_eq_true_eq] at h_19
    cbv
    generalize e_20 : H Int _ = v_21
    simp only [hH, zeroS] at e_20
    generalize e_22 : H Int _ = v_23
    simp only [hH, zeroS] at e_22
    generalize e_24 : H Int _ = v_25
    simp only [hH, zeroS] at e_24
    subst e_24
    generalize e_26 : (fun ix => hi (i :: ix)) = c_27
    refine ⟨by rw [hH]; simp; omega, ?_⟩
    cbv
    refine ⟨by rw [hH]; simp; omega, ?_⟩
    cbv
    split
    · rename_i h_28
      simp only [hH, decide_eq_true_eq] at h_28
      cbv
      generalize e_29 : H Int _ = v_30
      simp only [hH, zeroS] at e_29
      replace e_29 := (IntWalk.i64_in _ (by omega)).symm.trans e_29
      generalize e_31 : H Int _ = v_32
      simp only [hH, zeroS] at e_31
      subst e_31
      generalize e_33 : H Int _ = v_34
      simp only [hH, zeroS] at e_33
      generalize e_35 : (fun ix => lo (i :: ix)) = c_36
      generalize e_37 : (fun ix => bif decide (hd ix = i) then v_34 else cd ix) = c_38
      refine ⟨by rw [hH]; simp; omega, ?_⟩
      cbv
      refine ⟨by rw [hH]; simp; omega, ?_⟩
      cbv
      exact rnd (_, _) (h := ⟨⟨(by omega), (by omega)⟩, ⟨(by (exact odo_back ho (by omega) (by omega) ‹_› (by omega) (by omega))), (by ((intro j h1 h2; by_cases hji : j = i; (have := odo_at hc ho (i := i) (by omega) (by omega); rw [hji]; omega); exact he j (by omega) h2)))⟩⟩) (s := q3)
    · rename_i h_39
      simp only [hH, decide_eq_false_iff_not, Int.not_lt, Int.not_le] at h_39
      cbv
      split
      case h_1 => rename_i hh; exact absurd hh (by rw [hH]; simp; omega)
      cbv
      generalize e_40 : H Int _ = v_41
      simp only [hH, zeroS] at e_40
      subst e_40
      generalize e_42 : H Int _ = v_43
      simp only [hH, zeroS] at e_42
      rw [e_20] at e_42
      replace e_42 := (IntWalk.i64_in _ (by ((have := cd_bd hw hc ho (i := i) (by omega) (by omega); omega)))).symm.trans e_42
      generalize e_44 : H Int _ = v_45
      simp only [hH, zeroS] at e_44
      obtain rfl := Eq.trans (Eq.symm e_20) e_44
      generalize e_46 : (fun ix => bif decide (hd ix = i) then v_43 else cd ix) = c_47
      refine ⟨by rw [hH]; simp; omega, ?_⟩
      cbv
      refine ⟨by rw [hH]; simp; omega, ?_⟩
      cbv
      generalize e_48 : H Bool _ = b_49
      simp only [hH] at e_48
      replace e_48 := boolN e_48
      generalize e_50 : H Bool _ = b_51
      simp only [hH] at e_50
      replace e_50 := boolN e_50
      generalize e_52 : H Bool _ = b_53
      simp only [hH] at e_52
      replace e_52 := boolN e_52
      refine cal [0, 1, 2] (t := hTri _ _ _ _ (place_tri _ _ _ _ _ _ _ (by omega) (by (exact wf_cur hw _)))) (k := ?k_54)
      rintro r_55 σ_56 ⟨v_57, ⟨v_58, ⟨h_59, ⟨h_60, ⟨rfl, rfl⟩⟩⟩⟩⟩
      simp only [rng_fr0] at h_59
      simp only [rng_fr0] at h_60
      cbv
      exact rnd (_, (_, _)) (h := ⟨⟨(by ((obtain ⟨⟨h1, h2⟩, h3, h4, h5, h6⟩ := it_next hw hm hq hc hh ho (by omega) (by omega) he (by omega) ‹_› (by omega) ‹_›; first | omega | exact h4 | exact h5 | (simp; omega) | (rw [h6]; exact fill_step hq hf ‹_›)))), (by ((obtain ⟨⟨h1, h2⟩, h3, h4, h5, h6⟩ := it_next hw hm hq hc hh ho (by omega) (by omega) he (by omega) ‹_› (by omega) ‹_›; first | omega | exact h4 | exact h5 | (simp; omega) | (rw [h6]; exact fill_step hq hf ‹_›))))⟩, ⟨(by ((obtain ⟨⟨h1, h2⟩, h3, h4, h5, h6⟩ := it_next hw hm hq hc hh ho (by omega) (by omega) he (by omega) ‹_› (by omega) ‹_›; first | omega | exact h4 | exact h5 | (simp; omega) | (rw [h6]; exact fill_step hq hf ‹_›)))), ⟨(by ((obtain ⟨⟨h1, h2⟩, h3, h4, h5, h6⟩ := it_next hw hm hq hc hh ho (by omega) (by omega) he (by omega) ‹_› (by omega) ‹_›; first | omega | exact h4 | exact h5 | (simp; omega) | (rw [h6]; exact fill_step hq hf ‹_›)))), (by ((obtain ⟨⟨h1, h2⟩, h3, h4, h5, h6⟩ := it_next hw hm hq hc hh ho (by omega) (by omega) he (by omega) ‹_› (by omega) ‹_›; first | omega | exact h4 | exact h5 | (simp; omega) | (rw [h6]; exact fill_step hq hf ‹_›))))⟩⟩⟩) (s := q3) (m := by ((obtain ⟨⟨h1, h2⟩, h3, h4, h5, h6⟩ := it_next hw hm hq hc hh ho (by omega) (by omega) he (by omega) ‹_› (by omega) ‹_›; first | omega | exact h4 | exact h5 | (simp; omega) | (rw [h6]; exact fill_step hq hf ‹_›))))
  · rename_i h_61
    simp only [hH, decide_eq_false_iff_not, Int.not_lt, Int.not_le] at h_61
    cbv
    split
    case h_2 => rename_i hh; exact absurd hh (by rw [hH]; simp; omega)
    cbv
    exact fin (h := ⟨_, ⟨(by ((rw [fill_step hq hf ‹_›, ← it_last hw hq hc hh (by omega) he, ← rng_len n cs]; exact fillBy_hits _ _ _ _ _))), ⟨rfl, rfl⟩⟩⟩) (s := q3)
theorem sfill_ok (k1 k2 : Int) (hk1 : 0 ≤ k1 ∧ k1 ≤ 1000000000) (hk2 : 0 ≤ k2 ∧ k2 ≤ 1000000000) (hw : Wf (rng d zs) (rng n cs)) (hm : mayB (rng d zs) (rng k1 lo) (rng k2 hi) = true) :
    TriS Try.prog 24 [.pt 0 0, .l k1 [.i .i64 lo] f1, .l k2 [.i .i64 hi] f2, .i .i64 x] (slabS 0 1 2 d n zs cs) (fun r σ => ∃ c', rng n c' = fillL (rng d zs) (rng n cs) (rng d lo) (rng d hi) x ∧ r = .i .i64 0 ∧ σ = slabS 0 1 2 d n zs c') := by
  obtain ⟨hd1, hd2⟩ := wf_d hw
  obtain ⟨hn1, hn2⟩ := wf_n hw
  obtain ⟨-, -, rfl, rfl, -⟩ := may_place hm (by omega) hk1.1 hk2.1
  refine tri_of2 TT_ok mixed (OR := ORD24) (fn := Try.f24) (c := body Try.f24) (by kernel_rfl) (by kernel_rfl) (by kernel_rfl) (by kernel_rfl) (by simp [Try.f24]) fun H Tri TrI hH hTri hTrI => ?_
  cbv
  refine cal [0, 1, 2] (t := hTri _ _ _ _ (places_ok _ _ _ _ _ _ _ _ _ _ (by assumption) (by assumption) (by assumption) (by assumption))) (k := ?k_1)
  rintro r_2 σ_3 ⟨v_4, ⟨h_5, ⟨rfl, rfl⟩⟩⟩
  cbv
  split
  case h_1 => rename_i hh; exact absurd hh (by rw [hH]; simp; try omega)
  cbv
  generalize e_6 : H Bool _ = b_7
  simp only [hH] at e_6
  replace e_6 := boolN e_6
  obtain rfl : b_7 = false := Bool.eq_false_iff.2 fun q => absurd (e_6.1 q) (by decide)
  refine ⟨[4, 7], ?_⟩
  cbv
  intro l rf vs
  refine ⟨fun xs σ R => ∃ (q : Int) (c : Ix → Int), (0 ≤ q ∧ q < n) ∧ xs = [.i .i64 q] ∧ σ = slabS 0 1 2 k2 n zs c ++ recF l rf vs 3 x ∧ R = (fun r σ => ∃ c', rng n c' = (rng n c).set q.toNat x ∧ r = .b true ∧ σ = slabS 0 1 2 k2 n zs c' ++ recF l rf vs 3 x), ?_, ?_⟩
  · rintro _ _ _ ⟨q, c, hq, rfl, rfl, rfl⟩
    refine ⟨3, ?_⟩
    cbv
    generalize e_8 : H Int _ = v_9
    simp only [hH, zeroS] at e_8
    subst e_8
    generalize e_10 : (fun ix => bif decide (hd ix = q) then x else c ix) = c_11
    refine ⟨by rw [hH]; simp; omega, ?_⟩
    cbv
    exact fin (h := ⟨_, ⟨(by (exact rng_put (by omega) (by omega) ‹_›)), ⟨rfl, rfl⟩⟩⟩)
  · cbv
    refine cal [0, 1, 2, 202, 203, 204, 205, 122, 100, 101] (t := hTrI _ _ _ _ _ _ (by kernel_rfl) (fill_it _ _ _ _ _ _ _ _ _ _ (by assumption) (by assumption) (by assumption) _ _ _ _ (by grind))) (k := ?k_12)
    rintro r_13 σ_14 ⟨x_15, ⟨h_16, ⟨rfl, rfl⟩⟩⟩
    cbv
    exact fin (h := ⟨_, ⟨(by assumption), ⟨rfl, rfl⟩⟩⟩)
theorem sfill_bad (k1 k2 : Int) (hk1 : 0 ≤ k1 ∧ k1 ≤ 1000000000) (hk2 : 0 ≤ k2 ∧ k2 ≤ 1000000000) (hw : Wf (rng d zs) (rng n cs)) (hm : mayB (rng d zs) (rng k1 lo) (rng k2 hi) = false) :
    TriS Try.prog 24 [.pt 0 0, .l k1 [.i .i64 lo] f1, .l k2 [.i .i64 hi] f2, .i .i64 x] (slabS 0 1 2 d n zs cs) (fun r σ => r = .i .i64 1 ∧ σ = slabS 0 1 2 d n zs cs) := by
  refine tri_of2 TT_ok mixed (OR := ORD24) (fn := Try.f24) (c := body Try.f24) (by kernel_rfl) (by kernel_rfl) (by kernel_rfl) (by kernel_rfl) (by simp [Try.f24]) fun H Tri TrI hH hTri hTrI => ?_
  cbv
  refine cal [0, 1, 2] (t := hTri _ _ _ _ (places_bad _ _ _ _ _ _ _ _ _ _ (by assumption) (by assumption) (by assumption) (by assumption))) (k := ?k_1)
  rintro r_2 σ_3 ⟨rfl, rfl⟩
  cbv
  split
  case h_2 => rename_i hh; exact absurd hh (by rw [hH]; simp; try omega)
  cbv
  exact fin (h := ⟨rfl, rfl⟩)
end
end Go.Proofs.Ytilmhjojbolbeaa.AM

