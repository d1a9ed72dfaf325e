/-
  The slab as plain lists: what the document says of it and what follows it. No condition beside those that each theorem states.
-/
import Derived.Test.YtbofjdckmkifaaaMem2

/-! ## The slab as plain lists: what the document says of it. No program in sight. No condition. -/
namespace Go.Proofs.Ytbofjdckmkifaaa

/-- the place of a cell, k numbers in -/
def plc (sz c : List Int) : Nat → Int
  | 0 => 0
  | k + 1 => plc sz c k * rd sz k + rd c k
def okc (sz c : List Int) : Nat → Bool
  | 0 => true
  | k + 1 => okc sz c k && (decide (0 ≤ rd c k) && decide (rd c k < rd sz k))
def pr (sz : List Int) : Nat → Int
  | 0 => 1
  | k + 1 => pr sz k * rd sz k
/-- sizes and contents that may be -/
structure Wf (sz cs : List Int) : Prop where
  lo : 1 ≤ sz.length
  hi : sz.length ≤ 6
  pos : ∀ k, k < sz.length → 1 ≤ rd sz k
  len : (cs.length : Int) = pr sz sz.length
  most : cs.length ≤ 4096

theorem okc_step {sz c : List Int} {k : Nat} (h : okc sz c (k + 1) = true) : okc sz c k = true ∧ 0 ≤ rd c k ∧ rd c k < rd sz k := by
  simpa [okc, and_assoc] using h
theorem okc_mono {sz c : List Int} {k l : Nat} (hk : k ≤ l) (h : okc sz c k = false) : okc sz c l = false := by
  induction l with
  | zero => have : k = 0 := by omega
            subst this; exact h
  | succ l ih =>
    by_cases e : k = l + 1
    · subst e; exact h
    · simp [okc, ih (by omega)]
theorem okc_at {sz c : List Int} {k l : Nat} (h : okc sz c l = true) (hk : k < l) : 0 ≤ rd c k ∧ rd c k < rd sz k := by
  by_cases e : okc sz c (k + 1) = true
  · exact (okc_step e).2
  · have := okc_mono (show k + 1 ≤ l by omega) (by simpa using e); rw [h] at this; cases this
theorem pr_pos {sz : List Int} (hp : ∀ k, k < sz.length → 1 ≤ rd sz k) : ∀ k, k ≤ sz.length → 1 ≤ pr sz k := by
  intro k
  induction k with
  | zero => intro _; simp [pr]
  | succ k ih =>
    intro hk
    have h1 := ih (by omega)
    have h2 := hp k (by omega)
    have := Int.mul_le_mul h1 h2 (by omega) (by omega)
    simpa [pr] using this
theorem pr_mono {sz : List Int} (hp : ∀ k, k < sz.length → 1 ≤ rd sz k) {k l : Nat} (hkl : k ≤ l) (hl : l ≤ sz.length) : pr sz k ≤ pr sz l := by
  induction l with
  | zero => have : k = 0 := by omega
            subst this; exact Int.le_refl _
  | succ l ih =>
    by_cases e : k = l + 1
    · subst e; exact Int.le_refl _
    · have h1 := ih (by omega) (by omega)
      have h2 := hp l (by omega)
      have h3 := pr_pos hp l (by omega)
      have := Int.mul_le_mul_of_nonneg_left h2 (show 0 ≤ pr sz l by omega)
      simp only [pr]; omega
theorem plc_lt {sz c : List Int} {k : Nat} (hp : ∀ k, k < sz.length → 1 ≤ rd sz k) (hk : k ≤ sz.length) (h : okc sz c k = true) : 0 ≤ plc sz c k ∧ plc sz c k < pr sz k := by
  induction k with
  | zero => simp [plc, pr]
  | succ k ih =>
    obtain ⟨h1, h2, h3⟩ := okc_step h
    obtain ⟨a, b⟩ := ih (by omega) h1
    have hs := hp k (by omega)
    have m1 := Int.mul_le_mul_of_nonneg_right (show plc sz c k + 1 ≤ pr sz k by omega) (show 0 ≤ rd sz k by omega)
    have m0 := Int.mul_nonneg a (show 0 ≤ rd sz k by omega)
    rw [Int.add_mul] at m1
    simp only [plc, pr]
    omega
theorem Wf.pos' {sz cs : List Int} (h : Wf sz cs) : 1 ≤ cs.length := by have := pr_pos h.pos sz.length (Nat.le_refl _); have := h.len; omega
theorem Wf.size_le {sz cs : List Int} (h : Wf sz cs) {k : Nat} (hk : k < sz.length) : 1 ≤ rd sz k ∧ rd sz k ≤ 4096 := by
  have h1 := h.pos k hk
  have h2 := pr_mono h.pos (show k + 1 ≤ sz.length by omega) (Nat.le_refl _)
  have h3 := pr_pos h.pos k (by omega)
  have h4 := h.len
  have h5 := h.most
  have := Int.mul_le_mul_of_nonneg_right h3 (show 0 ≤ rd sz k by omega)
  simp only [pr] at h2
  omega
theorem Wf.pr_le {sz cs : List Int} (h : Wf sz cs) {k : Nat} (hk : k ≤ sz.length) : 1 ≤ pr sz k ∧ pr sz k ≤ 4096 := by
  have h1 := pr_pos h.pos k hk
  have h2 := pr_mono h.pos hk (Nat.le_refl _)
  have h4 := h.len
  have h5 := h.most
  omega
/-- P13.2: the place of a cell -/
def isCell (sz c : List Int) : Bool := decide (c.length = sz.length) && okc sz c c.length
def placeV (sz c : List Int) : Int := if isCell sz c then plc sz c c.length else 0
def placeE (sz c : List Int) : Int := if isCell sz c then 0 else 1
theorem placeV_lt {sz cs c : List Int} (h : Wf sz cs) : 0 ≤ placeV sz c ∧ placeV sz c < cs.length := by
  unfold placeV
  have hl := h.pos'
  split
  · rename_i hc
    simp only [isCell, Bool.and_eq_true, decide_eq_true_eq] at hc
    have := plc_lt h.pos (by omega) hc.2
    have hlen := h.len
    rw [← hc.1] at hlen
    omega
  · omega
/-- P13.2: the content of a cell -/
def getV (sz cs c : List Int) : Int := if isCell sz c then rd cs (plc sz c c.length).toNat else 0

/-! ### the cells in their order -/
def suf (sz : List Int) (k : Nat) : Int := (sz.drop k).foldr (· * ·) 1
theorem suf_end (sz : List Int) {k : Nat} (h : sz.length ≤ k) : suf sz k = 1 := by unfold suf; rw [List.drop_eq_nil_of_le h]; rfl
theorem suf_step (sz : List Int) {k : Nat} (h : k < sz.length) : suf sz k = rd sz k * suf sz (k + 1) := by
  unfold suf; rw [List.drop_eq_getElem_cons h, List.foldr_cons, rd_eq, List.getElem?_eq_getElem h]; rfl
theorem suf_pos {sz : List Int} (hp : ∀ k, k < sz.length → 1 ≤ rd sz k) (k : Nat) : 1 ≤ suf sz k := by
  by_cases h : k < sz.length
  · have : ∀ d k, sz.length - k = d → 1 ≤ suf sz k := by
      intro d
      induction d with
      | zero => intro k hk; rw [suf_end sz (by omega)]; omega
      | succ d ih =>
        intro k hk
        rw [suf_step sz (by omega)]
        have h1 := ih (k + 1) (by omega)
        have h2 := hp k (by omega)
        have := Int.mul_le_mul h2 h1 (by omega) (by omega)
        omega
    exact this _ k rfl
  · rw [suf_end sz (by omega)]; omega
def dig (sz : List Int) (n : Int) (k : Nat) : Int := (n / suf sz (k + 1)) % rd sz k
def cellL (sz : List Int) (n : Int) : List Int := (List.range sz.length).map (dig sz n)
@[simp] theorem cellL_length (sz : List Int) (n : Int) : (cellL sz n).length = sz.length := by simp [cellL]
theorem rd_cellL (sz : List Int) (n : Int) {k : Nat} (h : k < sz.length) : rd (cellL sz n) k = dig sz n k := rd_map_range _ _ _ h
/-- what Cell's loop has made when the numbers from k on are there -/
def cellT (sz : List Int) (n : Int) (k : Nat) : List Int := (List.range sz.length).map fun j => if j < k then 0 else dig sz n j
@[simp] theorem cellT_length (sz : List Int) (n : Int) (k : Nat) : (cellT sz n k).length = sz.length := by simp [cellT]
theorem cellT_start (sz : List Int) (n : Int) : cellT sz n sz.length = List.replicate sz.length 0 := by
  refine ext_rd (by simp) fun j hj => ?_
  simp only [cellT_length] at hj
  rw [cellT, rd_map_range _ _ _ hj, if_pos hj]; simp [rd_eq, hj]
theorem cellT_end (sz : List Int) (n : Int) : cellT sz n 0 = cellL sz n := by simp [cellT, cellL]
theorem cellT_step (sz : List Int) (n : Int) (k : Nat) (h : k < sz.length) : (cellT sz n (k + 1)).set k (dig sz n k) = cellT sz n k := by
  refine ext_rd (by simp) fun j hj => ?_
  simp at hj
  rw [rd_set _ _ _ _ (by simpa using h), cellT, rd_map_range _ _ _ hj, cellT, rd_map_range _ _ _ hj]
  by_cases e : k = j
  · subst e; simp
  · by_cases e2 : j < k
    · simp [e, e2, show j < k + 1 by omega]
    · simp [e, e2, show ¬ j < k + 1 by omega]
def withinB (c low high : List Int) : Nat → Bool
  | 0 => true
  | k + 1 => withinB c low high k && (decide (rd low k ≤ rd c k) && decide (rd c k ≤ rd high k))
theorem withinB_mono {c low high : List Int} {k l : Nat} (hk : k ≤ l) (h : withinB c low high k = false) : withinB c low high l = false := by
  induction l with
  | zero => have : k = 0 := by omega
            subst this; exact h
  | succ l ih =>
    by_cases e : k = l + 1
    · subst e; exact h
    · simp [withinB, ih (by omega)]
def leB (low high : List Int) : Nat → Bool
  | 0 => true
  | k + 1 => leB low high k && decide (rd low k ≤ rd high k)
theorem leB_mono {low high : List Int} {k l : Nat} (hk : k ≤ l) (h : leB low high k = false) : leB low high l = false := by
  induction l with
  | zero => have : k = 0 := by omega
            subst this; exact h
  | succ l ih =>
    by_cases e : k = l + 1
    · subst e; exact h
    · simp [leB, ih (by omega)]
/-- may two cells be a range -/
def mayB (sz low high : List Int) : Bool := isCell sz low && isCell sz high && leB low high low.length
def hitB (sz low high : List Int) (i : Nat) : Bool := withinB (cellL sz i) low high sz.length
def fillT (sz cs low high : List Int) (n : Int) (k : Nat) : List Int := (List.range cs.length).map fun i => if i < k ∧ hitB sz low high i = true then n else rd cs i
@[simp] theorem fillT_length (sz cs low high : List Int) (n : Int) (k : Nat) : (fillT sz cs low high n k).length = cs.length := by simp [fillT]
theorem fillT_start (sz cs low high : List Int) (n : Int) : fillT sz cs low high n 0 = cs := by
  refine ext_rd (by simp) fun j hj => ?_
  simp only [fillT_length] at hj
  rw [fillT, rd_map_range _ _ _ hj]; simp
theorem fillT_hit (sz cs low high : List Int) (n : Int) (k : Nat) (hk : k < cs.length) (h : hitB sz low high k = true) : (fillT sz cs low high n k).set k n = fillT sz cs low high n (k + 1) := by
  refine ext_rd (by simp) fun j hj => ?_
  simp at hj
  rw [rd_set _ _ _ _ (by simpa using hk), fillT, rd_map_range _ _ _ hj, fillT, rd_map_range _ _ _ hj]
  by_cases e : k = j
  · subst e; simp [h]
  · by_cases e2 : j < k
    · simp [e, e2, show j < k + 1 by omega]
    · simp [e, e2, show ¬ j < k + 1 by omega]
theorem fillT_miss (sz cs low high : List Int) (n : Int) (k : Nat) (h : hitB sz low high k = false) : fillT sz cs low high n k = fillT sz cs low high n (k + 1) := by
  refine ext_rd (by simp) fun j hj => ?_
  simp at hj
  rw [fillT, rd_map_range _ _ _ hj, fillT, rd_map_range _ _ _ hj]
  by_cases e : k = j
  · subst e; simp [h]
  · by_cases e2 : j < k
    · simp [e2, show j < k + 1 by omega]
    · simp [e2, show ¬ j < k + 1 by omega]
def fillL (sz cs low high : List Int) (n : Int) : List Int := fillT sz cs low high n cs.length

/-- the contents seen among the first k cells -/
def seenT (sz cs low high : List Int) : Nat → List Int
  | 0 => []
  | k + 1 => if hitB sz low high k = true ∧ rd cs k ∉ seenT sz cs low high k then seenT sz cs low high k ++ [rd cs k] else seenT sz cs low high k
theorem seenT_len (sz cs low high : List Int) (k : Nat) : (seenT sz cs low high k).length ≤ k := by
  induction k with
  | zero => simp [seenT]
  | succ k ih =>
    simp only [seenT]
    split
    · simp; omega
    · omega
theorem seenT_new {sz cs low high : List Int} {k : Nat} (h : hitB sz low high k = true) (hn : rd cs k ∉ seenT sz cs low high k) : seenT sz cs low high (k + 1) = seenT sz cs low high k ++ [rd cs k] := by
  simp only [seenT]; rw [if_pos ⟨h, hn⟩]
theorem seenT_old {sz cs low high : List Int} {k : Nat} (hn : rd cs k ∈ seenT sz cs low high k) : seenT sz cs low high (k + 1) = seenT sz cs low high k := by
  simp only [seenT]; rw [if_neg (fun h => h.2 hn)]
theorem seenT_miss {sz cs low high : List Int} {k : Nat} (h : hitB sz low high k = false) : seenT sz cs low high (k + 1) = seenT sz cs low high k := by
  simp only [seenT]; rw [if_neg (fun h' => by simp [h] at h')]
def seenL (sz cs low high : List Int) : List Int := if mayB sz low high then seenT sz cs low high cs.length else []
theorem mem_take_succ (xs : List Int) (m : Nat) (h : m < xs.length) (x : Int) : (x ∈ xs.take (m + 1)) ↔ (x ∈ xs.take m ∨ rd xs m = x) := by
  rw [rd_eq, List.getElem?_eq_getElem h, Option.getD_some, List.take_succ_eq_append_getElem h, List.mem_append, List.mem_singleton]
  exact or_congr Iff.rfl eq_comm

/-! ### sizes that may be -/
def okp (sz : List Int) : Nat → Bool
  | 0 => true
  | k + 1 => okp sz k && (decide (1 ≤ rd sz k) && (decide (rd sz k ≤ 4096) && decide (pr sz k * rd sz k ≤ 4096)))
theorem okp_step {sz : List Int} {k : Nat} (h : okp sz (k + 1) = true) : okp sz k = true ∧ 1 ≤ rd sz k ∧ rd sz k ≤ 4096 ∧ pr sz (k + 1) ≤ 4096 := by
  simp only [okp, Bool.and_eq_true, decide_eq_true_eq] at h
  exact ⟨h.1, h.2.1, h.2.2.1, h.2.2.2⟩
theorem okp_mono {sz : List Int} {k l : Nat} (hk : k ≤ l) (h : okp sz k = false) : okp sz l = false := by
  induction l with
  | zero => have : k = 0 := by omega
            subst this; exact h
  | succ l ih =>
    by_cases e : k = l + 1
    · subst e; exact h
    · simp [okp, ih (by omega)]
theorem okp_bd {sz : List Int} {k : Nat} (h : okp sz k = true) : 1 ≤ pr sz k ∧ pr sz k ≤ 4096 ∧ ∀ j, j < k → 1 ≤ rd sz j ∧ rd sz j ≤ 4096 := by
  induction k with
  | zero => simp [pr]
  | succ k ih =>
    obtain ⟨h1, h2, h3, h4⟩ := okp_step h
    obtain ⟨a, b, c⟩ := ih h1
    refine ⟨?_, h4, fun j hj => ?_⟩
    · have := Int.mul_le_mul a h2 (by omega) (by omega); simpa [pr] using this
    · by_cases e : j = k
      · subst e; exact ⟨h2, h3⟩
      · exact c j (by omega)
def prodV (sz : List Int) : Int := if okp sz sz.length then pr sz sz.length else 0
def ofB (sz cs : List Int) : Bool := decide (1 ≤ sz.length) && (decide (sz.length ≤ 6) && (okp sz sz.length && decide (pr sz sz.length = cs.length)))
theorem ofB_wf {sz cs : List Int} (h : ofB sz cs = true) : Wf sz cs := by
  simp only [ofB, Bool.and_eq_true, decide_eq_true_eq] at h
  obtain ⟨a, b, c, d⟩ := h
  have := okp_bd c
  exact ⟨a, b, fun k hk => (this.2.2 k hk).1, d.symm, by omega⟩
theorem wf_okp {sz cs : List Int} (h : Wf sz cs) : ∀ k, k ≤ sz.length → okp sz k = true := by
  intro k
  induction k with
  | zero => intro _; rfl
  | succ k ih =>
    intro hk
    have h1 := h.size_le (k := k) (by omega)
    have h2 := h.pr_le hk
    simp only [pr] at h2
    simp [okp, ih (by omega), h1.1, h1.2, h2.2]
theorem wf_ofB {sz cs : List Int} (h : Wf sz cs) : ofB sz cs = true := by
  simp [ofB, h.lo, h.hi, wf_okp h _ (Nat.le_refl _), h.len]

/-! ### Grow -/
def growS (sz : List Int) (a : Nat) : List Int := sz.set a (rd sz a + 1)
@[simp] theorem growS_length (sz : List Int) (a : Nat) : (growS sz a).length = sz.length := by simp [growS]
def growN (sz cs : List Int) (a : Nat) : Nat := ((cs.length : Int) / rd sz a * (rd sz a + 1)).toNat
def lower (a : Nat) (i : Int) (c : List Int) : List Int := if i < rd c a then c.set a (rd c a - 1) else c
def growT (sz cs : List Int) (a : Nat) (i : Int) (k : Nat) : List Int := (List.range k).map fun j => getV sz cs (lower a i (cellL (growS sz a) ((j : Nat) : Int)))
@[simp] theorem growT_length (sz cs : List Int) (a : Nat) (i : Int) (k : Nat) : (growT sz cs a i k).length = k := by simp [growT]
theorem growT_succ (sz cs : List Int) (a : Nat) (i : Int) (k : Nat) : growT sz cs a i (k + 1) = growT sz cs a i k ++ [getV sz cs (lower a i (cellL (growS sz a) k))] := by simp [growT, List.range_succ]
def growC (sz cs : List Int) (a : Nat) (i : Int) : List Int := growT sz cs a i (growN sz cs a)
theorem pr_congr {xs ys : List Int} {k : Nat} (h : ∀ j, j < k → rd xs j = rd ys j) : pr xs k = pr ys k := by
  induction k with
  | zero => rfl
  | succ k ih => simp only [pr]; rw [ih (fun j hj => h j (by omega)), h k (by omega)]
theorem pr_set {sz : List Int} {a : Nat} (x : Int) (ha : a < sz.length) {k : Nat} (hk : a < k) : ∃ q, pr sz k = q * rd sz a ∧ pr (sz.set a x) k = q * x := by
  induction k with
  | zero => omega
  | succ k ih =>
    by_cases e : a = k
    · subst e
      refine ⟨pr sz a, rfl, ?_⟩
      simp only [pr]
      rw [rd_set _ _ _ _ ha, if_pos rfl, pr_congr (ys := sz) (fun j hj => by rw [rd_set _ _ _ _ ha, if_neg (by omega)])]
    · obtain ⟨q, h1, h2⟩ := ih (by omega)
      refine ⟨q * rd sz k, ?_, ?_⟩
      · simp only [pr]; rw [h1, Int.mul_assoc, Int.mul_comm (rd sz a), ← Int.mul_assoc]
      · simp only [pr]; rw [h2, rd_set _ _ _ _ ha, if_neg e, Int.mul_assoc, Int.mul_comm x, ← Int.mul_assoc]
theorem grow_pr {sz cs : List Int} (h : Wf sz cs) {a : Nat} (ha : a < sz.length) : pr (growS sz a) sz.length = (cs.length : Int) / rd sz a * (rd sz a + 1) ∧ 1 ≤ (cs.length : Int) / rd sz a := by
  obtain ⟨q, h1, h2⟩ := pr_set (rd sz a + 1) ha ha
  have hs := h.pos a ha
  have hl := h.len
  have e : (cs.length : Int) / rd sz a = q := by rw [hl, h1]; exact Int.mul_ediv_cancel _ (by omega)
  rw [e]
  refine ⟨h2, ?_⟩
  have hp := h.pos'
  by_cases hq : 1 ≤ q
  · exact hq
  · have := Int.mul_nonneg (show 0 ≤ -q by omega) (show 0 ≤ rd sz a by omega)
    rw [Int.neg_mul] at this
    omega
theorem growN_eq {sz cs : List Int} (h : Wf sz cs) {a : Nat} (ha : a < sz.length) : (growN sz cs a : Int) = (cs.length : Int) / rd sz a * (rd sz a + 1) := by
  have h1 := (grow_pr h ha).2
  have hs := h.pos a ha
  have := Int.mul_nonneg (show 0 ≤ (cs.length : Int) / rd sz a by omega) (show 0 ≤ rd sz a + 1 by omega)
  unfold growN; omega
theorem grow_wf {sz cs : List Int} (h : Wf sz cs) {a : Nat} (ha : a < sz.length) (hm : (growN sz cs a : Int) ≤ 4096) {ys : List Int} (hy : ys.length = growN sz cs a) : Wf (growS sz a) ys := by
  refine ⟨by simpa using h.lo, by simpa using h.hi, fun k hk => ?_, ?_, by omega⟩
  · have hk : k < sz.length := by simpa using hk
    rw [growS, rd_set _ _ _ _ ha]
    have := h.pos k hk
    have := h.pos a ha
    split <;> omega
  · rw [growS_length, (grow_pr h ha).1, hy, growN_eq h ha]
theorem grow_prod {sz cs : List Int} (h : Wf sz cs) {a : Nat} (ha : a < sz.length) (hm : (growN sz cs a : Int) ≤ 4096) : prodV (growS sz a) = growN sz cs a := by
  have w := grow_wf h ha hm (ys := List.replicate (growN sz cs a) 0) (by simp)
  rw [prodV, if_pos (wf_okp w _ (Nat.le_refl _)), ← w.len]; simp
theorem growN_pos {sz cs : List Int} (h : Wf sz cs) {a : Nat} (ha : a < sz.length) : 1 ≤ growN sz cs a := by
  have h1 := growN_eq h ha
  have h2 := (grow_pr h ha).2
  have hs := h.pos a ha
  have := Int.mul_le_mul h2 (show 1 ≤ rd sz a + 1 by omega) (by omega) (by omega)
  omega
theorem grow_sum {sz cs : List Int} (h : Wf sz cs) {a : Nat} (ha : a < sz.length) : (growN sz cs a : Int) = (cs.length : Int) + (cs.length : Int) / rd sz a := by
  rw [growN_eq h ha, Int.mul_add, Int.mul_one]
  obtain ⟨q, h1, -⟩ := pr_set (0 : Int) ha ha
  have hs := h.pos a ha
  have e : (cs.length : Int) / rd sz a = q := by rw [h.len, h1]; exact Int.mul_ediv_cancel _ (by omega)
  rw [e, h.len, h1]
/-- P13.3: what Grow answers -/
def growBad (sz : List Int) (a i : Int) : Bool := decide (a < 0) || (decide (a ≥ sz.length) || (decide (i < 0) || decide (i ≥ rd sz a.toNat)))
def growE (sz cs : List Int) (a i : Int) : Int := if growBad sz a i then 1 else if (growN sz cs a.toNat : Int) > 4096 then 4 else 0

/-! ### Shrink -/
def shrBad (sz : List Int) (a i : Int) : Bool := decide (a < 0) || (decide (a ≥ sz.length) || (decide (i < 0) || decide (i ≥ rd sz a.toNat - 1)))
def shrOk (sz cs : List Int) (a : Nat) (i : Int) : Nat → Bool
  | 0 => true
  | k + 1 => shrOk sz cs a i k && (decide (rd (cellL sz ((k : Nat) : Int)) a ≠ i + 1) || decide (getV sz cs ((cellL sz ((k : Nat) : Int)).set a i) = rd cs k))
theorem shrOk_mono {sz cs : List Int} {a : Nat} {i : Int} {k l : Nat} (hk : k ≤ l) (h : shrOk sz cs a i k = false) : shrOk sz cs a i l = false := by
  induction l with
  | zero => have : k = 0 := by omega
            subst this; exact h
  | succ l ih =>
    by_cases e : k = l + 1
    · subst e; exact h
    · simp [shrOk, ih (by omega)]
def shrT (sz cs : List Int) (a : Nat) (i : Int) : Nat → List Int
  | 0 => []
  | k + 1 => if rd (cellL sz ((k : Nat) : Int)) a ≠ i + 1 then shrT sz cs a i k ++ [rd cs k] else shrT sz cs a i k
theorem shrT_len (sz cs : List Int) (a : Nat) (i : Int) (k : Nat) : (shrT sz cs a i k).length ≤ k := by
  induction k with
  | zero => simp [shrT]
  | succ k ih =>
    simp only [shrT]
    split
    · simp; omega
    · omega
def shrS (sz : List Int) (a : Nat) : List Int := sz.set a (rd sz a - 1)
@[simp] theorem shrS_length (sz : List Int) (a : Nat) : (shrS sz a).length = sz.length := by simp [shrS]
def shrE (sz cs : List Int) (a i : Int) : Int := if shrBad sz a i then 1 else if shrOk sz cs a.toNat i cs.length then 0 else 1

/-! ### rows -/
theorem pr_suf (sz : List Int) (k : Nat) (h : k ≤ sz.length) : pr sz k * suf sz k = suf sz 0 := by
  induction k with
  | zero => simp [pr]
  | succ k ih =>
    have e := suf_step sz (show k < sz.length by omega)
    rw [← ih (by omega), e]; simp only [pr]; rw [Int.mul_assoc]
theorem pr_all (sz : List Int) : pr sz sz.length = suf sz 0 := by
  have := pr_suf sz sz.length (Nat.le_refl _)
  rw [suf_end sz (Nat.le_refl _), Int.mul_one] at this; exact this
theorem suf_drop (sz : List Int) (k : Nat) : suf (sz.drop k) 0 = suf sz k := by simp [suf]
theorem suf_le {sz cs : List Int} (h : Wf sz cs) (k : Nat) (hk : k ≤ sz.length) : suf sz k ≤ 4096 := by
  have h1 := pr_suf sz k hk
  have h2 := pr_pos h.pos k hk
  have h3 := suf_pos h.pos k
  have h4 := h.pr_le (Nat.le_refl sz.length)
  rw [pr_all] at h4
  have := Int.mul_le_mul_of_nonneg_right h2 (show 0 ≤ suf sz k by omega)
  omega
theorem okp_of {xs : List Int} (hp : ∀ k, k < xs.length → 1 ≤ rd xs k) (hm : pr xs xs.length ≤ 4096) : ∀ k, k ≤ xs.length → okp xs k = true := by
  intro k
  induction k with
  | zero => intro _; rfl
  | succ k ih =>
    intro hk
    have h1 := hp k (by omega)
    have h2 := pr_mono hp hk (Nat.le_refl _)
    have h3 := pr_pos hp k (by omega)
    have := Int.mul_le_mul_of_nonneg_right h3 (show 0 ≤ rd xs k by omega)
    simp only [pr] at h2
    simp [okp, ih (by omega)]
    omega
theorem rd_drop (xs : List Int) (k j : Nat) : rd (xs.drop k) j = rd xs (k + j) := by simp [rd_eq, List.getElem?_drop]
theorem rd_take (xs : List Int) (k j : Nat) (h : j < k) : rd (xs.take k) j = rd xs j := by simp [rd_eq, h]
theorem prod_drop {sz cs : List Int} (h : Wf sz cs) (k : Nat) (hk : k ≤ sz.length) : prodV (sz.drop k) = suf sz k := by
  have e : pr (sz.drop k) (sz.drop k).length = suf sz k := by rw [pr_all, suf_drop]
  rw [prodV, if_pos, e]
  refine okp_of (fun j hj => ?_) (by rw [e]; exact suf_le h k hk) _ (Nat.le_refl _)
  rw [rd_drop]; simp at hj; exact h.pos _ (by omega)
end Go.Proofs.Ytbofjdckmkifaaa

/-! ## The cells of a range, in their order, as plain lists: the next cell is the next place that lies in the range. No program in sight. No condition. -/
namespace Go.Proofs.Ytbofjdckmkifaaa

theorem plc_mono {sz x y : List Int} {k l : Nat} (hp : ∀ k, k < sz.length → 1 ≤ rd sz k) (hl : l ≤ sz.length) (hkl : k ≤ l) (h : plc sz x k ≤ plc sz y k) (hc : ∀ i, k ≤ i → i < l → rd x i ≤ rd y i) : plc sz x l ≤ plc sz y l := by
  induction l with
  | zero => have : k = 0 := by omega
            subst this; exact h
  | succ l ih =>
    by_cases e : k = l + 1
    · subst e; exact h
    · have h1 := ih (by omega) (by omega) (fun i h1 h2 => hc i h1 (by omega))
      have h2 := hc l (by omega) (by omega)
      have h3 := Int.mul_le_mul_of_nonneg_right h1 (show 0 ≤ rd sz l by have := hp l (by omega); omega)
      simp only [plc]; omega
/-- a place ahead stays ahead -/
theorem plc_ahead {sz x y : List Int} {k l : Nat} (hp : ∀ k, k < sz.length → 1 ≤ rd sz k) (hl : l ≤ sz.length) (hkl : k ≤ l) (h : plc sz x k < plc sz y k) (hx : ∀ i, i < l → rd x i < rd sz i) (hy : ∀ i, i < l → 0 ≤ rd y i) : plc sz x l < plc sz y l := by
  induction l with
  | zero => have : k = 0 := by omega
            subst this; exact h
  | succ l ih =>
    by_cases e : k = l + 1
    · subst e; exact h
    · have h1 := ih (by omega) (by omega) (fun i hi => hx i (by omega)) (fun i hi => hy i (by omega))
      have h2 := hx l (by omega)
      have h3 := hy l (by omega)
      have h4 := Int.mul_le_mul_of_nonneg_right (show plc sz x l + 1 ≤ plc sz y l by omega) (show 0 ≤ rd sz l by have := hp l (by omega); omega)
      rw [Int.add_mul] at h4
      simp only [plc]; omega
theorem okc_of {sz c : List Int} {l : Nat} (h : ∀ k, k < l → 0 ≤ rd c k ∧ rd c k < rd sz k) : okc sz c l = true := by
  induction l with
  | zero => rfl
  | succ l ih => simp [okc, ih (fun k hk => h k (by omega)), h l (by omega)]
theorem pr_mul_suf (sz : List Int) (k : Nat) (h : k ≤ sz.length) : pr sz sz.length = pr sz k * suf sz k := by rw [pr_all, pr_suf sz k h]
/-- the place, k numbers in, of the cell of a place -/
theorem plc_cellL {sz : List Int} (hp : ∀ k, k < sz.length → 1 ≤ rd sz k) {n : Int} (h0 : 0 ≤ n) (h1 : n < suf sz 0) {k : Nat} (hk : k ≤ sz.length) : plc sz (cellL sz n) k = n / suf sz k := by
  induction k with
  | zero => simp only [plc]; rw [Int.ediv_eq_zero_of_lt h0 h1]
  | succ k ih =>
    simp only [plc]
    rw [ih (by omega), rd_cellL _ _ (by omega)]
    unfold dig
    have e := suf_step sz (show k < sz.length by omega)
    have e2 : n / suf sz k = n / suf sz (k + 1) / rd sz k := by
      rw [Int.ediv_ediv_of_nonneg (by have := suf_pos hp (k + 1); omega), e, Int.mul_comm]
    rw [e2, Int.mul_comm]
    exact Int.mul_ediv_add_emod (n / suf sz (k + 1)) (rd sz k)
theorem cellL_bd {sz : List Int} (hp : ∀ k, k < sz.length → 1 ≤ rd sz k) (n : Int) {k : Nat} (hk : k < sz.length) : 0 ≤ rd (cellL sz n) k ∧ rd (cellL sz n) k < rd sz k := by
  rw [rd_cellL _ _ hk]
  have := hp k hk
  exact ⟨Int.emod_nonneg _ (by omega), Int.emod_lt_of_pos _ (by omega)⟩
/-- the cell of the place of a cell -/
theorem cellL_plc {sz c : List Int} (hp : ∀ k, k < sz.length → 1 ≤ rd sz k) (hl : c.length = sz.length) (hc : okc sz c sz.length = true) : cellL sz (plc sz c sz.length) = c := by
  have hb := plc_lt hp (Nat.le_refl _) hc
  rw [pr_all] at hb
  have key : ∀ d k, sz.length - k = d → k ≤ sz.length → plc sz c k = plc sz c sz.length / suf sz k := by
    intro d
    induction d with
    | zero => intro k hd hk; obtain rfl : k = sz.length := by omega
              rw [suf_end sz (Nat.le_refl _), Int.ediv_one]
    | succ d ih =>
      intro k hd hk
      have hlt : k < sz.length := by omega
      have h1 := ih (k + 1) (by omega) (by omega)
      have hs := hp k hlt
      have hck := okc_at hc hlt
      have e := suf_step sz hlt
      rw [e, Int.mul_comm, ← Int.ediv_ediv_of_nonneg (by have := suf_pos hp (k + 1); omega), ← h1]
      simp only [plc]
      rw [Int.add_ediv_of_dvd_left (Int.dvd_mul_left _ _), Int.mul_ediv_cancel _ (by omega), Int.ediv_eq_zero_of_lt hck.1 hck.2, Int.add_zero]
  refine ext_rd (by simp [hl]) fun j hj => ?_
  simp only [cellL_length] at hj
  rw [rd_cellL _ _ hj]
  unfold dig
  rw [← key _ (j + 1) rfl (by omega)]
  have hck := okc_at hc hj
  simp only [plc]
  rw [Int.add_comm, Int.add_mul_emod_self_right, Int.emod_eq_of_lt hck.1 hck.2]

theorem withinB_at {c low high : List Int} {l : Nat} : withinB c low high l = true ↔ ∀ k, k < l → rd low k ≤ rd c k ∧ rd c k ≤ rd high k := by
  induction l with
  | zero => simp [withinB]
  | succ l ih =>
    simp only [withinB, Bool.and_eq_true, decide_eq_true_eq, ih]
    constructor
    · rintro ⟨h1, h2, h3⟩ k hk
      by_cases e : k = l
      · subst e; exact ⟨h2, h3⟩
      · exact h1 k (by omega)
    · intro h; exact ⟨fun k hk => h k (by omega), (h l (by omega)).1, (h l (by omega)).2⟩
theorem leB_at {low high : List Int} {l : Nat} : leB low high l = true ↔ ∀ k, k < l → rd low k ≤ rd high k := by
  induction l with
  | zero => simp [leB]
  | succ l ih =>
    simp only [leB, Bool.and_eq_true, decide_eq_true_eq, ih]
    constructor
    · rintro ⟨h1, h2⟩ k hk
      by_cases e : k = l
      · subst e; exact h2
      · exact h1 k (by omega)
    · intro h; exact ⟨fun k hk => h k (by omega), h l (by omega)⟩

/-- the places of the range among the first n -/
def hits (sz low high : List Int) (n : Nat) : List Nat := (List.range n).filter (hitB sz low high)
theorem hits_hit {sz low high : List Int} {p : Nat} (h : hitB sz low high p = true) : hits sz low high (p + 1) = hits sz low high p ++ [p] := by
  simp [hits, List.range_succ, h]
theorem hits_skip {sz low high : List Int} {p q : Nat} (hpq : p ≤ q) (h : ∀ r, p ≤ r → r < q → hitB sz low high r = false) : hits sz low high q = hits sz low high p := by
  induction q with
  | zero => have : p = 0 := by omega
            subst this; rfl
  | succ q ih =>
    by_cases e : p = q + 1
    · subst e; rfl
    · rw [← ih (by omega) (fun r h1 h2 => h r h1 (by omega))]
      simp [hits, List.range_succ, h q (by omega) (by omega)]
/-- the cell when the numbers from k on were turned back -/
def odo (c low : List Int) (k : Nat) : List Int := (List.range c.length).map fun j => if j < k then rd c j else rd low j
/-- .. and the number before them is raised -/
def nxt (c low : List Int) (k : Nat) : List Int := (odo c low (k + 1)).set k (rd c k + 1)
@[simp] theorem odo_length (c low : List Int) (k : Nat) : (odo c low k).length = c.length := by simp [odo]
@[simp] theorem nxt_length (c low : List Int) (k : Nat) : (nxt c low k).length = c.length := by simp [nxt]
theorem rd_odo (c low : List Int) (k j : Nat) (h : j < c.length) : rd (odo c low k) j = if j < k then rd c j else rd low j := rd_map_range _ _ _ h
theorem odo_all (c low : List Int) : odo c low c.length = c := by
  refine ext_rd (by simp) fun j hj => ?_
  simp at hj
  rw [rd_odo _ _ _ _ hj, if_pos hj]
theorem odo_step (c low : List Int) (k : Nat) (h : k < c.length) : (odo c low (k + 1)).set k (rd low k) = odo c low k := by
  refine ext_rd (by simp) fun j hj => ?_
  simp at hj
  rw [rd_set _ _ _ _ (by simpa using h), rd_odo _ _ _ _ hj, rd_odo _ _ _ _ hj]
  by_cases e : k = j
  · subst e; simp
  · by_cases e2 : j < k
    · simp [e, e2, show j < k + 1 by omega]
    · simp [e, e2, show ¬ j < k + 1 by omega]
theorem rd_nxt (c low : List Int) (k j : Nat) (hk : k < c.length) (h : j < c.length) : rd (nxt c low k) j = if j < k then rd c j else if j = k then rd c j + 1 else rd low j := by
  rw [nxt, rd_set _ _ _ _ (by simpa using hk), rd_odo _ _ _ _ h]
  by_cases e : k = j
  · subst e; simp
  · by_cases e2 : j < k
    · simp [e, e2, show j < k + 1 by omega]
    · simp [e, e2, show ¬ j < k + 1 by omega, show ¬ j = k by omega]
section
variable {sz cs low high : List Int}
theorem may_facts (h : mayB sz low high = true) : low.length = sz.length ∧ high.length = sz.length ∧ okc sz low sz.length = true ∧ okc sz high sz.length = true ∧ ∀ k, k < sz.length → rd low k ≤ rd high k := by
  simp only [mayB, isCell, Bool.and_eq_true, decide_eq_true_eq] at h
  obtain ⟨⟨⟨h1, h2⟩, h3, h4⟩, h5⟩ := h
  rw [h1] at h2 h5; rw [h3] at h4
  exact ⟨h1, h3, h2, h4, leB_at.1 h5⟩
theorem suf0_len (hwf : Wf sz cs) : suf sz 0 = cs.length := by rw [← pr_all, hwf.len]
/-- the places of the cells of a place -/
theorem plc_of (hwf : Wf sz cs) {q : Nat} (hq : q < cs.length) : plc sz (cellL sz q) sz.length = q := by
  rw [plc_cellL hwf.pos (by omega) (by rw [suf0_len hwf]; omega) (Nat.le_refl _), suf_end sz (Nat.le_refl _), Int.ediv_one]
theorem hit_iff {q : Nat} : hitB sz low high q = true ↔ ∀ k, k < sz.length → rd low k ≤ rd (cellL sz q) k ∧ rd (cellL sz q) k ≤ rd high k := withinB_at
/-- the first place -/
theorem first_hit (hwf : Wf sz cs) (hm : mayB sz low high = true) : ∃ p : Nat, plc sz low sz.length = p ∧ p < cs.length ∧ cellL sz p = low ∧ hitB sz low high p = true ∧ hits sz low high p = [] := by
  obtain ⟨l1, l2, o1, o2, hle⟩ := may_facts hm
  have hb := plc_lt hwf.pos (Nat.le_refl _) o1
  rw [← hwf.len] at hb
  obtain ⟨p, hp⟩ := Int.eq_ofNat_of_zero_le hb.1
  have hc : cellL sz p = low := by rw [← hp]; exact cellL_plc hwf.pos l1 o1
  refine ⟨p, hp, by omega, hc, ?_, ?_⟩
  · rw [hit_iff, hc]; exact fun k hk => ⟨Int.le_refl _, hle k hk⟩
  · have := hits_skip (sz := sz) (low := low) (high := high) (p := 0) (q := p) (Nat.zero_le _) (fun r _ hr => by
      cases hh : hitB sz low high r with
      | false => rfl
      | true =>
        have h1 := hit_iff.1 hh
        have := plc_mono (x := low) (y := cellL sz r) (k := 0) hwf.pos (Nat.le_refl _) (Nat.zero_le _) (by simp [plc]) (fun i _ hi => (h1 i hi).1)
        rw [plc_of hwf (by omega), hp] at this
        omega)
    rw [this]; rfl
/-- no place behind the last one -/
theorem last_hit (hwf : Wf sz cs) {p : Nat} (hp : p < cs.length) (hend : ∀ j, j < sz.length → rd (cellL sz p) j = rd high j) : hits sz low high cs.length = hits sz low high (p + 1) := by
  refine hits_skip (by omega) fun r h1 h2 => ?_
  cases hh : hitB sz low high r with
  | false => rfl
  | true =>
    have h := hit_iff.1 hh
    have := plc_mono (x := cellL sz r) (y := cellL sz p) (k := 0) hwf.pos (Nat.le_refl _) (Nat.zero_le _) (by simp [plc]) (fun i _ hi => by rw [hend i hi]; exact (h i hi).2)
    rw [plc_of hwf h2, plc_of hwf hp] at this
    omega
/-- the next place -/
theorem next_hit (hwf : Wf sz cs) (hm : mayB sz low high = true) {p j : Nat} (hp : p < cs.length) (hh : hitB sz low high p = true) (hj : j < sz.length) (hend : ∀ i, j < i → i < sz.length → rd (cellL sz p) i = rd high i)
    (hne : rd (cellL sz p) j ≠ rd high j) : ∃ q : Nat, placeV sz (nxt (cellL sz p) low j) = q ∧ q < cs.length ∧ cellL sz q = nxt (cellL sz p) low j ∧ hitB sz low high q = true ∧ hits sz low high q = hits sz low high (p + 1) ∧ p < q := by
  obtain ⟨l1, l2, o1, o2, hle⟩ := may_facts hm
  have h := hit_iff.1 hh
  have hn : ∀ i, i < sz.length → rd (nxt (cellL sz p) low j) i = if i < j then rd (cellL sz p) i else if i = j then rd (cellL sz p) i + 1 else rd low i := fun i hi => rd_nxt _ _ _ _ (by simpa using hj) (by simpa using hi)
  have hw : ∀ i, i < sz.length → rd low i ≤ rd (nxt (cellL sz p) low j) i ∧ rd (nxt (cellL sz p) low j) i ≤ rd high i := by
    intro i hi
    have h1 := h i hi
    have h2 := hle i hi
    rw [hn i hi]
    split
    · exact h1
    · split
      · rename_i e; subst e; omega
      · omega
  have hok : okc sz (nxt (cellL sz p) low j) sz.length = true := okc_of fun i hi => by
    have h1 := hw i hi
    have h2 := okc_at o1 hi
    have h3 := okc_at o2 hi
    omega
  have hb := plc_lt hwf.pos (Nat.le_refl _) hok
  rw [← hwf.len] at hb
  obtain ⟨q, hq⟩ := Int.eq_ofNat_of_zero_le hb.1
  have hlen : (nxt (cellL sz p) low j).length = sz.length := by simp
  have hc : cellL sz q = nxt (cellL sz p) low j := by rw [← hq]; exact cellL_plc hwf.pos hlen hok
  have hpl : placeV sz (nxt (cellL sz p) low j) = q := by
    have : isCell sz (nxt (cellL sz p) low j) = true := by simp only [isCell, hlen, hok, decide_true, Bool.and_self]
    rw [placeV, if_pos this, hlen, hq]
  have epre : plc sz (nxt (cellL sz p) low j) j = plc sz (cellL sz p) j := by
    apply Int.le_antisymm
    · exact plc_mono (k := 0) hwf.pos (by omega) (Nat.zero_le _) (by simp [plc]) (fun i _ hi => by rw [hn i (by omega), if_pos hi]; exact Int.le_refl _)
    · exact plc_mono (k := 0) hwf.pos (by omega) (Nat.zero_le _) (by simp [plc]) (fun i _ hi => by rw [hn i (by omega), if_pos hi]; exact Int.le_refl _)
  have ej : plc sz (nxt (cellL sz p) low j) (j + 1) = plc sz (cellL sz p) (j + 1) + 1 := by
    simp only [plc]; rw [epre, hn j hj]; simp; omega
  have hpq : p < q := by
    have := plc_ahead (x := cellL sz p) (y := nxt (cellL sz p) low j) (k := j + 1) hwf.pos (Nat.le_refl _) (by omega) (by omega) (fun i hi => (cellL_bd hwf.pos _ hi).2) (fun i hi => by have := okc_at hok hi; omega)
    rw [plc_of hwf hp, hq] at this
    omega
  refine ⟨q, hpl, by omega, hc, by rw [hit_iff, hc]; exact hw, hits_skip (by omega) fun r h1 h2 => ?_, hpq⟩
  cases hr : hitB sz low high r with
  | false => rfl
  | true =>
    exfalso
    have hrl : r < cs.length := by omega
    have g := hit_iff.1 hr
    -- r's place, j + 1 numbers in, is not ahead of p's
    have a1 : plc sz (cellL sz p) (j + 1) ≤ plc sz (cellL sz r) (j + 1) := by
      apply Int.not_lt.1
      intro hlt
      have := plc_ahead (x := cellL sz r) (y := cellL sz p) (k := j + 1) hwf.pos (Nat.le_refl _) (by omega) hlt (fun i hi => (cellL_bd hwf.pos _ hi).2) (fun i hi => (cellL_bd hwf.pos _ hi).1)
      rw [plc_of hwf hrl, plc_of hwf hp] at this
      omega
    have a2 : ¬ plc sz (cellL sz r) (j + 1) ≤ plc sz (cellL sz p) (j + 1) := by
      intro hle2
      have := plc_mono (x := cellL sz r) (y := cellL sz p) (k := j + 1) hwf.pos (Nat.le_refl _) (by omega) hle2 (fun i h1 h2 => by rw [hend i (by omega) h2]; exact (g i h2).2)
      rw [plc_of hwf hrl, plc_of hwf hp] at this
      omega
    have := plc_mono (x := nxt (cellL sz p) low j) (y := cellL sz r) (k := j + 1) hwf.pos (Nat.le_refl _) (by omega) (by omega) (fun i h1 h2 => by rw [hn i h2, if_neg (by omega), if_neg (by omega)]; exact (g i h2).1)
    rw [plc_of hwf hrl, hq] at this
    omega
end
/-- the contents when the places of a list were filled -/
def fillBy (cs : List Int) (n : Int) (pre : List Nat) : List Int := (List.range cs.length).map fun i => if i ∈ pre then n else rd cs i
@[simp] theorem fillBy_length (cs : List Int) (n : Int) (pre : List Nat) : (fillBy cs n pre).length = cs.length := by simp [fillBy]
theorem fillBy_nil (cs : List Int) (n : Int) : fillBy cs n [] = cs := by
  refine ext_rd (by simp) fun j hj => ?_
  simp at hj
  rw [fillBy, rd_map_range _ _ _ hj]; simp
theorem fillBy_snoc (cs : List Int) (n : Int) (pre : List Nat) (p : Nat) (hp : p < cs.length) : (fillBy cs n pre).set p n = fillBy cs n (pre ++ [p]) := by
  refine ext_rd (by simp) fun j hj => ?_
  simp at hj
  rw [rd_set _ _ _ _ (by simpa using hp), fillBy, rd_map_range _ _ _ hj, fillBy, rd_map_range _ _ _ hj]
  by_cases e : p = j
  · subst e; simp
  · simp [e, show ¬ j = p by omega]
theorem fillBy_hits (sz cs low high : List Int) (n : Int) : fillBy cs n (hits sz low high cs.length) = fillL sz cs low high n := by
  refine ext_rd (by simp [fillL]) fun j hj => ?_
  simp at hj
  rw [fillBy, rd_map_range _ _ _ hj, fillL, fillT, rd_map_range _ _ _ hj]
  simp [hits, hj]
end Go.Proofs.Ytbofjdckmkifaaa

/-! ## Grown and shrunk slabs by rows, as plain lists. No program in sight. No condition. -/
namespace Go.Proofs.Ytbofjdckmkifaaa

def rowAt (cs : List Int) (all r : Nat) : List Int := (cs.drop (r * all)).take all
/-- the first r rows, the part i of each twice -/
def growR (cs : List Int) (one all i : Nat) : Nat → List Int
  | 0 => []
  | r + 1 => growR cs one all i r ++ (rowAt cs all r).take ((i + 1) * one) ++ (rowAt cs all r).drop (i * one)
theorem rowAt_length {cs : List Int} {all r rows : Nat} (hl : cs.length = rows * all) (hr : r < rows) : (rowAt cs all r).length = all := by
  have : (r + 1) * all ≤ rows * all := Nat.mul_le_mul_right _ hr
  rw [Nat.add_mul, Nat.one_mul] at this
  simp [rowAt]; omega
theorem rd_append (xs ys : List Int) (k : Nat) : rd (xs ++ ys) k = if k < xs.length then rd xs k else rd ys (k - xs.length) := by
  simp only [rd_eq, List.getElem?_append]
  split <;> rfl
theorem rd_rowAt (cs : List Int) (all r j : Nat) (h : j < all) : rd (rowAt cs all r) j = rd cs (r * all + j) := by
  rw [rowAt, rd_take _ _ _ h, rd_drop]
theorem growR_length {cs : List Int} {one all i rows : Nat} (hl : cs.length = rows * all) (hi : (i + 1) * one ≤ all) : ∀ r, r ≤ rows → (growR cs one all i r).length = r * (all + one) := by
  intro r
  induction r with
  | zero => intro _; simp [growR]
  | succ r ih =>
    intro hr
    have h1 := rowAt_length hl (show r < rows by omega)
    have h2 : (i + 1) * one = i * one + one := by rw [Nat.add_mul, Nat.one_mul]
    have h3 := ih (by omega)
    have h4 : (r + 1) * (all + one) = r * (all + one) + (all + one) := by rw [Nat.add_mul, Nat.one_mul]
    simp only [growR, List.length_append, List.length_take, List.length_drop, h1]
    rw [h3, h4]
    omega
theorem growR_rd {cs : List Int} {one all i rows : Nat} (hl : cs.length = rows * all) (hi : (i + 1) * one ≤ all) : ∀ r, r ≤ rows → ∀ q j, q < r → j < all + one →
    rd (growR cs one all i r) (q * (all + one) + j) = rd cs (q * all + (if j < (i + 1) * one then j else j - one)) := by
  intro r
  induction r with
  | zero => intro _ q j hq; omega
  | succ r ih =>
    intro hr q j hq hj
    have h1 := rowAt_length hl (show r < rows by omega)
    have h2 : (i + 1) * one = i * one + one := by rw [Nat.add_mul, Nat.one_mul]
    have h3 := growR_length hl hi r (by omega)
    simp only [growR]
    rw [List.append_assoc, rd_append, h3]
    by_cases hqr : q < r
    · have : (q + 1) * (all + one) ≤ r * (all + one) := Nat.mul_le_mul_right _ hqr
      rw [Nat.add_mul, Nat.one_mul] at this
      rw [if_pos (by omega)]
      exact ih (by omega) q j hqr hj
    · obtain rfl : q = r := by omega
      rw [if_neg (by omega), show q * (all + one) + j - q * (all + one) = j by omega, rd_append]
      have h4 : ((rowAt cs all q).take ((i + 1) * one)).length = (i + 1) * one := by rw [List.length_take, h1]; omega
      rw [h4]
      by_cases hji : j < (i + 1) * one
      · rw [if_pos hji, if_pos hji, rd_take _ _ _ hji, rd_rowAt _ _ _ _ (by omega)]
      · rw [if_neg hji, if_neg hji, rd_drop, rd_rowAt _ _ _ _ (by omega)]
        congr 1; omega

theorem plc_diff {sz sz' x y : List Int} {a : Nat} : ∀ L, a < L → L ≤ sz.length → (∀ m, a < m → m < L → rd sz m = rd sz' m ∧ rd x m = rd y m) →
    (plc sz x L - plc sz' y L) * suf sz L = (plc sz x (a + 1) - plc sz' y (a + 1)) * suf sz (a + 1) := by
  intro L
  induction L with
  | zero => intro h; omega
  | succ L ih =>
    intro h1 h2 h3
    by_cases e : L = a
    · subst e; rfl
    · have hL := h3 L (by omega) (by omega)
      rw [← ih (by omega) (by omega) (fun m hm1 hm2 => h3 m hm1 (by omega)), suf_step sz (show L < sz.length by omega)]
      simp only [plc]
      rw [← hL.1, ← hL.2]
      rw [show plc sz x L * rd sz L + rd x L - (plc sz' y L * rd sz L + rd x L) = (plc sz x L - plc sz' y L) * rd sz L by rw [Int.sub_mul]; omega, Int.mul_assoc]
theorem plc_same {sz sz' x y : List Int} : ∀ L, (∀ m, m < L → rd sz m = rd sz' m ∧ rd x m = rd y m) → plc sz x L = plc sz' y L := by
  intro L
  induction L with
  | zero => intro _; rfl
  | succ L ih => intro h; simp only [plc]; rw [ih (fun m hm => h m (by omega)), (h L (by omega)).1, (h L (by omega)).2]
section
variable {sz cs : List Int} {a : Nat}
theorem suf_set (x : Int) (_ha : a < sz.length) : suf (sz.set a x) (a + 1) = suf sz (a + 1) := by
  unfold suf; rw [List.drop_set_of_lt (by omega)]
theorem rd_growS (ha : a < sz.length) (m : Nat) : rd (growS sz a) m = if a = m then rd sz a + 1 else rd sz m := by rw [growS, rd_set _ _ _ _ ha]
theorem growS_pos (hwf : Wf sz cs) (ha : a < sz.length) : ∀ k, k < (growS sz a).length → 1 ≤ rd (growS sz a) k := by
  intro k hk
  rw [rd_growS ha]
  have := hwf.pos a ha
  have := hwf.pos k (by simpa using hk)
  split <;> omega
/-- where a cell of the grown slab was -/
theorem lower_place (hwf : Wf sz cs) (ha : a < sz.length) {i : Int} (hi0 : 0 ≤ i) (hi : i < rd sz a) {q : Int} {j k : Nat} (_hq : 0 ≤ q) (hk : (k : Int) = q * (suf sz (a + 1) * (rd sz a + 1)) + j) (hj : (j : Int) < suf sz (a + 1) * (rd sz a + 1)) (hkN : (k : Int) < suf (growS sz a) 0) :
    isCell sz (lower a i (cellL (growS sz a) k)) = true ∧ plc sz (lower a i (cellL (growS sz a) k)) sz.length = q * (suf sz (a + 1) * rd sz a) + (if (j : Int) < (i + 1) * suf sz (a + 1) then (j : Int) else j - suf sz (a + 1)) := by
  have hp' := growS_pos hwf ha
  have hone := suf_pos hwf.pos (a + 1)
  have hs := hwf.pos a ha
  have hlen : (lower a i (cellL (growS sz a) k)).length = sz.length := by unfold lower; split <;> simp
  have hcb : ∀ m, m < sz.length → 0 ≤ rd (cellL (growS sz a) k) m ∧ rd (cellL (growS sz a) k) m < rd (growS sz a) m := fun m hm => cellL_bd hp' _ (by simpa using hm)
  have hlo : ∀ m, m < sz.length → rd (lower a i (cellL (growS sz a) k)) m = if a = m ∧ i < rd (cellL (growS sz a) k) a then rd (cellL (growS sz a) k) a - 1 else rd (cellL (growS sz a) k) m := by
    intro m hm
    unfold lower
    by_cases h : i < rd (cellL (growS sz a) k) a
    · rw [if_pos h, rd_set _ _ _ _ (by simpa using ha)]; simp [h]
    · rw [if_neg h]; simp [h]
  have hok : okc sz (lower a i (cellL (growS sz a) k)) sz.length = true := okc_of fun m hm => by
    have h1 := hcb m hm
    rw [rd_growS ha] at h1
    rw [hlo m hm]
    by_cases e : a = m
    · subst e; simp only [if_true] at h1
      by_cases h : i < rd (cellL (growS sz a) k) a
      · rw [if_pos ⟨rfl, h⟩]; omega
      · rw [if_neg (fun hh => h hh.2)]; omega
    · rw [if_neg e] at h1; rw [if_neg (fun hh => e hh.1)]; exact h1
  refine ⟨by simp only [isCell, hlen, hok, decide_true, Bool.and_self], ?_⟩
  -- the digit at a
  have hpa := plc_cellL hp' (n := (k : Int)) (by omega) hkN (k := a) (by simp; omega)
  have hpa1 := plc_cellL hp' (n := (k : Int)) (by omega) hkN (k := a + 1) (by simp; omega)
  have hsuf1 : suf (growS sz a) (a + 1) = suf sz (a + 1) := suf_set _ ha
  have hsufa : suf (growS sz a) a = (rd sz a + 1) * suf sz (a + 1) := by rw [suf_step _ (by simpa using ha), hsuf1, rd_growS ha]; simp
  have hall : suf (growS sz a) (growS sz a).length = 1 := suf_end _ (Nat.le_refl _)
  have hplen := plc_cellL hp' (n := (k : Int)) (by omega) hkN (k := (growS sz a).length) (Nat.le_refl _)
  rw [hall, Int.ediv_one, growS_length] at hplen
  have hd := plc_diff (sz := sz) (sz' := growS sz a) (x := lower a i (cellL (growS sz a) k)) (y := cellL (growS sz a) k) (a := a) sz.length ha (Nat.le_refl _) (fun m h1 h2 => by
    rw [rd_growS ha, if_neg (by omega), hlo m h2, if_neg (fun hh => by omega)]; exact ⟨rfl, rfl⟩)
  rw [suf_end sz (Nat.le_refl _), Int.mul_one, hplen] at hd
  have hsame := plc_same (sz := sz) (sz' := growS sz a) (x := lower a i (cellL (growS sz a) k)) (y := cellL (growS sz a) k) a (fun m hm => by
    rw [rd_growS ha, if_neg (by omega), hlo m (by omega), if_neg (fun hh => by omega)]; exact ⟨rfl, rfl⟩)
  have hqa : plc (growS sz a) (cellL (growS sz a) k) a = q := by
    rw [hpa, hsufa, hk, Int.mul_comm (rd sz a + 1), Int.add_comm, Int.add_mul_ediv_right _ _ (by have := Int.mul_le_mul hone (show 1 ≤ rd sz a + 1 by omega) (by omega) (by omega); omega)]
    rw [Int.ediv_eq_zero_of_lt (by omega) hj, Int.zero_add]
  simp only [plc] at hd
  rw [hsame, hqa, hlo a ha, rd_growS ha, if_pos rfl] at hd
  simp only [plc] at hpa1
  rw [hqa, hsuf1, rd_growS ha, if_pos rfl] at hpa1
  -- j against the digit
  have hdig : rd (cellL (growS sz a) k) a = (j : Int) / suf sz (a + 1) := by
    have e : (k : Int) / suf sz (a + 1) = q * (rd sz a + 1) + (j : Int) / suf sz (a + 1) := by
      rw [hk, Int.mul_comm (suf sz (a + 1)) (rd sz a + 1), ← Int.mul_assoc, Int.add_comm, Int.add_mul_ediv_right _ _ (by omega), Int.add_comm]
    rw [e] at hpa1; omega
  generalize hc : rd (cellL (growS sz a) k) a = c at hd hdig
  have hdm := Int.mul_ediv_add_emod (j : Int) (suf sz (a + 1))
  have hm0 := Int.emod_nonneg (j : Int) (show suf sz (a + 1) ≠ 0 by omega)
  have hm1 := Int.emod_lt_of_pos (j : Int) (show 0 < suf sz (a + 1) by omega)
  rw [← hdig] at hdm
  generalize (j : Int) % suf sz (a + 1) = t at hdm hm0 hm1
  generalize suf sz (a + 1) = one at *
  by_cases h : i < c
  · simp only [h, and_self, if_true] at hd
    have hge : (i + 1) * one ≤ one * c := by rw [Int.mul_comm]; exact Int.mul_le_mul_of_nonneg_left (by omega) (by omega)
    rw [if_neg (by omega)]
    have e1 : q * rd sz a + (c - 1) - (q * (rd sz a + 1) + c) = - q - 1 := by rw [Int.mul_add]; omega
    have e2 : q * (one * (rd sz a + 1)) = q * (one * rd sz a) + q * one := by rw [Int.mul_add, Int.mul_one, Int.mul_add]
    rw [e1, Int.sub_mul, Int.neg_mul, Int.one_mul] at hd
    rw [e2] at hk
    omega
  · simp only [h, and_false, if_false] at hd
    have hle : one * c + one ≤ (i + 1) * one := by
      have := Int.mul_le_mul_of_nonneg_left (show c + 1 ≤ i + 1 by omega) (show 0 ≤ one by omega)
      rw [Int.mul_add, Int.mul_one] at this; rw [Int.mul_comm (i + 1)]; exact this
    rw [if_pos (by omega)]
    have e1 : q * rd sz a + c - (q * (rd sz a + 1) + c) = - q := by rw [Int.mul_add]; omega
    have e2 : q * (one * (rd sz a + 1)) = q * (one * rd sz a) + q * one := by rw [Int.mul_add, Int.mul_one, Int.mul_add]
    rw [e1, Int.neg_mul] at hd
    rw [e2] at hk
    omega

/-- what stands of a slab's rows: whole numbers -/
structure Rows3 (sz cs : List Int) (a one s rows : Nat) : Prop where
  one_ : suf sz (a + 1) = one
  s_ : rd sz a = s
  len_ : cs.length = rows * (one * s)
  p1 : 1 ≤ one
  p2 : 1 ≤ s
  p3 : 1 ≤ rows
theorem rows3 (hwf : Wf sz cs) (ha : a < sz.length) : ∃ one s rows : Nat, Rows3 sz cs a one s rows := by
  have h1 := suf_pos hwf.pos (a + 1)
  have h2 := hwf.pos a ha
  have h3 := pr_pos hwf.pos a (by omega)
  obtain ⟨one, e1⟩ := Int.eq_ofNat_of_zero_le (show 0 ≤ suf sz (a + 1) by omega)
  obtain ⟨s, e2⟩ := Int.eq_ofNat_of_zero_le (show 0 ≤ rd sz a by omega)
  obtain ⟨rows, e3⟩ := Int.eq_ofNat_of_zero_le (show 0 ≤ pr sz a by omega)
  refine ⟨one, s, rows, e1, e2, ?_, by omega, by omega, by omega⟩
  have h := hwf.len
  rw [pr_mul_suf sz a (by omega), suf_step sz ha, e1, e2, e3] at h
  have : (cs.length : Int) = ((rows * (one * s) : Nat) : Int) := by rw [h]; simp [Int.mul_comm]
  omega
theorem growN_rows (hwf : Wf sz cs) (ha : a < sz.length) {one s rows : Nat} (r : Rows3 sz cs a one s rows) : growN sz cs a = rows * (one * s + one) := by
  have e : (cs.length : Int) / rd sz a = ((rows * one : Nat) : Int) := by
    rw [r.len_, r.s_, show rows * (one * s) = rows * one * s by rw [Nat.mul_assoc]]
    rw [Int.natCast_mul]; exact Int.mul_ediv_cancel _ (by have := r.p2; omega)
  have h := growN_eq hwf ha
  rw [e, r.s_] at h
  have : ((rows * one : Nat) : Int) * ((s : Int) + 1) = ((rows * (one * s + one) : Nat) : Int) := by
    rw [Nat.mul_add]; simp only [Int.natCast_mul, Int.natCast_add]; rw [Int.mul_add, Int.mul_one, Int.mul_assoc]
  omega
/-- rows grown are the slab grown -/
theorem growR_eq (hwf : Wf sz cs) (ha : a < sz.length) {i : Nat} (hi : (i : Int) < rd sz a) {one s rows : Nat} (r : Rows3 sz cs a one s rows) :
    growR cs one (one * s) i rows = growC sz cs a i := by
  have his : i + 1 ≤ s := by have := r.s_; omega
  have hi1 : (i + 1) * one ≤ one * s := by rw [Nat.mul_comm]; exact Nat.mul_le_mul_left _ his
  have hN := growN_rows hwf ha r
  have hL := growR_length (one := one) (i := i) r.len_ hi1 rows (Nat.le_refl _)
  refine ext_rd (by rw [hL, growC, growT_length, hN]) fun k hk => ?_
  rw [hL] at hk
  have hpos : 0 < one * s + one := by have := r.p1; omega
  have hkd := Nat.div_add_mod k (one * s + one)
  have hjl := Nat.mod_lt k hpos
  have hql : k / (one * s + one) < rows := Nat.div_lt_of_lt_mul (by rw [Nat.mul_comm]; exact hk)
  generalize hq : k / (one * s + one) = q at hkd hql
  generalize hj : k % (one * s + one) = j at hkd hjl
  have hke : k = q * (one * s + one) + j := by rw [Nat.mul_comm]; exact hkd.symm
  rw [hke, growR_rd r.len_ hi1 rows (Nat.le_refl _) q j hql hjl, ← hke]
  rw [growC, growT, rd_map_range _ _ _ (by rw [hN]; exact hk)]
  have hk' : (k : Int) = (q : Int) * (suf sz (a + 1) * (rd sz a + 1)) + j := by
    rw [r.one_, r.s_, hke, Int.mul_add, Int.mul_one]; simp only [Int.natCast_mul, Int.natCast_add]
  have hj' : (j : Int) < suf sz (a + 1) * (rd sz a + 1) := by
    rw [r.one_, r.s_, Int.mul_add, Int.mul_one]; have : ((one * s + one : Nat) : Int) = (one : Int) * s + one := by simp
    omega
  have hkN : (k : Int) < suf (growS sz a) 0 := by
    rw [← pr_all, growS_length, (grow_pr hwf ha).1, ← growN_eq hwf ha, hN]; omega
  obtain ⟨h1, h2⟩ := lower_place hwf ha (i := (i : Int)) (by omega) hi (by omega) hk' hj' hkN
  have hlen : (lower a (i : Int) (cellL (growS sz a) (k : Int))).length = sz.length := by unfold lower; split <;> simp
  rw [getV, if_pos h1, hlen, h2, r.one_, r.s_]
  congr 1
  by_cases hc : j < (i + 1) * one
  · have h6 : (((i + 1) * one : Nat) : Int) = ((i : Int) + 1) * one := by simp
    have h7 : (j : Int) < ((i : Int) + 1) * (one : Int) := by omega
    rw [if_pos hc, if_pos h7]
    have : ((q * (one * s) + j : Nat) : Int) = (q : Int) * ((one : Int) * (s : Int)) + (j : Int) := by simp
    omega
  · have h6 : (((i + 1) * one : Nat) : Int) = ((i : Int) + 1) * one := by simp
    have h3 : ¬ (j : Int) < ((i : Int) + 1) * (one : Int) := by omega
    have h4 : one ≤ (i + 1) * one := by rw [Nat.add_mul, Nat.one_mul]; omega
    rw [if_neg hc, if_neg h3]
    have : ((q * (one * s) + (j - one) : Nat) : Int) = (q : Int) * ((one : Int) * (s : Int)) + ((j : Int) - (one : Int)) := by
      rw [Int.natCast_add, Int.natCast_mul, Int.natCast_mul, Int.ofNat_sub (by omega)]
    omega
end
end Go.Proofs.Ytbofjdckmkifaaa

/-! ## Shrunk slabs by rows, as plain lists. No program in sight. No condition. -/
namespace Go.Proofs.Ytbofjdckmkifaaa

/-- the first r rows, without the part i + 1 of each -/
def shrR (cs : List Int) (one all i : Nat) : Nat → List Int
  | 0 => []
  | r + 1 => shrR cs one all i r ++ (rowAt cs all r).take ((i + 1) * one) ++ (rowAt cs all r).drop ((i + 2) * one)
/-- the parts i and i + 1 of a row are alike -/
def eqB (cs : List Int) (one all i r : Nat) : Bool := decide (((rowAt cs all r).drop (i * one)).take one = ((rowAt cs all r).drop ((i + 1) * one)).take one)
def eqR (cs : List Int) (one all i : Nat) : Nat → Bool
  | 0 => true
  | r + 1 => eqR cs one all i r && eqB cs one all i r
theorem eqR_iff {cs : List Int} {one all i : Nat} : ∀ r, eqR cs one all i r = true ↔ ∀ q, q < r → eqB cs one all i q = true
  | 0 => by simp [eqR]
  | r + 1 => by
    rw [eqR, Bool.and_eq_true, eqR_iff r]
    constructor
    · intro h q hq
      by_cases e : q = r
      · subst e; exact h.2
      · exact h.1 q (by omega)
    · exact fun h => ⟨fun q hq => h q (by omega), h r (by omega)⟩
theorem shrOk_iff {sz cs : List Int} {a : Nat} {i : Int} : ∀ k, shrOk sz cs a i k = true ↔ ∀ q : Nat, q < k → rd (cellL sz ((q : Nat) : Int)) a = i + 1 → getV sz cs ((cellL sz ((q : Nat) : Int)).set a i) = rd cs q
  | 0 => by simp [shrOk]
  | k + 1 => by
    rw [shrOk, Bool.and_eq_true, shrOk_iff k]
    constructor
    · intro h q hq e
      by_cases e2 : q = k
      · subst e2
        have := h.2
        simp only [Bool.or_eq_true, decide_eq_true_eq] at this
        rcases this with h | h
        · exact absurd e h
        · exact h
      · exact h.1 q (by omega) e
    · intro h
      refine ⟨fun q hq => h q (by omega), ?_⟩
      simp only [Bool.or_eq_true, decide_eq_true_eq]
      by_cases e : rd (cellL sz ((k : Nat) : Int)) a = i + 1
      · exact .inr (h k (by omega) e)
      · exact .inl e
section
variable {sz cs : List Int} {a one s rows : Nat}
theorem dig_row (_hwf : Wf sz cs) (ha : a < sz.length) (r : Rows3 sz cs a one s rows) {q j : Nat} (hj : j < one * s) :
    rd (cellL sz ((q * (one * s) + j : Nat) : Int)) a = ((j / one : Nat) : Int) := by
  have h1 := r.p1
  rw [rd_cellL _ _ ha, dig, r.one_, r.s_]
  have e : ((q * (one * s) + j : Nat) : Int) / (one : Int) % (s : Int) = (((q * (one * s) + j) / one % s : Nat) : Int) := by simp
  rw [e]
  have e2 : q * (one * s) + j = one * (q * s) + j := by rw [Nat.mul_left_comm]
  rw [e2, Nat.mul_add_div (by omega), Nat.add_comm, Nat.add_mul_mod_self_right, Nat.mod_eq_of_lt]
  exact Nat.div_lt_of_lt_mul hj
theorem shr_place (hwf : Wf sz cs) (ha : a < sz.length) (r : Rows3 sz cs a one s rows) {i : Nat} (hi : i + 1 < s) {k : Nat} (hk : k < cs.length) (hd : rd (cellL sz (k : Int)) a = (i : Int) + 1) :
    one ≤ k ∧ getV sz cs ((cellL sz (k : Int)).set a (i : Int)) = rd cs (k - one) := by
  have hs := r.s_
  have hlen : ((cellL sz (k : Int)).set a (i : Int)).length = sz.length := by simp
  have hrd : ∀ m, rd ((cellL sz (k : Int)).set a (i : Int)) m = if a = m then (i : Int) else rd (cellL sz (k : Int)) m := fun m => rd_set _ _ _ _ (by simpa using ha)
  have hok : okc sz ((cellL sz (k : Int)).set a (i : Int)) sz.length = true := okc_of fun m hm => by
    have h1 := cellL_bd hwf.pos (k : Int) hm
    rw [hrd]
    by_cases e : a = m
    · subst e; simp; omega
    · rw [if_neg e]; exact h1
  have hc : isCell sz ((cellL sz (k : Int)).set a (i : Int)) = true := by simp only [isCell, hlen, hok, decide_true, Bool.and_self]
  have hdf := plc_diff (sz := sz) (sz' := sz) (x := (cellL sz (k : Int)).set a (i : Int)) (y := cellL sz (k : Int)) (a := a) sz.length ha (Nat.le_refl _) (fun m h1 h2 => by
    rw [hrd, if_neg (by omega)]; exact ⟨rfl, rfl⟩)
  have hsm := plc_same (sz := sz) (sz' := sz) (x := (cellL sz (k : Int)).set a (i : Int)) (y := cellL sz (k : Int)) a (fun m hm => by
    rw [hrd, if_neg (by omega)]; exact ⟨rfl, rfl⟩)
  simp only [plc] at hdf
  rw [hsm, suf_end sz (Nat.le_refl _), Int.mul_one, plc_of hwf hk, hrd, if_pos rfl, hd, r.one_] at hdf
  have e1 : plc sz (cellL sz (k : Int)) a * rd sz a + (i : Int) - (plc sz (cellL sz (k : Int)) a * rd sz a + ((i : Int) + 1)) = -1 := by omega
  rw [e1] at hdf
  have h0 := (plc_lt hwf.pos (Nat.le_refl _) hok).1
  have hle : one ≤ k := by omega
  refine ⟨hle, ?_⟩
  rw [getV, if_pos hc, hlen]
  congr 1
  omega
theorem rd_part {xs : List Int} {l n t : Nat} (h : t < n) : rd ((xs.drop l).take n) t = rd xs (l + t) := by rw [rd_take _ _ _ h, rd_drop]
theorem le_all {i : Nat} (hi : i + 1 < s) : (i + 2) * one ≤ one * s := by rw [Nat.mul_comm]; exact Nat.mul_le_mul_left _ (by omega)
theorem shrOk_rows (hwf : Wf sz cs) (ha : a < sz.length) (r : Rows3 sz cs a one s rows) {i : Nat} (hi : i + 1 < s) : shrOk sz cs a i cs.length = eqR cs one (one * s) i rows := by
  have h1 := r.p1
  have hle := le_all (one := one) hi
  have e1 : (i + 1) * one = i * one + one := by rw [Nat.add_mul, Nat.one_mul]
  have e2 : (i + 2) * one = i * one + one + one := by rw [Nat.add_mul]; omega
  have key : shrOk sz cs a i cs.length = true ↔ eqR cs one (one * s) i rows = true := by
    rw [shrOk_iff, eqR_iff]
    constructor
    · intro h q hq
      have hql : (q + 1) * (one * s) ≤ rows * (one * s) := Nat.mul_le_mul_right _ hq
      rw [Nat.add_mul, Nat.one_mul, ← r.len_] at hql
      have hrl := rowAt_length r.len_ hq
      refine decide_eq_true (ext_rd (by simp [hrl]; omega) fun t ht => ?_)
      have ht : t < one := by simp at ht; omega
      rw [rd_part ht, rd_part ht, rd_rowAt _ _ _ _ (by omega), rd_rowAt _ _ _ _ (by omega)]
      have hd := dig_row hwf ha r (q := q) (j := (i + 1) * one + t) (by omega)
      have hdv : ((i + 1) * one + t) / one = i + 1 := by rw [Nat.mul_comm, Nat.mul_add_div (by omega), Nat.div_eq_of_lt ht, Nat.add_zero]
      rw [hdv] at hd
      have h2 := h (q * (one * s) + ((i + 1) * one + t)) (by omega) (by rw [hd]; simp)
      rw [(shr_place hwf ha r hi (by omega) (by rw [hd]; simp)).2] at h2
      rw [← h2]; congr 1; omega
    · intro h k hk hd
      have hk2 := hk
      rw [r.len_] at hk2
      have hpos : 0 < one * s := by omega
      have hkd := Nat.div_add_mod k (one * s)
      have hjl := Nat.mod_lt k hpos
      have hql : k / (one * s) < rows := Nat.div_lt_of_lt_mul (by rw [Nat.mul_comm]; exact hk2)
      generalize hq : k / (one * s) = q at hkd hql
      generalize hj : k % (one * s) = j at hkd hjl
      have hke : k = q * (one * s) + j := by rw [Nat.mul_comm]; exact hkd.symm
      have hdd := dig_row hwf ha r (q := q) hjl
      rw [← hke, hd] at hdd
      have hjd : j / one = i + 1 := by omega
      have hjm := Nat.div_add_mod j one
      have hjt := Nat.mod_lt j h1
      rw [hjd, Nat.mul_comm] at hjm
      rw [(shr_place hwf ha r hi hk hd).2]
      have hB := of_decide_eq_true (h q hql)
      have h3 : rd (((rowAt cs (one * s) q).drop (i * one)).take one) (j % one) = rd (((rowAt cs (one * s) q).drop ((i + 1) * one)).take one) (j % one) := by rw [hB]
      rw [rd_part hjt, rd_part hjt, rd_rowAt _ _ _ _ (by omega), rd_rowAt _ _ _ _ (by omega)] at h3
      rw [show k - one = q * (one * s) + (i * one + j % one) by omega, h3]
      congr 1; omega
  cases h1 : shrOk sz cs a i cs.length <;> cases h2 : eqR cs one (one * s) i rows <;> simp_all
theorem take_more (xs : List Int) (j : Nat) (h : j < xs.length) : xs.take (j + 1) = xs.take j ++ [rd xs j] := by
  rw [List.take_add_one, rd_eq, List.getElem?_eq_getElem h]; rfl
theorem shrT_row (hwf : Wf sz cs) (ha : a < sz.length) (r : Rows3 sz cs a one s rows) {i : Nat} (hi : i + 1 < s) {q : Nat} (hq : q < rows) :
    ∀ j, j ≤ one * s → shrT sz cs a i (q * (one * s) + j) = shrT sz cs a i (q * (one * s)) ++ (((rowAt cs (one * s) q).take j).take ((i + 1) * one) ++ ((rowAt cs (one * s) q).take j).drop ((i + 2) * one)) := by
  have h1 := r.p1
  have hle := le_all (one := one) hi
  have e1 : (i + 1) * one = i * one + one := by rw [Nat.add_mul, Nat.one_mul]
  have e2 : (i + 2) * one = i * one + one + one := by rw [Nat.add_mul]; omega
  have hrl := rowAt_length r.len_ hq
  intro j
  induction j with
  | zero => intro _; simp
  | succ j ih =>
    intro hj
    have hd := dig_row hwf ha r (q := q) (j := j) (by omega)
    have hX : ((rowAt cs (one * s) q).take j).length = j := by simp [hrl]; omega
    rw [← Nat.add_assoc, shrT, hd, ih (by omega), take_more _ _ (by omega), List.take_append, List.drop_append, hX, rd_rowAt _ _ _ _ (by omega)]
    have hdm := Nat.div_add_mod j one
    have hmt := Nat.mod_lt j h1
    by_cases c1 : j < (i + 1) * one
    · have : j / one < i + 1 := Nat.div_lt_of_lt_mul (by rw [Nat.mul_comm]; exact c1)
      rw [if_pos (by omega), List.drop_eq_nil_of_le (by omega), List.drop_eq_nil_of_le (by simp; omega)]
      simp
      rw [List.take_of_length_le (by simp; omega)]
    · by_cases c2 : j < (i + 2) * one
      · have l1 : i + 1 ≤ j / one := (Nat.le_div_iff_mul_le (by omega)).2 (by omega)
        have l2 : j / one < i + 2 := Nat.div_lt_of_lt_mul (by rw [Nat.mul_comm]; exact c2)
        rw [if_neg (by omega), show (i + 1) * one - j = 0 by omega, List.drop_eq_nil_of_le (by omega), List.drop_eq_nil_of_le (by simp; omega)]
        simp
      · have l1 : i + 2 ≤ j / one := (Nat.le_div_iff_mul_le (by omega)).2 (by omega)
        rw [if_pos (by omega), show (i + 1) * one - j = 0 by omega, show (i + 2) * one - j = 0 by omega]
        simp
theorem shrT_rows (hwf : Wf sz cs) (ha : a < sz.length) (r : Rows3 sz cs a one s rows) {i : Nat} (hi : i + 1 < s) : ∀ q, q ≤ rows → shrT sz cs a i (q * (one * s)) = shrR cs one (one * s) i q := by
  intro q
  induction q with
  | zero => intro _; simp [shrT, shrR]
  | succ q ih =>
    intro hq
    have hrl := rowAt_length r.len_ (show q < rows by omega)
    have := shrT_row hwf ha r hi (show q < rows by omega) (one * s) (Nat.le_refl _)
    rw [List.take_of_length_le (show (rowAt cs (one * s) q).length ≤ one * s by omega)] at this
    rw [Nat.add_mul, Nat.one_mul, this, ih (by omega), shrR, List.append_assoc]
theorem shrR_length (r : Rows3 sz cs a one s rows) {i : Nat} (hi : i + 1 < s) : ∀ q, q ≤ rows → (shrR cs one (one * s) i q).length = q * (one * (s - 1)) := by
  intro q
  induction q with
  | zero => intro _; simp [shrR]
  | succ q ih =>
    intro hq
    have hrl := rowAt_length r.len_ (show q < rows by omega)
    have hle := le_all (one := one) hi
    have e1 : (i + 1) * one = i * one + one := by rw [Nat.add_mul, Nat.one_mul]
    have e2 : (i + 2) * one = i * one + one + one := by rw [Nat.add_mul]; omega
    have e3 : one * (s - 1) = one * s - one := by rw [Nat.mul_sub, Nat.mul_one]
    rw [shrR, List.length_append, List.length_append, ih (by omega), List.length_take, List.length_drop, hrl, show (q + 1) * (one * (s - 1)) = q * (one * (s - 1)) + one * (s - 1) by rw [Nat.add_mul, Nat.one_mul]]
    generalize q * (one * (s - 1)) = Q
    rw [e3]
    omega
theorem shr_wf (hwf : Wf sz cs) (ha : a < sz.length) {i : Nat} (hi : (i : Int) < rd sz a - 1) : Wf (shrS sz a) (shrT sz cs a i cs.length) := by
  obtain ⟨one, s, rows, r⟩ := rows3 hwf ha
  have hs := r.s_
  have hi : i + 1 < s := by omega
  have hL := shrR_length r hi rows (Nat.le_refl _)
  have hT : shrT sz cs a i cs.length = shrR cs one (one * s) i rows := by rw [r.len_]; exact shrT_rows hwf ha r hi rows (Nat.le_refl _)
  have hlen : (shrT sz cs a i cs.length).length = rows * (one * (s - 1)) := by rw [hT, hL]
  refine ⟨by simpa using hwf.lo, by simpa using hwf.hi, ?_, ?_, ?_⟩
  · intro k hk
    simp only [shrS_length] at hk
    have := hwf.pos k hk
    rw [shrS, rd_set _ _ _ _ ha]
    split <;> omega
  · obtain ⟨q, h1, h2⟩ := pr_set (rd sz a - 1) ha ha
    rw [shrS_length, shrS, h2, hlen]
    have h3 := hwf.len
    rw [h1, hs] at h3
    have h4 : q = ((rows * one : Nat) : Int) := by
      rw [r.len_] at h3
      have : ((rows * (one * s) : Nat) : Int) = ((rows * one : Nat) : Int) * (s : Int) := by rw [← Nat.mul_assoc, Int.natCast_mul]
      rw [this] at h3
      exact Int.eq_of_mul_eq_mul_right (show (s : Int) ≠ 0 by omega) h3.symm
    rw [h4, hs]
    have : ((s : Int) - 1) = ((s - 1 : Nat) : Int) := by omega
    rw [this, ← Int.natCast_mul, Nat.mul_assoc]
  · exact Nat.le_trans (shrT_len sz cs a i _) hwf.most
end
end Go.Proofs.Ytbofjdckmkifaaa

/-! ## A slab's contents stay numbers of 64 bits, whatever is grown, shrunk and filled. No program in sight. No condition. -/
namespace Go.Proofs.Ytbofjdckmkifaaa

def Vok (cs : List Int) : Prop := ∀ k, (Lit.int .i64 (rd cs k)).wf = true
theorem wf0 : (Lit.int .i64 0).wf = true := by decide
theorem vok_range {f : Nat → Int} {n : Nat} (h : ∀ k, k < n → (Lit.int .i64 (f k)).wf = true) : Vok ((List.range n).map f) := by
  intro k
  by_cases hk : k < n
  · rw [rd_map_range _ _ _ hk]; exact h k hk
  · rw [rd_nil _ _ (by simp; omega)]; exact wf0
theorem vok_append {xs ys : List Int} (h1 : Vok xs) (h2 : Vok ys) : Vok (xs ++ ys) := by
  intro k; rw [rd_append]; split
  · exact h1 k
  · exact h2 _
theorem vok_nil : Vok [] := fun k => by rw [rd_nil _ _ (by simp)]; exact wf0
theorem vok_one {x : Int} (h : (Lit.int .i64 x).wf = true) : Vok [x] := by
  intro k
  by_cases hk : k = 0
  · subst hk; exact h
  · rw [rd_nil _ _ (by simp; omega)]; exact wf0
theorem vok_getV {sz cs c : List Int} (h : Vok cs) : (Lit.int .i64 (getV sz cs c)).wf = true := by
  unfold getV; split
  · exact h _
  · exact wf0
theorem vok_grow {sz cs : List Int} {a : Nat} {i : Int} (h : Vok cs) : Vok (growC sz cs a i) := vok_range fun _ _ => vok_getV h
theorem vok_shr {sz cs : List Int} {a : Nat} {i : Int} (h : Vok cs) : ∀ k, Vok (shrT sz cs a i k)
  | 0 => vok_nil
  | k + 1 => by
    rw [shrT]; split
    · exact vok_append (vok_shr h k) (vok_one (h k))
    · exact vok_shr h k
theorem vok_fill {sz cs low high : List Int} {n : Int} (h : Vok cs) (hn : (Lit.int .i64 n).wf = true) : Vok (fillL sz cs low high n) :=
  vok_range fun k _ => by split; exact hn; exact h k
end Go.Proofs.Ytbofjdckmkifaaa

/-! ## What a range is filled with, as plain lists: how many cells it has, what is seen and got there. No program in sight. No condition. -/
namespace Go.Proofs.Ytbofjdckmkifaaa

/-- how many of the first n -/
def cnt (f : Nat → Bool) : Nat → Nat
  | 0 => 0
  | n + 1 => cnt f n + (if f n then 1 else 0)
theorem cnt_congr {f g : Nat → Bool} {n : Nat} (h : ∀ k, k < n → f k = g k) : cnt f n = cnt g n := by
  induction n with
  | zero => rfl
  | succ n ih => simp only [cnt]; rw [ih (fun k hk => h k (by omega)), h n (by omega)]
theorem cnt_le {f g : Nat → Bool} {n : Nat} (h : ∀ k, k < n → f k = true → g k = true) : cnt f n ≤ cnt g n := by
  induction n with
  | zero => exact Nat.le_refl _
  | succ n ih =>
    simp only [cnt]
    have h1 := ih (fun k hk => h k (by omega))
    have h2 := h n (by omega)
    cases hf : f n <;> cases hg : g n <;> simp <;> simp [hf, hg] at h2 <;> omega
theorem cnt_none {f : Nat → Bool} {n : Nat} (h : ∀ k, k < n → f k = false) : cnt f n = 0 := by
  induction n with
  | zero => rfl
  | succ n ih => simp only [cnt]; rw [ih (fun k hk => h k (by omega)), h n (by omega)]; rfl
theorem cnt_add (f : Nat → Bool) (a b : Nat) : cnt f (a + b) = cnt f a + cnt (fun t => f (a + t)) b := by
  induction b with
  | zero => simp [cnt]
  | succ b ih => rw [← Nat.add_assoc]; simp only [cnt]; rw [ih, Nat.add_assoc]
theorem cnt_mul {f g h : Nat → Bool} {b : Nat} : ∀ a, (∀ p t, p < a → t < b → f (p * b + t) = (g p && h t)) → cnt f (a * b) = cnt g a * cnt h b := by
  intro a
  induction a with
  | zero => intro _; simp [cnt]
  | succ a ih =>
    intro hf
    rw [Nat.add_mul, Nat.one_mul, cnt_add, ih (fun p t hp ht => hf p t (by omega) ht), cnt, Nat.add_mul]
    congr 1
    cases hg : g a with
    | true => simp; exact cnt_congr fun t ht => by rw [hf a t (by omega) ht, hg]; simp
    | false => simp; exact cnt_none fun t ht => by rw [hf a t (by omega) ht, hg]; simp
theorem cnt_range {l h n : Nat} (h1 : l ≤ h) (h2 : h < n) : cnt (fun t => decide (l ≤ t) && decide (t ≤ h)) n = h - l + 1 := by
  obtain ⟨m, rfl⟩ : ∃ m, n = l + ((h - l + 1) + m) := ⟨n - (h + 1), by omega⟩
  rw [cnt_add, cnt_add, cnt_none (fun k hk => by simp; omega)]
  rw [cnt_none (n := m) (fun k hk => by simp; omega)]
  have : ∀ d, d ≤ h - l + 1 → cnt (fun t => decide (l ≤ l + t) && decide (l + t ≤ h)) d = d := by
    intro d
    induction d with
    | zero => intro _; rfl
    | succ d ih => intro hd; simp only [cnt]; rw [ih (by omega), if_pos (by simp; omega)]
  rw [this _ (Nat.le_refl _)]; omega

/-- how many cells a range has, of the first k coordinates -/
def vol (low high : List Int) : Nat → Int
  | 0 => 1
  | k + 1 => vol low high k * (rd high k - rd low k + 1)
/-- is the place q of the first k coordinates in the range -/
def inPre (sz low high : List Int) : Nat → Nat → Bool
  | 0, _ => true
  | k + 1, q => inPre sz low high k (q / (rd sz k).toNat) && (decide ((rd low k).toNat ≤ q % (rd sz k).toNat) && decide (q % (rd sz k).toNat ≤ (rd high k).toNat))
section
variable {sz cs low high : List Int}
theorem inPre_hit (hwf : Wf sz cs) (hm : mayB sz low high = true) (q : Nat) : ∀ k, k ≤ sz.length → inPre sz low high k (q / (suf sz k).toNat) = withinB (cellL sz (q : Int)) low high k := by
  obtain ⟨l1, l2, o1, o2, hle⟩ := may_facts hm
  intro k
  induction k with
  | zero => intro _; simp [inPre, withinB]
  | succ k ih =>
    intro hk
    have hp := hwf.pos k (by omega)
    have hs := suf_pos hwf.pos (k + 1)
    have hst := suf_step sz (show k < sz.length by omega)
    have b1 := okc_at o1 (show k < sz.length by omega)
    have b2 := okc_at o2 (show k < sz.length by omega)
    obtain ⟨s, e1⟩ := Int.eq_ofNat_of_zero_le (show 0 ≤ rd sz k by omega)
    obtain ⟨t, e2⟩ := Int.eq_ofNat_of_zero_le (show 0 ≤ suf sz (k + 1) by omega)
    obtain ⟨l, e3⟩ := Int.eq_ofNat_of_zero_le b1.1
    obtain ⟨h, e4⟩ := Int.eq_ofNat_of_zero_le b2.1
    have e5 : (suf sz k).toNat = t * s := by rw [hst, e1, e2, ← Int.natCast_mul, Int.toNat_natCast, Nat.mul_comm]
    have e6 : rd (cellL sz (q : Int)) k = ((q / t % s : Nat) : Int) := by rw [rd_cellL _ _ (by omega), dig, e2, e1]; simp
    simp only [inPre, withinB]
    rw [← ih (by omega), e5, e1, e2, e3, e4, e6]
    simp only [Int.toNat_natCast, Nat.div_div_eq_div_mul]
    congr 1
    congr 1 <;> exact decide_eq_decide.2 Int.ofNat_le.symm
theorem cnt_pre (hwf : Wf sz cs) (hm : mayB sz low high = true) : ∀ k, k ≤ sz.length → (cnt (inPre sz low high k) (pr sz k).toNat : Int) = vol low high k := by
  obtain ⟨l1, l2, o1, o2, hle⟩ := may_facts hm
  intro k
  induction k with
  | zero => intro _; rfl
  | succ k ih =>
    intro hk
    have hp := hwf.pos k (by omega)
    have hpk := pr_pos hwf.pos k (by omega)
    have b1 := okc_at o1 (show k < sz.length by omega)
    have b2 := okc_at o2 (show k < sz.length by omega)
    have b3 := hle k (by omega)
    obtain ⟨s, e1⟩ := Int.eq_ofNat_of_zero_le (show 0 ≤ rd sz k by omega)
    obtain ⟨t, e2⟩ := Int.eq_ofNat_of_zero_le (show 0 ≤ pr sz k by omega)
    obtain ⟨l, e3⟩ := Int.eq_ofNat_of_zero_le b1.1
    obtain ⟨h, e4⟩ := Int.eq_ofNat_of_zero_le b2.1
    have e5 : (pr sz (k + 1)).toNat = t * s := by rw [pr, e1, e2, ← Int.natCast_mul, Int.toNat_natCast]
    have hs : 0 < s := by omega
    rw [e5, cnt_mul (g := inPre sz low high k) (h := fun t => decide (l ≤ t) && decide (t ≤ h)) t (fun p x hp hx => by
      have hdiv : (p * s + x) / s = p := by rw [Nat.mul_comm p s, Nat.mul_add_div hs, Nat.div_eq_of_lt hx, Nat.add_zero]
      have hmod : (p * s + x) % s = x := by rw [Nat.mul_comm p s, Nat.mul_add_mod, Nat.mod_eq_of_lt hx]
      simp only [inPre, e1, e3, e4, Int.toNat_natCast, hdiv, hmod])]
    rw [cnt_range (by omega) (by omega), Int.natCast_mul, vol, ← ih (by omega), e2, Int.toNat_natCast, e3, e4]
    congr 1
    omega
theorem vol_bd (_hwf : Wf sz cs) (hm : mayB sz low high = true) : ∀ k, k ≤ sz.length → 1 ≤ vol low high k ∧ vol low high k ≤ pr sz k := by
  obtain ⟨l1, l2, o1, o2, hle⟩ := may_facts hm
  intro k
  induction k with
  | zero => intro _; simp [vol, pr]
  | succ k ih =>
    intro hk
    have hh := ih (by omega)
    have b1 := okc_at o1 (show k < sz.length by omega)
    have b2 := okc_at o2 (show k < sz.length by omega)
    have b3 := hle k (by omega)
    have m1 := Int.mul_le_mul hh.1 (show 1 ≤ rd high k - rd low k + 1 by omega) (by omega) (by omega)
    have m2 := Int.mul_le_mul hh.2 (show rd high k - rd low k + 1 ≤ rd sz k by omega) (by omega) (by omega)
    simp only [vol, pr]
    omega
/-- a range has as many cells as there are numbers between its bounds -/
theorem vol_hits (hwf : Wf sz cs) (hm : mayB sz low high = true) : vol low high sz.length = (cnt (hitB sz low high) cs.length : Nat) := by
  rw [← cnt_pre hwf hm _ (Nat.le_refl _), ← hwf.len, Int.toNat_natCast]
  congr 1
  refine cnt_congr fun q hq => ?_
  have := inPre_hit hwf hm q sz.length (Nat.le_refl _)
  rw [suf_end sz (Nat.le_refl _)] at this
  simpa [hitB] using this
theorem rd_fillL (n : Int) {k : Nat} (hk : k < cs.length) : rd (fillL sz cs low high n) k = if hitB sz low high k = true then n else rd cs k := by
  rw [fillL, fillT, rd_map_range _ _ _ hk]; simp [hk]
/-- how often the number stands among the first k -/
def eqN (xs : List Int) (n : Int) (k : Nat) : Nat := cnt (fun j => rd xs j == n) k
theorem eqN_step (xs : List Int) (n : Int) (k : Nat) : eqN xs n (k + 1) = eqN xs n k + (if rd xs k = n then 1 else 0) := by
  simp only [eqN, cnt]; congr 1; by_cases h : rd xs k = n <;> simp [h]
theorem eqN_le (xs : List Int) (n : Int) (k : Nat) : eqN xs n k ≤ k := by
  induction k with
  | zero => exact Nat.le_refl _
  | succ k ih => rw [eqN_step]; split <;> omega
theorem vol_eqN (hwf : Wf sz cs) (hm : mayB sz low high = true) (n : Int) : vol low high sz.length ≤ (eqN (fillL sz cs low high n) n cs.length : Nat) := by
  rw [vol_hits hwf hm]
  have : cnt (hitB sz low high) cs.length ≤ eqN (fillL sz cs low high n) n cs.length := cnt_le fun k hk h => by rw [rd_fillL n hk, if_pos h]; simp
  omega
theorem get_hit (hwf : Wf sz cs) (n : Int) {c : List Int} (hc : isCell sz c = true) (hh : ∀ k, k < sz.length → rd low k ≤ rd c k ∧ rd c k ≤ rd high k) : getV sz (fillL sz cs low high n) c = n := by
  have hlt := placeV_lt (c := c) hwf
  rw [placeV, if_pos hc] at hlt
  rw [getV, if_pos hc]
  simp only [isCell, Bool.and_eq_true, decide_eq_true_eq] at hc
  obtain ⟨p, hp⟩ := Int.eq_ofNat_of_zero_le hlt.1
  rw [hp] at hlt ⊢
  rw [Int.toNat_natCast, rd_fillL n (by omega), if_pos]
  rw [hit_iff, ← hp, hc.1, cellL_plc hwf.pos hc.1 (by rw [← hc.1]; exact hc.2)]
  exact hh
theorem filled_get (hwf : Wf sz cs) (hm : mayB sz low high = true) (n : Int) : getV sz (fillL sz cs low high n) low = n ∧ getV sz (fillL sz cs low high n) high = n ∧ placeE sz low = 0 ∧ placeE sz high = 0 := by
  obtain ⟨l1, l2, o1, o2, hle⟩ := may_facts hm
  have c1 : isCell sz low = true := by simp [isCell, l1, o1]
  have c2 : isCell sz high = true := by simp [isCell, l2, o2]
  exact ⟨get_hit hwf n c1 fun k hk => ⟨Int.le_refl _, hle k hk⟩, get_hit hwf n c2 fun k hk => ⟨hle k hk, Int.le_refl _⟩, by simp [placeE, c1], by simp [placeE, c2]⟩
theorem filled_seenT (n : Int) : ∀ k, k ≤ cs.length → seenT sz (fillL sz cs low high n) low high k = if hits sz low high k = [] then [] else [n] := by
  intro k
  induction k with
  | zero => intro _; rfl
  | succ k ih =>
    intro hk
    have h1 := ih (by omega)
    cases hh : hitB sz low high k with
    | false => rw [seenT_miss hh, h1, hits_skip (p := k) (q := k + 1) (by omega) (fun r h1 h2 => by obtain rfl : r = k := (by omega); exact hh)]
    | true =>
      have hv : rd (fillL sz cs low high n) k = n := by rw [rd_fillL n (by omega), if_pos hh]
      rw [hits_hit hh, if_neg (by simp)]
      by_cases he : hits sz low high k = []
      · rw [if_pos he] at h1
        rw [seenT_new hh (by rw [h1]; simp), h1, hv]; rfl
      · rw [if_neg he] at h1
        rw [seenT_old (by rw [h1, hv]; simp), h1]
theorem filled_seen (hwf : Wf sz cs) (hm : mayB sz low high = true) (n : Int) : seenL sz (fillL sz cs low high n) low high = [n] := by
  have hlen : (fillL sz cs low high n).length = cs.length := by simp [fillL]
  rw [seenL, if_pos hm, hlen, filled_seenT n _ (Nat.le_refl _), if_neg]
  obtain ⟨p, _, hp, _, hh, _⟩ := first_hit hwf hm
  intro he
  have : p ∈ hits sz low high cs.length := by simp [hits, hh, hp]
  rw [he] at this; cases this
end
end Go.Proofs.Ytbofjdckmkifaaa

