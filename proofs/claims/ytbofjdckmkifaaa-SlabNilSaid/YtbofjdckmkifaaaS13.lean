/-
  The slab as plain lists: what the document says of it. No program in sight. No condition.
-/
import Derived.Test.YtbofjdckmkifaaaMem
namespace Go.Proofs.Ytbofjdckmkifaaa

/-- the place of a cell, k numbers in -/
def plc (sz c : List Int) : Nat → Int
  | 0 => 0
  | k + 1 => plc sz c k * rd sz k + rd c k
def okc (sz c : List Int) : Nat → Bool
  | 0 => true
  | k + 1 => okc sz c k && (decide (0 ≤ rd c k) && decide (rd c k < rd sz k))
def pr (sz : List Int) : Nat → Int
  | 0 => 1
  | k + 1 => pr sz k * rd sz k
/-- sizes and contents that may be -/
structure Wf (sz cs : List Int) : Prop where
  lo : 1 ≤ sz.length
  hi : sz.length ≤ 6
  pos : ∀ k, k < sz.length → 1 ≤ rd sz k
  len : (cs.length : Int) = pr sz sz.length
  most : cs.length ≤ 4096

theorem okc_step {sz c : List Int} {k : Nat} (h : okc sz c (k + 1) = true) : okc sz c k = true ∧ 0 ≤ rd c k ∧ rd c k < rd sz k := by
  simpa [okc, and_assoc] using h
theorem okc_mono {sz c : List Int} {k l : Nat} (hk : k ≤ l) (h : okc sz c k = false) : okc sz c l = false := by
  induction l with
  | zero => have : k = 0 := by omega
            subst this; exact h
  | succ l ih =>
    by_cases e : k = l + 1
    · subst e; exact h
    · simp [okc, ih (by omega)]
theorem okc_at {sz c : List Int} {k l : Nat} (h : okc sz c l = true) (hk : k < l) : 0 ≤ rd c k ∧ rd c k < rd sz k := by
  by_cases e : okc sz c (k + 1) = true
  · exact (okc_step e).2
  · have := okc_mono (show k + 1 ≤ l by omega) (by simpa using e); rw [h] at this; cases this
theorem pr_pos {sz : List Int} (hp : ∀ k, k < sz.length → 1 ≤ rd sz k) : ∀ k, k ≤ sz.length → 1 ≤ pr sz k := by
  intro k
  induction k with
  | zero => intro _; simp [pr]
  | succ k ih =>
    intro hk
    have h1 := ih (by omega)
    have h2 := hp k (by omega)
    have := Int.mul_le_mul h1 h2 (by omega) (by omega)
    simpa [pr] using this
theorem pr_mono {sz : List Int} (hp : ∀ k, k < sz.length → 1 ≤ rd sz k) {k l : Nat} (hkl : k ≤ l) (hl : l ≤ sz.length) : pr sz k ≤ pr sz l := by
  induction l with
  | zero => have : k = 0 := by omega
            subst this; exact Int.le_refl _
  | succ l ih =>
    by_cases e : k = l + 1
    · subst e; exact Int.le_refl _
    · have h1 := ih (by omega) (by omega)
      have h2 := hp l (by omega)
      have h3 := pr_pos hp l (by omega)
      have := Int.mul_le_mul_of_nonneg_left h2 (show 0 ≤ pr sz l by omega)
      simp only [pr]; omega
theorem plc_lt {sz c : List Int} {k : Nat} (hp : ∀ k, k < sz.length → 1 ≤ rd sz k) (hk : k ≤ sz.length) (h : okc sz c k = true) : 0 ≤ plc sz c k ∧ plc sz c k < pr sz k := by
  induction k with
  | zero => simp [plc, pr]
  | succ k ih =>
    obtain ⟨h1, h2, h3⟩ := okc_step h
    obtain ⟨a, b⟩ := ih (by omega) h1
    have hs := hp k (by omega)
    have m1 := Int.mul_le_mul_of_nonneg_right (show plc sz c k + 1 ≤ pr sz k by omega) (show 0 ≤ rd sz k by omega)
    have m0 := Int.mul_nonneg a (show 0 ≤ rd sz k by omega)
    rw [Int.add_mul] at m1
    simp only [plc, pr]
    omega
theorem Wf.pos' {sz cs : List Int} (h : Wf sz cs) : 1 ≤ cs.length := by have := pr_pos h.pos sz.length (Nat.le_refl _); have := h.len; omega
theorem Wf.size_le {sz cs : List Int} (h : Wf sz cs) {k : Nat} (hk : k < sz.length) : 1 ≤ rd sz k ∧ rd sz k ≤ 4096 := by
  have h1 := h.pos k hk
  have h2 := pr_mono h.pos (show k + 1 ≤ sz.length by omega) (Nat.le_refl _)
  have h3 := pr_pos h.pos k (by omega)
  have h4 := h.len
  have h5 := h.most
  have := Int.mul_le_mul_of_nonneg_right h3 (show 0 ≤ rd sz k by omega)
  simp only [pr] at h2
  omega
theorem Wf.pr_le {sz cs : List Int} (h : Wf sz cs) {k : Nat} (hk : k ≤ sz.length) : 1 ≤ pr sz k ∧ pr sz k ≤ 4096 := by
  have h1 := pr_pos h.pos k hk
  have h2 := pr_mono h.pos hk (Nat.le_refl _)
  have h4 := h.len
  have h5 := h.most
  omega
/-- P13.2: the place of a cell -/
def isCell (sz c : List Int) : Bool := decide (c.length = sz.length) && okc sz c c.length
def placeV (sz c : List Int) : Int := if isCell sz c then plc sz c c.length else 0
def placeE (sz c : List Int) : Int := if isCell sz c then 0 else 1
theorem placeV_lt {sz cs c : List Int} (h : Wf sz cs) : 0 ≤ placeV sz c ∧ placeV sz c < cs.length := by
  unfold placeV
  have hl := h.pos'
  split
  · rename_i hc
    simp only [isCell, Bool.and_eq_true, decide_eq_true_eq] at hc
    have := plc_lt h.pos (by omega) hc.2
    have hlen := h.len
    rw [← hc.1] at hlen
    omega
  · omega
/-- P13.2: the content of a cell -/
def getV (sz cs c : List Int) : Int := if isCell sz c then rd cs (plc sz c c.length).toNat else 0

/-! ### the cells in their order -/
def suf (sz : List Int) (k : Nat) : Int := (sz.drop k).foldr (· * ·) 1
theorem suf_end (sz : List Int) {k : Nat} (h : sz.length ≤ k) : suf sz k = 1 := by unfold suf; rw [List.drop_eq_nil_of_le h]; rfl
theorem suf_step (sz : List Int) {k : Nat} (h : k < sz.length) : suf sz k = rd sz k * suf sz (k + 1) := by
  unfold suf; rw [List.drop_eq_getElem_cons h, List.foldr_cons, rd_eq, List.getElem?_eq_getElem h]; rfl
theorem suf_pos {sz : List Int} (hp : ∀ k, k < sz.length → 1 ≤ rd sz k) (k : Nat) : 1 ≤ suf sz k := by
  by_cases h : k < sz.length
  · have : ∀ d k, sz.length - k = d → 1 ≤ suf sz k := by
      intro d
      induction d with
      | zero => intro k hk; rw [suf_end sz (by omega)]; omega
      | succ d ih =>
        intro k hk
        rw [suf_step sz (by omega)]
        have h1 := ih (k + 1) (by omega)
        have h2 := hp k (by omega)
        have := Int.mul_le_mul h2 h1 (by omega) (by omega)
        omega
    exact this _ k rfl
  · rw [suf_end sz (by omega)]; omega
def dig (sz : List Int) (n : Int) (k : Nat) : Int := (n / suf sz (k + 1)) % rd sz k
def cellL (sz : List Int) (n : Int) : List Int := (List.range sz.length).map (dig sz n)
@[simp] theorem cellL_length (sz : List Int) (n : Int) : (cellL sz n).length = sz.length := by simp [cellL]
theorem rd_cellL (sz : List Int) (n : Int) {k : Nat} (h : k < sz.length) : rd (cellL sz n) k = dig sz n k := rd_map_range _ _ _ h
/-- what Cell's loop has made when the numbers from k on are there -/
def cellT (sz : List Int) (n : Int) (k : Nat) : List Int := (List.range sz.length).map fun j => if j < k then 0 else dig sz n j
@[simp] theorem cellT_length (sz : List Int) (n : Int) (k : Nat) : (cellT sz n k).length = sz.length := by simp [cellT]
theorem cellT_start (sz : List Int) (n : Int) : cellT sz n sz.length = List.replicate sz.length 0 := by
  refine ext_rd (by simp) fun j hj => ?_
  simp only [cellT_length] at hj
  rw [cellT, rd_map_range _ _ _ hj, if_pos hj]; simp [rd_eq, hj]
theorem cellT_end (sz : List Int) (n : Int) : cellT sz n 0 = cellL sz n := by simp [cellT, cellL]
theorem cellT_step (sz : List Int) (n : Int) (k : Nat) (h : k < sz.length) : (cellT sz n (k + 1)).set k (dig sz n k) = cellT sz n k := by
  refine ext_rd (by simp) fun j hj => ?_
  simp at hj
  rw [rd_set _ _ _ _ (by simpa using h), cellT, rd_map_range _ _ _ hj, cellT, rd_map_range _ _ _ hj]
  by_cases e : k = j
  · subst e; simp
  · by_cases e2 : j < k
    · simp [e, e2, show j < k + 1 by omega]
    · simp [e, e2, show ¬ j < k + 1 by omega]
def withinB (c low high : List Int) : Nat → Bool
  | 0 => true
  | k + 1 => withinB c low high k && (decide (rd low k ≤ rd c k) && decide (rd c k ≤ rd high k))
theorem withinB_mono {c low high : List Int} {k l : Nat} (hk : k ≤ l) (h : withinB c low high k = false) : withinB c low high l = false := by
  induction l with
  | zero => have : k = 0 := by omega
            subst this; exact h
  | succ l ih =>
    by_cases e : k = l + 1
    · subst e; exact h
    · simp [withinB, ih (by omega)]
def leB (low high : List Int) : Nat → Bool
  | 0 => true
  | k + 1 => leB low high k && decide (rd low k ≤ rd high k)
theorem leB_mono {low high : List Int} {k l : Nat} (hk : k ≤ l) (h : leB low high k = false) : leB low high l = false := by
  induction l with
  | zero => have : k = 0 := by omega
            subst this; exact h
  | succ l ih =>
    by_cases e : k = l + 1
    · subst e; exact h
    · simp [leB, ih (by omega)]
/-- may two cells be a range -/
def mayB (sz low high : List Int) : Bool := isCell sz low && isCell sz high && leB low high low.length
def hitB (sz low high : List Int) (i : Nat) : Bool := withinB (cellL sz i) low high sz.length
def fillT (sz cs low high : List Int) (n : Int) (k : Nat) : List Int := (List.range cs.length).map fun i => if i < k ∧ hitB sz low high i = true then n else rd cs i
@[simp] theorem fillT_length (sz cs low high : List Int) (n : Int) (k : Nat) : (fillT sz cs low high n k).length = cs.length := by simp [fillT]
theorem fillT_start (sz cs low high : List Int) (n : Int) : fillT sz cs low high n 0 = cs := by
  refine ext_rd (by simp) fun j hj => ?_
  simp only [fillT_length] at hj
  rw [fillT, rd_map_range _ _ _ hj]; simp
theorem fillT_hit (sz cs low high : List Int) (n : Int) (k : Nat) (hk : k < cs.length) (h : hitB sz low high k = true) : (fillT sz cs low high n k).set k n = fillT sz cs low high n (k + 1) := by
  refine ext_rd (by simp) fun j hj => ?_
  simp at hj
  rw [rd_set _ _ _ _ (by simpa using hk), fillT, rd_map_range _ _ _ hj, fillT, rd_map_range _ _ _ hj]
  by_cases e : k = j
  · subst e; simp [h]
  · by_cases e2 : j < k
    · simp [e, e2, show j < k + 1 by omega]
    · simp [e, e2, show ¬ j < k + 1 by omega]
theorem fillT_miss (sz cs low high : List Int) (n : Int) (k : Nat) (h : hitB sz low high k = false) : fillT sz cs low high n k = fillT sz cs low high n (k + 1) := by
  refine ext_rd (by simp) fun j hj => ?_
  simp at hj
  rw [fillT, rd_map_range _ _ _ hj, fillT, rd_map_range _ _ _ hj]
  by_cases e : k = j
  · subst e; simp [h]
  · by_cases e2 : j < k
    · simp [e2, show j < k + 1 by omega]
    · simp [e2, show ¬ j < k + 1 by omega]
def fillL (sz cs low high : List Int) (n : Int) : List Int := fillT sz cs low high n cs.length

/-- the contents seen among the first k cells -/
def seenT (sz cs low high : List Int) : Nat → List Int
  | 0 => []
  | k + 1 => if hitB sz low high k = true ∧ rd cs k ∉ seenT sz cs low high k then seenT sz cs low high k ++ [rd cs k] else seenT sz cs low high k
theorem seenT_len (sz cs low high : List Int) (k : Nat) : (seenT sz cs low high k).length ≤ k := by
  induction k with
  | zero => simp [seenT]
  | succ k ih =>
    simp only [seenT]
    split
    · simp; omega
    · omega
theorem seenT_new {sz cs low high : List Int} {k : Nat} (h : hitB sz low high k = true) (hn : rd cs k ∉ seenT sz cs low high k) : seenT sz cs low high (k + 1) = seenT sz cs low high k ++ [rd cs k] := by
  simp only [seenT]; rw [if_pos ⟨h, hn⟩]
theorem seenT_old {sz cs low high : List Int} {k : Nat} (hn : rd cs k ∈ seenT sz cs low high k) : seenT sz cs low high (k + 1) = seenT sz cs low high k := by
  simp only [seenT]; rw [if_neg (fun h => h.2 hn)]
theorem seenT_miss {sz cs low high : List Int} {k : Nat} (h : hitB sz low high k = false) : seenT sz cs low high (k + 1) = seenT sz cs low high k := by
  simp only [seenT]; rw [if_neg (fun h' => by simp [h] at h')]
def seenL (sz cs low high : List Int) : List Int := if mayB sz low high then seenT sz cs low high cs.length else []
theorem mem_take_succ (xs : List Int) (m : Nat) (h : m < xs.length) (x : Int) : (x ∈ xs.take (m + 1)) ↔ (x ∈ xs.take m ∨ rd xs m = x) := by
  rw [rd_eq, List.getElem?_eq_getElem h, Option.getD_some, List.take_succ_eq_append_getElem h, List.mem_append, List.mem_singleton]
  exact or_congr Iff.rfl eq_comm

/-! ### sizes that may be -/
def okp (sz : List Int) : Nat → Bool
  | 0 => true
  | k + 1 => okp sz k && (decide (1 ≤ rd sz k) && (decide (rd sz k ≤ 4096) && decide (pr sz k * rd sz k ≤ 4096)))
theorem okp_step {sz : List Int} {k : Nat} (h : okp sz (k + 1) = true) : okp sz k = true ∧ 1 ≤ rd sz k ∧ rd sz k ≤ 4096 ∧ pr sz (k + 1) ≤ 4096 := by
  simp only [okp, Bool.and_eq_true, decide_eq_true_eq] at h
  exact ⟨h.1, h.2.1, h.2.2.1, h.2.2.2⟩
theorem okp_mono {sz : List Int} {k l : Nat} (hk : k ≤ l) (h : okp sz k = false) : okp sz l = false := by
  induction l with
  | zero => have : k = 0 := by omega
            subst this; exact h
  | succ l ih =>
    by_cases e : k = l + 1
    · subst e; exact h
    · simp [okp, ih (by omega)]
theorem okp_bd {sz : List Int} {k : Nat} (h : okp sz k = true) : 1 ≤ pr sz k ∧ pr sz k ≤ 4096 ∧ ∀ j, j < k → 1 ≤ rd sz j ∧ rd sz j ≤ 4096 := by
  induction k with
  | zero => simp [pr]
  | succ k ih =>
    obtain ⟨h1, h2, h3, h4⟩ := okp_step h
    obtain ⟨a, b, c⟩ := ih h1
    refine ⟨?_, h4, fun j hj => ?_⟩
    · have := Int.mul_le_mul a h2 (by omega) (by omega); simpa [pr] using this
    · by_cases e : j = k
      · subst e; exact ⟨h2, h3⟩
      · exact c j (by omega)
def prodV (sz : List Int) : Int := if okp sz sz.length then pr sz sz.length else 0
def ofB (sz cs : List Int) : Bool := decide (1 ≤ sz.length) && (decide (sz.length ≤ 6) && (okp sz sz.length && decide (pr sz sz.length = cs.length)))
theorem ofB_wf {sz cs : List Int} (h : ofB sz cs = true) : Wf sz cs := by
  simp only [ofB, Bool.and_eq_true, decide_eq_true_eq] at h
  obtain ⟨a, b, c, d⟩ := h
  have := okp_bd c
  exact ⟨a, b, fun k hk => (this.2.2 k hk).1, d.symm, by omega⟩
theorem wf_okp {sz cs : List Int} (h : Wf sz cs) : ∀ k, k ≤ sz.length → okp sz k = true := by
  intro k
  induction k with
  | zero => intro _; rfl
  | succ k ih =>
    intro hk
    have h1 := h.size_le (k := k) (by omega)
    have h2 := h.pr_le hk
    simp only [pr] at h2
    simp [okp, ih (by omega), h1.1, h1.2, h2.2]
theorem wf_ofB {sz cs : List Int} (h : Wf sz cs) : ofB sz cs = true := by
  simp [ofB, h.lo, h.hi, wf_okp h _ (Nat.le_refl _), h.len]

/-! ### Grow -/
def growS (sz : List Int) (a : Nat) : List Int := sz.set a (rd sz a + 1)
@[simp] theorem growS_length (sz : List Int) (a : Nat) : (growS sz a).length = sz.length := by simp [growS]
def growN (sz cs : List Int) (a : Nat) : Nat := ((cs.length : Int) / rd sz a * (rd sz a + 1)).toNat
def lower (a : Nat) (i : Int) (c : List Int) : List Int := if i < rd c a then c.set a (rd c a - 1) else c
def growT (sz cs : List Int) (a : Nat) (i : Int) (k : Nat) : List Int := (List.range k).map fun j => getV sz cs (lower a i (cellL (growS sz a) ((j : Nat) : Int)))
@[simp] theorem growT_length (sz cs : List Int) (a : Nat) (i : Int) (k : Nat) : (growT sz cs a i k).length = k := by simp [growT]
theorem growT_succ (sz cs : List Int) (a : Nat) (i : Int) (k : Nat) : growT sz cs a i (k + 1) = growT sz cs a i k ++ [getV sz cs (lower a i (cellL (growS sz a) k))] := by simp [growT, List.range_succ]
def growC (sz cs : List Int) (a : Nat) (i : Int) : List Int := growT sz cs a i (growN sz cs a)
theorem pr_congr {xs ys : List Int} {k : Nat} (h : ∀ j, j < k → rd xs j = rd ys j) : pr xs k = pr ys k := by
  induction k with
  | zero => rfl
  | succ k ih => simp only [pr]; rw [ih (fun j hj => h j (by omega)), h k (by omega)]
theorem pr_set {sz : List Int} {a : Nat} (x : Int) (ha : a < sz.length) {k : Nat} (hk : a < k) : ∃ q, pr sz k = q * rd sz a ∧ pr (sz.set a x) k = q * x := by
  induction k with
  | zero => omega
  | succ k ih =>
    by_cases e : a = k
    · subst e
      refine ⟨pr sz a, rfl, ?_⟩
      simp only [pr]
      rw [rd_set _ _ _ _ ha, if_pos rfl, pr_congr (ys := sz) (fun j hj => by rw [rd_set _ _ _ _ ha, if_neg (by omega)])]
    · obtain ⟨q, h1, h2⟩ := ih (by omega)
      refine ⟨q * rd sz k, ?_, ?_⟩
      · simp only [pr]; rw [h1, Int.mul_assoc, Int.mul_comm (rd sz a), ← Int.mul_assoc]
      · simp only [pr]; rw [h2, rd_set _ _ _ _ ha, if_neg e, Int.mul_assoc, Int.mul_comm x, ← Int.mul_assoc]
theorem grow_pr {sz cs : List Int} (h : Wf sz cs) {a : Nat} (ha : a < sz.length) : pr (growS sz a) sz.length = (cs.length : Int) / rd sz a * (rd sz a + 1) ∧ 1 ≤ (cs.length : Int) / rd sz a := by
  obtain ⟨q, h1, h2⟩ := pr_set (rd sz a + 1) ha ha
  have hs := h.pos a ha
  have hl := h.len
  have e : (cs.length : Int) / rd sz a = q := by rw [hl, h1]; exact Int.mul_ediv_cancel _ (by omega)
  rw [e]
  refine ⟨h2, ?_⟩
  have hp := h.pos'
  by_cases hq : 1 ≤ q
  · exact hq
  · have := Int.mul_nonneg (show 0 ≤ -q by omega) (show 0 ≤ rd sz a by omega)
    rw [Int.neg_mul] at this
    omega
theorem growN_eq {sz cs : List Int} (h : Wf sz cs) {a : Nat} (ha : a < sz.length) : (growN sz cs a : Int) = (cs.length : Int) / rd sz a * (rd sz a + 1) := by
  have h1 := (grow_pr h ha).2
  have hs := h.pos a ha
  have := Int.mul_nonneg (show 0 ≤ (cs.length : Int) / rd sz a by omega) (show 0 ≤ rd sz a + 1 by omega)
  unfold growN; omega
theorem grow_wf {sz cs : List Int} (h : Wf sz cs) {a : Nat} (ha : a < sz.length) (hm : (growN sz cs a : Int) ≤ 4096) {ys : List Int} (hy : ys.length = growN sz cs a) : Wf (growS sz a) ys := by
  refine ⟨by simpa using h.lo, by simpa using h.hi, fun k hk => ?_, ?_, by omega⟩
  · have hk : k < sz.length := by simpa using hk
    rw [growS, rd_set _ _ _ _ ha]
    have := h.pos k hk
    have := h.pos a ha
    split <;> omega
  · rw [growS_length, (grow_pr h ha).1, hy, growN_eq h ha]
theorem grow_prod {sz cs : List Int} (h : Wf sz cs) {a : Nat} (ha : a < sz.length) (hm : (growN sz cs a : Int) ≤ 4096) : prodV (growS sz a) = growN sz cs a := by
  have w := grow_wf h ha hm (ys := List.replicate (growN sz cs a) 0) (by simp)
  rw [prodV, if_pos (wf_okp w _ (Nat.le_refl _)), ← w.len]; simp
theorem growN_pos {sz cs : List Int} (h : Wf sz cs) {a : Nat} (ha : a < sz.length) : 1 ≤ growN sz cs a := by
  have h1 := growN_eq h ha
  have h2 := (grow_pr h ha).2
  have hs := h.pos a ha
  have := Int.mul_le_mul h2 (show 1 ≤ rd sz a + 1 by omega) (by omega) (by omega)
  omega
theorem grow_sum {sz cs : List Int} (h : Wf sz cs) {a : Nat} (ha : a < sz.length) : (growN sz cs a : Int) = (cs.length : Int) + (cs.length : Int) / rd sz a := by
  rw [growN_eq h ha, Int.mul_add, Int.mul_one]
  obtain ⟨q, h1, -⟩ := pr_set (0 : Int) ha ha
  have hs := h.pos a ha
  have e : (cs.length : Int) / rd sz a = q := by rw [h.len, h1]; exact Int.mul_ediv_cancel _ (by omega)
  rw [e, h.len, h1]
/-- P13.3: what Grow answers -/
def growBad (sz : List Int) (a i : Int) : Bool := decide (a < 0) || (decide (a ≥ sz.length) || (decide (i < 0) || decide (i ≥ rd sz a.toNat)))
def growE (sz cs : List Int) (a i : Int) : Int := if growBad sz a i then 1 else if (growN sz cs a.toNat : Int) > 4096 then 4 else 0

/-! ### Shrink -/
def shrBad (sz : List Int) (a i : Int) : Bool := decide (a < 0) || (decide (a ≥ sz.length) || (decide (i < 0) || decide (i ≥ rd sz a.toNat - 1)))
def shrOk (sz cs : List Int) (a : Nat) (i : Int) : Nat → Bool
  | 0 => true
  | k + 1 => shrOk sz cs a i k && (decide (rd (cellL sz ((k : Nat) : Int)) a ≠ i + 1) || decide (getV sz cs ((cellL sz ((k : Nat) : Int)).set a i) = rd cs k))
theorem shrOk_mono {sz cs : List Int} {a : Nat} {i : Int} {k l : Nat} (hk : k ≤ l) (h : shrOk sz cs a i k = false) : shrOk sz cs a i l = false := by
  induction l with
  | zero => have : k = 0 := by omega
            subst this; exact h
  | succ l ih =>
    by_cases e : k = l + 1
    · subst e; exact h
    · simp [shrOk, ih (by omega)]
def shrT (sz cs : List Int) (a : Nat) (i : Int) : Nat → List Int
  | 0 => []
  | k + 1 => if rd (cellL sz ((k : Nat) : Int)) a ≠ i + 1 then shrT sz cs a i k ++ [rd cs k] else shrT sz cs a i k
theorem shrT_len (sz cs : List Int) (a : Nat) (i : Int) (k : Nat) : (shrT sz cs a i k).length ≤ k := by
  induction k with
  | zero => simp [shrT]
  | succ k ih =>
    simp only [shrT]
    split
    · simp; omega
    · omega
def shrS (sz : List Int) (a : Nat) : List Int := sz.set a (rd sz a - 1)
@[simp] theorem shrS_length (sz : List Int) (a : Nat) : (shrS sz a).length = sz.length := by simp [shrS]
def shrE (sz cs : List Int) (a i : Int) : Int := if shrBad sz a i then 1 else if shrOk sz cs a.toNat i cs.length then 0 else 1

/-! ### rows -/
theorem pr_suf (sz : List Int) (k : Nat) (h : k ≤ sz.length) : pr sz k * suf sz k = suf sz 0 := by
  induction k with
  | zero => simp [pr]
  | succ k ih =>
    have e := suf_step sz (show k < sz.length by omega)
    rw [← ih (by omega), e]; simp only [pr]; rw [Int.mul_assoc]
theorem pr_all (sz : List Int) : pr sz sz.length = suf sz 0 := by
  have := pr_suf sz sz.length (Nat.le_refl _)
  rw [suf_end sz (Nat.le_refl _), Int.mul_one] at this; exact this
theorem suf_drop (sz : List Int) (k : Nat) : suf (sz.drop k) 0 = suf sz k := by simp [suf]
theorem suf_le {sz cs : List Int} (h : Wf sz cs) (k : Nat) (hk : k ≤ sz.length) : suf sz k ≤ 4096 := by
  have h1 := pr_suf sz k hk
  have h2 := pr_pos h.pos k hk
  have h3 := suf_pos h.pos k
  have h4 := h.pr_le (Nat.le_refl sz.length)
  rw [pr_all] at h4
  have := Int.mul_le_mul_of_nonneg_right h2 (show 0 ≤ suf sz k by omega)
  omega
theorem okp_of {xs : List Int} (hp : ∀ k, k < xs.length → 1 ≤ rd xs k) (hm : pr xs xs.length ≤ 4096) : ∀ k, k ≤ xs.length → okp xs k = true := by
  intro k
  induction k with
  | zero => intro _; rfl
  | succ k ih =>
    intro hk
    have h1 := hp k (by omega)
    have h2 := pr_mono hp hk (Nat.le_refl _)
    have h3 := pr_pos hp k (by omega)
    have := Int.mul_le_mul_of_nonneg_right h3 (show 0 ≤ rd xs k by omega)
    simp only [pr] at h2
    simp [okp, ih (by omega)]
    omega
theorem rd_drop (xs : List Int) (k j : Nat) : rd (xs.drop k) j = rd xs (k + j) := by simp [rd_eq, List.getElem?_drop]
theorem rd_take (xs : List Int) (k j : Nat) (h : j < k) : rd (xs.take k) j = rd xs j := by simp [rd_eq, List.getElem?_take, h]
theorem prod_drop {sz cs : List Int} (h : Wf sz cs) (k : Nat) (hk : k ≤ sz.length) : prodV (sz.drop k) = suf sz k := by
  have e : pr (sz.drop k) (sz.drop k).length = suf sz k := by rw [pr_all, suf_drop]
  rw [prodV, if_pos, e]
  refine okp_of (fun j hj => ?_) (by rw [e]; exact suf_le h k hk) _ (Nat.le_refl _)
  rw [rd_drop]; simp at hj; exact h.pos _ (by omega)
end Go.Proofs.Ytbofjdckmkifaaa
