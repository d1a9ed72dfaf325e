/-
  The cells of a range, in their order, as plain lists: the next cell is the next place that lies in the range. No program in sight. No condition.
-/
import Derived.Test.YtbofjdckmkifaaaS13
namespace Go.Proofs.Ytbofjdckmkifaaa

theorem plc_mono {sz x y : List Int} {k l : Nat} (hp : ∀ k, k < sz.length → 1 ≤ rd sz k) (hl : l ≤ sz.length) (hkl : k ≤ l) (h : plc sz x k ≤ plc sz y k) (hc : ∀ i, k ≤ i → i < l → rd x i ≤ rd y i) : plc sz x l ≤ plc sz y l := by
  induction l with
  | zero => have : k = 0 := by omega
            subst this; exact h
  | succ l ih =>
    by_cases e : k = l + 1
    · subst e; exact h
    · have h1 := ih (by omega) (by omega) (fun i h1 h2 => hc i h1 (by omega))
      have h2 := hc l (by omega) (by omega)
      have h3 := Int.mul_le_mul_of_nonneg_right h1 (show 0 ≤ rd sz l by have := hp l (by omega); omega)
      simp only [plc]; omega
/-- a place ahead stays ahead -/
theorem plc_ahead {sz x y : List Int} {k l : Nat} (hp : ∀ k, k < sz.length → 1 ≤ rd sz k) (hl : l ≤ sz.length) (hkl : k ≤ l) (h : plc sz x k < plc sz y k) (hx : ∀ i, i < l → rd x i < rd sz i) (hy : ∀ i, i < l → 0 ≤ rd y i) : plc sz x l < plc sz y l := by
  induction l with
  | zero => have : k = 0 := by omega
            subst this; exact h
  | succ l ih =>
    by_cases e : k = l + 1
    · subst e; exact h
    · have h1 := ih (by omega) (by omega) (fun i hi => hx i (by omega)) (fun i hi => hy i (by omega))
      have h2 := hx l (by omega)
      have h3 := hy l (by omega)
      have h4 := Int.mul_le_mul_of_nonneg_right (show plc sz x l + 1 ≤ plc sz y l by omega) (show 0 ≤ rd sz l by have := hp l (by omega); omega)
      rw [Int.add_mul] at h4
      simp only [plc]; omega
theorem okc_of {sz c : List Int} {l : Nat} (h : ∀ k, k < l → 0 ≤ rd c k ∧ rd c k < rd sz k) : okc sz c l = true := by
  induction l with
  | zero => rfl
  | succ l ih => simp [okc, ih (fun k hk => h k (by omega)), h l (by omega)]
theorem pr_mul_suf (sz : List Int) (k : Nat) (h : k ≤ sz.length) : pr sz sz.length = pr sz k * suf sz k := by rw [pr_all, pr_suf sz k h]
/-- the place, k numbers in, of the cell of a place -/
theorem plc_cellL {sz : List Int} (hp : ∀ k, k < sz.length → 1 ≤ rd sz k) {n : Int} (h0 : 0 ≤ n) (h1 : n < suf sz 0) {k : Nat} (hk : k ≤ sz.length) : plc sz (cellL sz n) k = n / suf sz k := by
  induction k with
  | zero => simp only [plc]; rw [Int.ediv_eq_zero_of_lt h0 h1]
  | succ k ih =>
    simp only [plc]
    rw [ih (by omega), rd_cellL _ _ (by omega)]
    unfold dig
    have e := suf_step sz (show k < sz.length by omega)
    have e2 : n / suf sz k = n / suf sz (k + 1) / rd sz k := by
      rw [Int.ediv_ediv_of_nonneg (by have := suf_pos hp (k + 1); omega), e, Int.mul_comm]
    rw [e2, Int.mul_comm]
    exact Int.mul_ediv_add_emod (n / suf sz (k + 1)) (rd sz k)
theorem cellL_bd {sz : List Int} (hp : ∀ k, k < sz.length → 1 ≤ rd sz k) (n : Int) {k : Nat} (hk : k < sz.length) : 0 ≤ rd (cellL sz n) k ∧ rd (cellL sz n) k < rd sz k := by
  rw [rd_cellL _ _ hk]
  have := hp k hk
  exact ⟨Int.emod_nonneg _ (by omega), Int.emod_lt_of_pos _ (by omega)⟩
/-- the cell of the place of a cell -/
theorem cellL_plc {sz c : List Int} (hp : ∀ k, k < sz.length → 1 ≤ rd sz k) (hl : c.length = sz.length) (hc : okc sz c sz.length = true) : cellL sz (plc sz c sz.length) = c := by
  have hb := plc_lt hp (Nat.le_refl _) hc
  rw [pr_all] at hb
  have key : ∀ d k, sz.length - k = d → k ≤ sz.length → plc sz c k = plc sz c sz.length / suf sz k := by
    intro d
    induction d with
    | zero => intro k hd hk; obtain rfl : k = sz.length := by omega
              rw [suf_end sz (Nat.le_refl _), Int.ediv_one]
    | succ d ih =>
      intro k hd hk
      have hlt : k < sz.length := by omega
      have h1 := ih (k + 1) (by omega) (by omega)
      have hs := hp k hlt
      have hck := okc_at hc hlt
      have e := suf_step sz hlt
      rw [e, Int.mul_comm, ← Int.ediv_ediv_of_nonneg (by have := suf_pos hp (k + 1); omega), ← h1]
      simp only [plc]
      rw [Int.add_ediv_of_dvd_left (Int.dvd_mul_left _ _), Int.mul_ediv_cancel _ (by omega), Int.ediv_eq_zero_of_lt hck.1 hck.2, Int.add_zero]
  refine ext_rd (by simp [hl]) fun j hj => ?_
  simp only [cellL_length] at hj
  rw [rd_cellL _ _ hj]
  unfold dig
  rw [← key _ (j + 1) rfl (by omega)]
  have hck := okc_at hc hj
  simp only [plc]
  rw [Int.add_comm, Int.add_mul_emod_self_right, Int.emod_eq_of_lt hck.1 hck.2]

theorem withinB_at {c low high : List Int} {l : Nat} : withinB c low high l = true ↔ ∀ k, k < l → rd low k ≤ rd c k ∧ rd c k ≤ rd high k := by
  induction l with
  | zero => simp [withinB]
  | succ l ih =>
    simp only [withinB, Bool.and_eq_true, decide_eq_true_eq, ih]
    constructor
    · rintro ⟨h1, h2, h3⟩ k hk
      by_cases e : k = l
      · subst e; exact ⟨h2, h3⟩
      · exact h1 k (by omega)
    · intro h; exact ⟨fun k hk => h k (by omega), (h l (by omega)).1, (h l (by omega)).2⟩
theorem leB_at {low high : List Int} {l : Nat} : leB low high l = true ↔ ∀ k, k < l → rd low k ≤ rd high k := by
  induction l with
  | zero => simp [leB]
  | succ l ih =>
    simp only [leB, Bool.and_eq_true, decide_eq_true_eq, ih]
    constructor
    · rintro ⟨h1, h2⟩ k hk
      by_cases e : k = l
      · subst e; exact h2
      · exact h1 k (by omega)
    · intro h; exact ⟨fun k hk => h k (by omega), h l (by omega)⟩

/-- the places of the range among the first n -/
def hits (sz low high : List Int) (n : Nat) : List Nat := (List.range n).filter (hitB sz low high)
theorem hits_hit {sz low high : List Int} {p : Nat} (h : hitB sz low high p = true) : hits sz low high (p + 1) = hits sz low high p ++ [p] := by
  simp [hits, List.range_succ, h]
theorem hits_skip {sz low high : List Int} {p q : Nat} (hpq : p ≤ q) (h : ∀ r, p ≤ r → r < q → hitB sz low high r = false) : hits sz low high q = hits sz low high p := by
  induction q with
  | zero => have : p = 0 := by omega
            subst this; rfl
  | succ q ih =>
    by_cases e : p = q + 1
    · subst e; rfl
    · rw [← ih (by omega) (fun r h1 h2 => h r h1 (by omega))]
      simp [hits, List.range_succ, h q (by omega) (by omega)]
/-- the cell when the numbers from k on were turned back -/
def odo (c low : List Int) (k : Nat) : List Int := (List.range c.length).map fun j => if j < k then rd c j else rd low j
/-- .. and the number before them is raised -/
def nxt (c low : List Int) (k : Nat) : List Int := (odo c low (k + 1)).set k (rd c k + 1)
@[simp] theorem odo_length (c low : List Int) (k : Nat) : (odo c low k).length = c.length := by simp [odo]
@[simp] theorem nxt_length (c low : List Int) (k : Nat) : (nxt c low k).length = c.length := by simp [nxt]
theorem rd_odo (c low : List Int) (k j : Nat) (h : j < c.length) : rd (odo c low k) j = if j < k then rd c j else rd low j := rd_map_range _ _ _ h
theorem odo_all (c low : List Int) : odo c low c.length = c := by
  refine ext_rd (by simp) fun j hj => ?_
  simp at hj
  rw [rd_odo _ _ _ _ hj, if_pos hj]
theorem odo_step (c low : List Int) (k : Nat) (h : k < c.length) : (odo c low (k + 1)).set k (rd low k) = odo c low k := by
  refine ext_rd (by simp) fun j hj => ?_
  simp at hj
  rw [rd_set _ _ _ _ (by simpa using h), rd_odo _ _ _ _ hj, rd_odo _ _ _ _ hj]
  by_cases e : k = j
  · subst e; simp
  · by_cases e2 : j < k
    · simp [e, e2, show j < k + 1 by omega]
    · simp [e, e2, show ¬ j < k + 1 by omega]
theorem rd_nxt (c low : List Int) (k j : Nat) (hk : k < c.length) (h : j < c.length) : rd (nxt c low k) j = if j < k then rd c j else if j = k then rd c j + 1 else rd low j := by
  rw [nxt, rd_set _ _ _ _ (by simpa using hk), rd_odo _ _ _ _ h]
  by_cases e : k = j
  · subst e; simp
  · by_cases e2 : j < k
    · simp [e, e2, show j < k + 1 by omega]
    · simp [e, e2, show ¬ j < k + 1 by omega, show ¬ j = k by omega]
section
variable {sz cs low high : List Int}
theorem may_facts (h : mayB sz low high = true) : low.length = sz.length ∧ high.length = sz.length ∧ okc sz low sz.length = true ∧ okc sz high sz.length = true ∧ ∀ k, k < sz.length → rd low k ≤ rd high k := by
  simp only [mayB, isCell, Bool.and_eq_true, decide_eq_true_eq] at h
  obtain ⟨⟨⟨h1, h2⟩, h3, h4⟩, h5⟩ := h
  rw [h1] at h2 h5; rw [h3] at h4
  exact ⟨h1, h3, h2, h4, leB_at.1 h5⟩
theorem suf0_len (hwf : Wf sz cs) : suf sz 0 = cs.length := by rw [← pr_all, hwf.len]
/-- the places of the cells of a place -/
theorem plc_of (hwf : Wf sz cs) {q : Nat} (hq : q < cs.length) : plc sz (cellL sz q) sz.length = q := by
  rw [plc_cellL hwf.pos (by omega) (by rw [suf0_len hwf]; omega) (Nat.le_refl _), suf_end sz (Nat.le_refl _), Int.ediv_one]
theorem hit_iff {q : Nat} : hitB sz low high q = true ↔ ∀ k, k < sz.length → rd low k ≤ rd (cellL sz q) k ∧ rd (cellL sz q) k ≤ rd high k := withinB_at
/-- the first place -/
theorem first_hit (hwf : Wf sz cs) (hm : mayB sz low high = true) : ∃ p : Nat, plc sz low sz.length = p ∧ p < cs.length ∧ cellL sz p = low ∧ hitB sz low high p = true ∧ hits sz low high p = [] := by
  obtain ⟨l1, l2, o1, o2, hle⟩ := may_facts hm
  have hb := plc_lt hwf.pos (Nat.le_refl _) o1
  rw [← hwf.len] at hb
  obtain ⟨p, hp⟩ := Int.eq_ofNat_of_zero_le hb.1
  have hc : cellL sz p = low := by rw [← hp]; exact cellL_plc hwf.pos l1 o1
  refine ⟨p, hp, by omega, hc, ?_, ?_⟩
  · rw [hit_iff, hc]; exact fun k hk => ⟨Int.le_refl _, hle k hk⟩
  · have := hits_skip (sz := sz) (low := low) (high := high) (p := 0) (q := p) (Nat.zero_le _) (fun r _ hr => by
      cases hh : hitB sz low high r with
      | false => rfl
      | true =>
        have h1 := hit_iff.1 hh
        have := plc_mono (x := low) (y := cellL sz r) (k := 0) hwf.pos (Nat.le_refl _) (Nat.zero_le _) (by simp [plc]) (fun i _ hi => (h1 i hi).1)
        rw [plc_of hwf (by omega), hp] at this
        omega)
    rw [this]; rfl
/-- no place behind the last one -/
theorem last_hit (hwf : Wf sz cs) {p : Nat} (hp : p < cs.length) (hend : ∀ j, j < sz.length → rd (cellL sz p) j = rd high j) : hits sz low high cs.length = hits sz low high (p + 1) := by
  refine hits_skip (by omega) fun r h1 h2 => ?_
  cases hh : hitB sz low high r with
  | false => rfl
  | true =>
    have h := hit_iff.1 hh
    have := plc_mono (x := cellL sz r) (y := cellL sz p) (k := 0) hwf.pos (Nat.le_refl _) (Nat.zero_le _) (by simp [plc]) (fun i _ hi => by rw [hend i hi]; exact (h i hi).2)
    rw [plc_of hwf h2, plc_of hwf hp] at this
    omega
/-- the next place -/
theorem next_hit (hwf : Wf sz cs) (hm : mayB sz low high = true) {p j : Nat} (hp : p < cs.length) (hh : hitB sz low high p = true) (hj : j < sz.length) (hend : ∀ i, j < i → i < sz.length → rd (cellL sz p) i = rd high i)
    (hne : rd (cellL sz p) j ≠ rd high j) : ∃ q : Nat, placeV sz (nxt (cellL sz p) low j) = q ∧ q < cs.length ∧ cellL sz q = nxt (cellL sz p) low j ∧ hitB sz low high q = true ∧ hits sz low high q = hits sz low high (p + 1) ∧ p < q := by
  obtain ⟨l1, l2, o1, o2, hle⟩ := may_facts hm
  have h := hit_iff.1 hh
  have hn : ∀ i, i < sz.length → rd (nxt (cellL sz p) low j) i = if i < j then rd (cellL sz p) i else if i = j then rd (cellL sz p) i + 1 else rd low i := fun i hi => rd_nxt _ _ _ _ (by simpa using hj) (by simpa using hi)
  have hw : ∀ i, i < sz.length → rd low i ≤ rd (nxt (cellL sz p) low j) i ∧ rd (nxt (cellL sz p) low j) i ≤ rd high i := by
    intro i hi
    have h1 := h i hi
    have h2 := hle i hi
    rw [hn i hi]
    split
    · exact h1
    · split
      · rename_i e; subst e; omega
      · omega
  have hok : okc sz (nxt (cellL sz p) low j) sz.length = true := okc_of fun i hi => by
    have h1 := hw i hi
    have h2 := okc_at o1 hi
    have h3 := okc_at o2 hi
    omega
  have hb := plc_lt hwf.pos (Nat.le_refl _) hok
  rw [← hwf.len] at hb
  obtain ⟨q, hq⟩ := Int.eq_ofNat_of_zero_le hb.1
  have hlen : (nxt (cellL sz p) low j).length = sz.length := by simp
  have hc : cellL sz q = nxt (cellL sz p) low j := by rw [← hq]; exact cellL_plc hwf.pos hlen hok
  have hpl : placeV sz (nxt (cellL sz p) low j) = q := by
    have : isCell sz (nxt (cellL sz p) low j) = true := by simp only [isCell, hlen, hok, decide_true, Bool.and_self]
    rw [placeV, if_pos this, hlen, hq]
  have epre : plc sz (nxt (cellL sz p) low j) j = plc sz (cellL sz p) j := by
    apply Int.le_antisymm
    · exact plc_mono (k := 0) hwf.pos (by omega) (Nat.zero_le _) (by simp [plc]) (fun i _ hi => by rw [hn i (by omega), if_pos hi]; exact Int.le_refl _)
    · exact plc_mono (k := 0) hwf.pos (by omega) (Nat.zero_le _) (by simp [plc]) (fun i _ hi => by rw [hn i (by omega), if_pos hi]; exact Int.le_refl _)
  have ej : plc sz (nxt (cellL sz p) low j) (j + 1) = plc sz (cellL sz p) (j + 1) + 1 := by
    simp only [plc]; rw [epre, hn j hj]; simp; omega
  have hpq : p < q := by
    have := plc_ahead (x := cellL sz p) (y := nxt (cellL sz p) low j) (k := j + 1) hwf.pos (Nat.le_refl _) (by omega) (by omega) (fun i hi => (cellL_bd hwf.pos _ hi).2) (fun i hi => by have := okc_at hok hi; omega)
    rw [plc_of hwf hp, hq] at this
    omega
  refine ⟨q, hpl, by omega, hc, by rw [hit_iff, hc]; exact hw, hits_skip (by omega) fun r h1 h2 => ?_, hpq⟩
  cases hr : hitB sz low high r with
  | false => rfl
  | true =>
    exfalso
    have hrl : r < cs.length := by omega
    have g := hit_iff.1 hr
    -- r's place, j + 1 numbers in, is not ahead of p's
    have a1 : plc sz (cellL sz p) (j + 1) ≤ plc sz (cellL sz r) (j + 1) := by
      apply Int.not_lt.1
      intro hlt
      have := plc_ahead (x := cellL sz r) (y := cellL sz p) (k := j + 1) hwf.pos (Nat.le_refl _) (by omega) hlt (fun i hi => (cellL_bd hwf.pos _ hi).2) (fun i hi => (cellL_bd hwf.pos _ hi).1)
      rw [plc_of hwf hrl, plc_of hwf hp] at this
      omega
    have a2 : ¬ plc sz (cellL sz r) (j + 1) ≤ plc sz (cellL sz p) (j + 1) := by
      intro hle2
      have := plc_mono (x := cellL sz r) (y := cellL sz p) (k := j + 1) hwf.pos (Nat.le_refl _) (by omega) hle2 (fun i h1 h2 => by rw [hend i (by omega) h2]; exact (g i h2).2)
      rw [plc_of hwf hrl, plc_of hwf hp] at this
      omega
    have := plc_mono (x := nxt (cellL sz p) low j) (y := cellL sz r) (k := j + 1) hwf.pos (Nat.le_refl _) (by omega) (by omega) (fun i h1 h2 => by rw [hn i h2, if_neg (by omega), if_neg (by omega)]; exact (g i h2).1)
    rw [plc_of hwf hrl, hq] at this
    omega
end
/-- the contents when the places of a list were filled -/
def fillBy (cs : List Int) (n : Int) (pre : List Nat) : List Int := (List.range cs.length).map fun i => if i ∈ pre then n else rd cs i
@[simp] theorem fillBy_length (cs : List Int) (n : Int) (pre : List Nat) : (fillBy cs n pre).length = cs.length := by simp [fillBy]
theorem fillBy_nil (cs : List Int) (n : Int) : fillBy cs n [] = cs := by
  refine ext_rd (by simp) fun j hj => ?_
  simp at hj
  rw [fillBy, rd_map_range _ _ _ hj]; simp
theorem fillBy_snoc (cs : List Int) (n : Int) (pre : List Nat) (p : Nat) (hp : p < cs.length) : (fillBy cs n pre).set p n = fillBy cs n (pre ++ [p]) := by
  refine ext_rd (by simp) fun j hj => ?_
  simp at hj
  rw [rd_set _ _ _ _ (by simpa using hp), fillBy, rd_map_range _ _ _ hj, fillBy, rd_map_range _ _ _ hj]
  by_cases e : p = j
  · subst e; simp
  · simp [e, show ¬ j = p by omega]
theorem fillBy_hits (sz cs low high : List Int) (n : Int) : fillBy cs n (hits sz low high cs.length) = fillL sz cs low high n := by
  refine ext_rd (by simp [fillL]) fun j hj => ?_
  simp at hj
  rw [fillBy, rd_map_range _ _ _ hj, fillL, fillT, rd_map_range _ _ _ hj]
  simp [hits, hj]
end Go.Proofs.Ytbofjdckmkifaaa
