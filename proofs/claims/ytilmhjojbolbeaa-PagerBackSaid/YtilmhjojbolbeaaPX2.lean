/-
  What functions of the program compute. No condition beside those that each theorem states.
-/
import Derived.Test.YtilmhjojbolbeaaPX1
import Derived.Test.YtilmhjojbolbeaaPA1
set_option linter.all false

namespace Go.Proofs.Ytilmhjojbolbeaa.AM
open Go
set_option maxRecDepth 100000
/-- may a page be staged -/
def okP (k n : Int) (b : Str) : Prop := (0 ≤ k ∧ k < 5) ∧ (0 ≤ n ∧ n < 1000) ∧ b.length ≤ 230 ∧ (k = 0 → b = [])
theorem staged_tri (k n : Int) (b : Str) : TriS Try.prog 129 [.ag [.i .i64 k, .i .i64 n, .s b]] [] (fun r σ => ∃ v : Bool, (v = true ↔ okP k n b) ∧ r = .b v ∧ σ = []) := by
  refine tri_of TT_ok mixed (OR := OR0) (fn := Try.f129) (c := body Try.f129) (by kernel_rfl) (by kernel_rfl) (by kernel_rfl) (by kernel_rfl) (by simp [Try.f129]) fun H Tri hH hTri => ?_
  have no : ∀ {s : S}, ¬ okP k n b → ∃ r σ', (∃ v : Bool, (v = true ↔ okP k n b) ∧ r = .b v ∧ σ' = []) ∧ closed r σ' = true ∧ sub ⟨[(0, one [.b false])], s.σ, s.nx⟩ ⟨[(0, r)], σ', 100⟩ := fun h => fin_b ⟨false, by simp [h], rfl, rfl⟩
  obtain ⟨Q, hQ⟩ : ∃ Q : Prop, Q = okP k n b := ⟨_, rfl⟩
  rw [← hQ] at no ⊢
  cbv
  split
  · rename_i h1
    simp only [hH, decide_eq_true_eq] at h1
    cbv
    split
    · rename_i h2
      simp only [hH, decide_eq_true_eq] at h2
      cbv
      split
      · rename_i h3
        simp only [hH, decide_eq_true_eq] at h3
        cbv
        split
        · rename_i h4
          simp only [hH, decide_eq_true_eq] at h4
          cbv
          split
          · rename_i h5
            simp only [hH, decide_eq_true_eq] at h5
            have h5 : b.length ≤ 230 := Int.ofNat_le.1 h5
            cbv
            split
            · rename_i h6
              simp only [hH, decide_eq_true_eq] at h6
              cbv
              exact fin_b ⟨true, by rw [hQ]; simp only [true_iff]; exact ⟨⟨h1, h2⟩, ⟨h3, h4⟩, h5, fun h => absurd h h6⟩, rfl, rfl⟩
            · rename_i h6
              simp only [hH, decide_eq_false_iff_not, Decidable.not_not] at h6
              cbv
              rw [hH]
              refine fin_b ⟨decide (b = []), ?_, rfl, rfl⟩
              rw [hQ, decide_eq_true_eq]
              exact ⟨fun h => ⟨⟨h1, h2⟩, ⟨h3, h4⟩, h5, fun _ => h⟩, fun h => h.2.2.2 h6⟩
          · rename_i h5
            simp only [hH, decide_eq_false_iff_not] at h5
            cbv
            exact no (by rw [hQ]; rintro ⟨-, -, h, -⟩; exact h5 (Int.ofNat_le.2 h))
        · rename_i h4
          simp only [hH, decide_eq_false_iff_not] at h4
          cbv
          exact no (by rw [hQ]; rintro ⟨-, h, -, -⟩; exact h4 h.2)
      · rename_i h3
        simp only [hH, decide_eq_false_iff_not] at h3
        cbv
        exact no (by rw [hQ]; rintro ⟨-, h, -, -⟩; exact h3 h.1)
    · rename_i h2
      simp only [hH, decide_eq_false_iff_not] at h2
      cbv
      exact no (by rw [hQ]; rintro ⟨h, -, -, -⟩; exact h2 h.2)
  · rename_i h1
    simp only [hH, decide_eq_false_iff_not] at h1
    cbv
    exact no (by rw [hQ]; rintro ⟨h, -, -, -⟩; exact h1 h.1)
def OR92 : Nat → List (Nat × List Nat)
  | 8 => [(0, []), (1, []), (2, []), (3, []), (4, []), (5, [2, 3]), (6, []), (7, [])]
  | _ => []
def entV (kind tx i k n : Int) (b : Str) (cnt sum : Int) : V := .ag [.i .i64 kind, .i .i64 tx, .i .i64 i, .i .i64 k, .i .i64 n, .s b, .i .i64 cnt, .i .u32 sum]
theorem check_stage (tx i k n : Int) (b : Str) (ht : 1 ≤ tx ∧ tx ≤ 4294967295) (hi : 0 ≤ i ∧ i ≤ 999) :
    TriS Try.prog 92 [entV 1 tx i k n b 0 0] [] (fun r σ => ∃ e : Int, (e = 0 ↔ okP k n b) ∧ r = .i .i64 e ∧ σ = []) := by
  refine tri_of TT_ok mixed (OR := OR92) (fn := Try.f92) (c := body Try.f92) (by kernel_rfl) (by kernel_rfl) (by kernel_rfl) (by kernel_rfl) (by simp [Try.f92]) fun H Tri hH hTri => ?_
  have hst := staged_tri k n b
  obtain ⟨Q, hQ⟩ : ∃ Q : Prop, Q = okP k n b := ⟨_, rfl⟩
  rw [← hQ] at hst ⊢
  cbv
  split
  case h_2 => rename_i h; exact absurd h (by rw [hH]; simp)
  cbv
  split
  case h_2 => rename_i h; exact absurd h (by rw [hH]; simp)
  cbv
  refine ⟨[], ⟨⟨rfl, rfl⟩, rfl⟩, _, _, ?_, ?_, _, hTri _ _ _ _ hst, ?_⟩
  · cbv
  · cbv
  rintro x σ ⟨v, hv, rfl, rfl⟩
  cases v with
  | false =>
    cbv
    exact fin_i ⟨1, by simp at hv ⊢; exact hv, rfl, rfl⟩
  | true =>
    cbv
    split
    case h_1 => rename_i h; simp only [hH, decide_eq_true_eq] at h; omega
    cbv
    split
    case h_1 => rename_i h; simp only [hH, decide_eq_true_eq] at h; have h : 4294967295 < tx := h; omega
    cbv
    split
    case h_1 => rename_i h; simp only [hH, decide_eq_true_eq] at h; omega
    cbv
    split
    case h_1 => rename_i h; simp only [hH, decide_eq_true_eq] at h; have h : 999 < i := h; omega
    cbv
    exact fin_i ⟨0, by simp at hv ⊢; exact hv, rfl, rfl⟩
theorem check_commit (tx i : Int) (sum : Int) (ht : 1 ≤ tx ∧ tx ≤ 4294967295) (hi : 0 < i ∧ i ≤ 999) :
    TriS Try.prog 92 [entV 2 tx i 0 0 [] i sum] [] (fun r σ => r = .i .i64 0 ∧ σ = []) := by
  refine tri_of TT_ok mixed (OR := OR92) (fn := Try.f92) (c := body Try.f92) (by kernel_rfl) (by kernel_rfl) (by kernel_rfl) (by kernel_rfl) (by simp [Try.f92]) fun H Tri hH hTri => ?_
  cbv
  split
  case h_1 => rename_i h; exact absurd h (by rw [hH]; simp)
  cbv
  split
  case h_2 => rename_i h; exact absurd h (by rw [hH]; simp)
  cbv
  split
  case h_2 => rename_i h; exact absurd h (by rw [hH]; simp)
  cbv
  split
  case h_2 => rename_i h; exact absurd h (by rw [hH]; simp; omega)
  cbv
  split
  case h_1 => rename_i h; simp only [hH, decide_eq_true_eq] at h; omega
  cbv
  split
  case h_1 => rename_i h; simp only [hH, decide_eq_true_eq] at h; have h : 4294967295 < tx := h; omega
  cbv
  split
  case h_1 => rename_i h; simp only [hH, decide_eq_true_eq] at h; omega
  cbv
  split
  case h_1 => rename_i h; simp only [hH, decide_eq_true_eq] at h; have h : 999 < i := h; omega
  cbv
  exact fin_i ⟨rfl, rfl⟩
theorem check_abort (tx : Int) (ht : 1 ≤ tx ∧ tx ≤ 4294967295) :
    TriS Try.prog 92 [entV 3 tx 0 0 0 [] 0 0] [] (fun r σ => r = .i .i64 0 ∧ σ = []) := by
  refine tri_of TT_ok mixed (OR := OR92) (fn := Try.f92) (c := body Try.f92) (by kernel_rfl) (by kernel_rfl) (by kernel_rfl) (by kernel_rfl) (by simp [Try.f92]) fun H Tri hH hTri => ?_
  cbv
  split
  case h_1 => rename_i h; exact absurd h (by rw [hH]; simp)
  cbv
  split
  case h_1 => rename_i h; exact absurd h (by rw [hH]; simp)
  cbv
  split
  case h_2 => rename_i h; exact absurd h (by rw [hH]; simp)
  cbv
  split
  case h_2 => rename_i h; exact absurd h (by rw [hH]; simp)
  cbv
  split
  case h_1 => rename_i h; simp only [hH, decide_eq_true_eq] at h; omega
  cbv
  split
  case h_1 => rename_i h; simp only [hH, decide_eq_true_eq] at h; have h : 4294967295 < tx := h; omega
  cbv
  split
  case h_1 => rename_i h; exact absurd h (by rw [hH]; simp)
  cbv
  split
  case h_1 => rename_i h; exact absurd h (by rw [hH]; simp)
  cbv
  exact fin_i ⟨rfl, rfl⟩
end Go.Proofs.Ytilmhjojbolbeaa.AM

namespace Go.Proofs.Ytilmhjojbolbeaa.AM
open Go
set_option maxRecDepth 100000
/-- the head of an entry's bytes -/
def headCol (kind tx i : Int) (j : Int) : Int :=
  putF (fun ix => putF (fun ix => putF (fun _ => 0) 0 1 (IntKind.u32.wrap kind) (hd ix)) 1 4 (IntKind.u32.wrap tx) (hd ix)) 5 2 (IntKind.u32.wrap i) j
def stageCol (tx i k n : Int) (b : Str) (j : Int) : Int :=
  putT (fun ix => putF (fun ix => putF (fun ix => headCol 1 tx i (hd ix)) 7 1 (IntKind.u32.wrap k) (hd ix)) 8 2 (IntKind.u32.wrap n) (hd ix)) 10 b j
def stageF (tx i k n : Int) (b : Str) : Str := bytesOf (10 + b.length) (fun ix => stageCol tx i k n b (hd ix))
def commitCol (tx i sum : Int) (j : Int) : Int :=
  putF (fun ix => putF (fun ix => headCol 2 tx i (hd ix)) 7 2 (IntKind.u32.wrap i) (hd ix)) 9 4 sum j
def commitF (tx i sum : Int) : Str := bytesOf 13 (fun ix => commitCol tx i sum (hd ix))
def abortF (tx : Int) : Str := bytesOf 7 (fun ix => headCol 3 tx 0 (hd ix))
theorem encode_bad (tx i k n : Int) (b : Str) (ht : 1 ≤ tx ∧ tx ≤ 4294967295) (hi : 0 ≤ i ∧ i ≤ 999) (hp : ¬ okP k n b) :
    TriS Try.prog 60 [entV 1 tx i k n b 0 0] [] (fun r σ => ∃ e : Int, r = .tu [.s [], .i .i64 e] ∧ σ = []) := by
  refine tri_of TT_ok mixed (OR := OR0) (fn := Try.f60) (c := body Try.f60) (by kernel_rfl) (by kernel_rfl) (by kernel_rfl) (by kernel_rfl) (by simp [Try.f60]) fun H Tri hH hTri => ?_
  have hc := check_stage tx i k n b ht hi
  obtain ⟨Q, hQ⟩ : ∃ Q : Prop, Q = okP k n b := ⟨_, rfl⟩
  rw [← hQ] at hp hc
  cbv
  refine ⟨[], ⟨⟨rfl, rfl⟩, rfl⟩, _, _, ?_, ?_, _, hTri _ _ _ _ hc, ?_⟩
  · cbv
  · cbv
  rintro x σ ⟨e, he, rfl, rfl⟩
  cbv
  split
  · cbv
    exact fin_si ⟨e, rfl, rfl⟩
  · rename_i h
    simp only [hH, decide_eq_false_iff_not, Decidable.not_not] at h
    exact absurd (he.1 h) hp
theorem encode_stage (tx i k n : Int) (b : Str) (ht : 1 ≤ tx ∧ tx ≤ 4294967295) (hi : 0 ≤ i ∧ i ≤ 999) (hp : okP k n b) :
    TriS Try.prog 60 [entV 1 tx i k n b 0 0] [] (fun r σ => ∃ s, s = stageF tx i k n b ∧ r = .tu [.s s, .i .i64 0] ∧ σ = []) := by
  refine tri_of TT_ok mixed (OR := OR0) (fn := Try.f60) (c := body Try.f60) (by kernel_rfl) (by kernel_rfl) (by kernel_rfl) (by kernel_rfl) (by simp [Try.f60]) fun H Tri hH hTri => ?_
  have hc := check_stage tx i k n b ht hi
  obtain ⟨⟨pk0, pk1⟩, ⟨pn0, pn1⟩, pl, -⟩ := id hp
  obtain ⟨M, hM⟩ : ∃ M : Int, M = 10 + (b.length : Int) := ⟨_, rfl⟩
  have hM1 : IntKind.i64.wrap (10 + (b.length : Int)) = M := by rw [hM]; exact IntWalk.i64_in _ (by omega)
  have hMb : 10 ≤ M ∧ M ≤ 240 := by omega
  have hMt : 0 ≤ (10 : Int) ∧ 10 + (b.length : Int) ≤ M ∧ M ≤ 4096 := by omega
  obtain ⟨Q, hQ⟩ : ∃ Q : Prop, Q = okP k n b := ⟨_, rfl⟩
  rw [← hQ] at hp hc
  cbv
  refine ⟨[], ⟨⟨rfl, rfl⟩, rfl⟩, _, _, ?_, ?_, _, hTri _ _ _ _ hc, ?_⟩
  · cbv
  · cbv
  rintro x σ ⟨e, he, rfl, rfl⟩
  obtain rfl : e = 0 := he.2 hp
  cbv
  split
  case h_1 => rename_i h; exact absurd h (by rw [hH]; simp)
  cbv
  split
  case h_2 => rename_i h; exact absurd h (by rw [hH]; simp)
  cbv
  rw [show H Int (IntKind.i64.wrap (10 + H Int (NatCast.natCast b.length))) = M from by rw [hH, hH]; exact hM1]
  clear hM1
  refine ⟨[], ⟨⟨rfl, rfl⟩, rfl⟩, _, _, ?_, ?_, _, hTri _ _ _ _ (area_new M (by omega)), ?_⟩
  · cbv
  · cbv
  rintro x σ ⟨f0, hf0, rfl, rfl⟩
  cbv
  obtain ⟨q0, hq0⟩ : ∃ q0, q0 = IntKind.u32.wrap 1 := ⟨_, rfl⟩
  rw [show H Int (IntKind.u32.wrap 1) = q0 from by rw [hH, hq0]]
  refine ⟨[221, 222], ⟨⟨rfl, rfl⟩, rfl⟩, _, _, ?_, ?_, _, hTri _ _ _ _ (area_put M 0 1 q0 f0 (by omega) (.inl rfl) (by rw [hq0]; exact small_shr (by omega) (.inl ⟨rfl, by omega⟩))), ?_⟩
  · cbv
  · cbv
  rintro x σ ⟨f1, hf1, rfl, rfl⟩
  cbv
  obtain ⟨q1, hq1⟩ : ∃ q1, q1 = IntKind.u32.wrap tx := ⟨_, rfl⟩
  rw [show H Int (IntKind.u32.wrap tx) = q1 from by rw [hH, hq1]]
  refine ⟨[221, 222], ⟨⟨rfl, rfl⟩, rfl⟩, _, _, ?_, ?_, _, hTri _ _ _ _ (area_put M 1 4 q1 f1 (by omega) (.inr (.inr rfl)) (by rw [hq1]; exact small_shr (by omega) (.inr (.inr ⟨rfl, by omega⟩)))), ?_⟩
  · cbv
  · cbv
  rintro x σ ⟨f2, hf2, rfl, rfl⟩
  cbv
  obtain ⟨q2, hq2⟩ : ∃ q2, q2 = IntKind.u32.wrap i := ⟨_, rfl⟩
  rw [show H Int (IntKind.u32.wrap i) = q2 from by rw [hH, hq2]]
  refine ⟨[221, 222], ⟨⟨rfl, rfl⟩, rfl⟩, _, _, ?_, ?_, _, hTri _ _ _ _ (area_put M 5 2 q2 f2 (by omega) (.inr (.inl rfl)) (by rw [hq2]; exact small_shr (by omega) (.inr (.inl ⟨rfl, by omega⟩)))), ?_⟩
  · cbv
  · cbv
  rintro x σ ⟨f3, hf3, rfl, rfl⟩
  cbv
  split
  case h_2 => rename_i h; exact absurd h (by rw [hH]; simp)
  cbv
  obtain ⟨q3, hq3⟩ : ∃ q3, q3 = IntKind.u32.wrap k := ⟨_, rfl⟩
  rw [show H Int (IntKind.u32.wrap k) = q3 from by rw [hH, hq3]]
  refine ⟨[221, 222], ⟨⟨rfl, rfl⟩, rfl⟩, _, _, ?_, ?_, _, hTri _ _ _ _ (area_put M 7 1 q3 f3 (by omega) (.inl rfl) (by rw [hq3]; exact small_shr (by omega) (.inl ⟨rfl, by omega⟩))), ?_⟩
  · cbv
  · cbv
  rintro x σ ⟨f4, hf4, rfl, rfl⟩
  cbv
  obtain ⟨q4, hq4⟩ : ∃ q4, q4 = IntKind.u32.wrap n := ⟨_, rfl⟩
  rw [show H Int (IntKind.u32.wrap n) = q4 from by rw [hH, hq4]]
  refine ⟨[221, 222], ⟨⟨rfl, rfl⟩, rfl⟩, _, _, ?_, ?_, _, hTri _ _ _ _ (area_put M 8 2 q4 f4 (by omega) (.inr (.inl rfl)) (by rw [hq4]; exact small_shr (by omega) (.inr (.inl ⟨rfl, by omega⟩)))), ?_⟩
  · cbv
  · cbv
  rintro x σ ⟨f5, hf5, rfl, rfl⟩
  cbv
  refine ⟨[221, 222], ⟨⟨rfl, rfl⟩, rfl⟩, _, _, ?_, ?_, _, hTri _ _ _ _ (area_putText M 10 b f5 hMt (by omega)), ?_⟩
  · cbv
  · cbv
  rintro x σ ⟨f6, hf6, rfl, rfl⟩
  cbv
  refine ⟨[221, 222], ⟨⟨rfl, rfl⟩, rfl⟩, _, _, ?_, ?_, _, hTri _ _ _ _ (area_bytes M f6), ?_⟩
  · cbv
  · cbv
  rintro x σ ⟨s1, hs1, rfl, rfl⟩
  cbv
  refine fin_si ⟨s1, ?_, rfl, rfl⟩
  rw [hs1, hM, stageF]
  refine bytesOf_congr fun j _ _ => ?_
  rw [hf6]
  simp only [putT, putF, stageCol, headCol, hf5, hf4, hf3, hf2, hf1, hf0, AM.hd, hq0, hq1, hq2, hq3, hq4]
  rfl
theorem encode_commit (tx i sum : Int) (ht : 1 ≤ tx ∧ tx ≤ 4294967295) (hi : 0 < i ∧ i ≤ 999) (hs : 0 ≤ sum ∧ sum < 4294967296) :
    TriS Try.prog 60 [entV 2 tx i 0 0 [] i sum] [] (fun r σ => ∃ s, s = commitF tx i sum ∧ r = .tu [.s s, .i .i64 0] ∧ σ = []) := by
  refine tri_of TT_ok mixed (OR := OR0) (fn := Try.f60) (c := body Try.f60) (by kernel_rfl) (by kernel_rfl) (by kernel_rfl) (by kernel_rfl) (by simp [Try.f60]) fun H Tri hH hTri => ?_
  have hss : shrF .u64 (IntKind.u64.wrap sum) (8 * 4) = 0 := by
    have := small_shr (v := sum) (w := 4) hs.1 (.inr (.inr ⟨rfl, hs.2⟩))
    rwa [u32_id hs] at this
  cbv
  refine ⟨[], ⟨⟨rfl, rfl⟩, rfl⟩, _, _, ?_, ?_, _, hTri _ _ _ _ (check_commit tx i sum ht hi), ?_⟩
  · cbv
  · cbv
  rintro x σ ⟨rfl, rfl⟩
  cbv
  split
  case h_1 => rename_i h; exact absurd h (by rw [hH]; simp)
  cbv
  split
  case h_1 => rename_i h; exact absurd h (by rw [hH]; simp)
  cbv
  split
  case h_2 => rename_i h; exact absurd h (by rw [hH]; simp)
  cbv
  refine ⟨[], ⟨⟨rfl, rfl⟩, rfl⟩, _, _, ?_, ?_, _, hTri _ _ _ _ (area_new 13 (by omega)), ?_⟩
  · cbv
  · cbv
  rintro x σ ⟨f0, hf0, rfl, rfl⟩
  cbv
  obtain ⟨q0, hq0⟩ : ∃ q0, q0 = IntKind.u32.wrap 2 := ⟨_, rfl⟩
  rw [show H Int (IntKind.u32.wrap 2) = q0 from by rw [hH, hq0]]
  refine ⟨[221, 222], ⟨⟨rfl, rfl⟩, rfl⟩, _, _, ?_, ?_, _, hTri _ _ _ _ (area_put 13 0 1 q0 f0 (by omega) (.inl rfl) (by rw [hq0]; exact small_shr (by omega) (.inl ⟨rfl, by omega⟩))), ?_⟩
  · cbv
  · cbv
  rintro x σ ⟨f1, hf1, rfl, rfl⟩
  cbv
  obtain ⟨q1, hq1⟩ : ∃ q1, q1 = IntKind.u32.wrap tx := ⟨_, rfl⟩
  rw [show H Int (IntKind.u32.wrap tx) = q1 from by rw [hH, hq1]]
  refine ⟨[221, 222], ⟨⟨rfl, rfl⟩, rfl⟩, _, _, ?_, ?_, _, hTri _ _ _ _ (area_put 13 1 4 q1 f1 (by omega) (.inr (.inr rfl)) (by rw [hq1]; exact small_shr (by omega) (.inr (.inr ⟨rfl, by omega⟩)))), ?_⟩
  · cbv
  · cbv
  rintro x σ ⟨f2, hf2, rfl, rfl⟩
  cbv
  obtain ⟨q2, hq2⟩ : ∃ q2, q2 = IntKind.u32.wrap i := ⟨_, rfl⟩
  rw [show H Int (IntKind.u32.wrap i) = q2 from by rw [hH, hq2]]
  refine ⟨[221, 222], ⟨⟨rfl, rfl⟩, rfl⟩, _, _, ?_, ?_, _, hTri _ _ _ _ (area_put 13 5 2 q2 f2 (by omega) (.inr (.inl rfl)) (by rw [hq2]; exact small_shr (by omega) (.inr (.inl ⟨rfl, by omega⟩)))), ?_⟩
  · cbv
  · cbv
  rintro x σ ⟨f3, hf3, rfl, rfl⟩
  cbv
  split
  case h_1 => rename_i h; exact absurd h (by rw [hH]; simp)
  cbv
  split
  case h_2 => rename_i h; exact absurd h (by rw [hH]; simp)
  cbv
  obtain ⟨q3, hq3⟩ : ∃ q3, q3 = IntKind.u32.wrap i := ⟨_, rfl⟩
  rw [show H Int (IntKind.u32.wrap i) = q3 from by rw [hH, hq3]]
  refine ⟨[221, 222], ⟨⟨rfl, rfl⟩, rfl⟩, _, _, ?_, ?_, _, hTri _ _ _ _ (area_put 13 7 2 q3 f3 (by omega) (.inr (.inl rfl)) (by rw [hq3]; exact small_shr (by omega) (.inr (.inl ⟨rfl, by omega⟩)))), ?_⟩
  · cbv
  · cbv
  rintro x σ ⟨f4, hf4, rfl, rfl⟩
  cbv
  refine ⟨[221, 222], ⟨⟨rfl, rfl⟩, rfl⟩, _, _, ?_, ?_, _, hTri _ _ _ _ (area_put 13 9 4 sum f4 (by omega) (.inr (.inr rfl)) (hss)), ?_⟩
  · cbv
  · cbv
  rintro x σ ⟨f5, hf5, rfl, rfl⟩
  cbv
  refine ⟨[221, 222], ⟨⟨rfl, rfl⟩, rfl⟩, _, _, ?_, ?_, _, hTri _ _ _ _ (area_bytes 13 f5), ?_⟩
  · cbv
  · cbv
  rintro x σ ⟨s1, hs1, rfl, rfl⟩
  cbv
  refine fin_si ⟨s1, ?_, rfl, rfl⟩
  rw [hs1, commitF]
  refine bytesOf_congr fun j _ _ => ?_
  rw [hf5]
  simp only [putF, commitCol, headCol, hf4, hf3, hf2, hf1, hf0, AM.hd, hq0, hq1, hq2, hq3]
  rfl
theorem encode_abort (tx : Int) (ht : 1 ≤ tx ∧ tx ≤ 4294967295) :
    TriS Try.prog 60 [entV 3 tx 0 0 0 [] 0 0] [] (fun r σ => ∃ s, s = abortF tx ∧ r = .tu [.s s, .i .i64 0] ∧ σ = []) := by
  refine tri_of TT_ok mixed (OR := OR0) (fn := Try.f60) (c := body Try.f60) (by kernel_rfl) (by kernel_rfl) (by kernel_rfl) (by kernel_rfl) (by simp [Try.f60]) fun H Tri hH hTri => ?_
  cbv
  refine ⟨[], ⟨⟨rfl, rfl⟩, rfl⟩, _, _, ?_, ?_, _, hTri _ _ _ _ (check_abort tx ht), ?_⟩
  · cbv
  · cbv
  rintro x σ ⟨rfl, rfl⟩
  cbv
  split
  case h_1 => rename_i h; exact absurd h (by rw [hH]; simp)
  cbv
  split
  case h_1 => rename_i h; exact absurd h (by rw [hH]; simp)
  cbv
  split
  case h_1 => rename_i h; exact absurd h (by rw [hH]; simp)
  cbv
  refine ⟨[], ⟨⟨rfl, rfl⟩, rfl⟩, _, _, ?_, ?_, _, hTri _ _ _ _ (area_new 7 (by omega)), ?_⟩
  · cbv
  · cbv
  rintro x σ ⟨f0, hf0, rfl, rfl⟩
  cbv
  obtain ⟨q0, hq0⟩ : ∃ q0, q0 = IntKind.u32.wrap 3 := ⟨_, rfl⟩
  rw [show H Int (IntKind.u32.wrap 3) = q0 from by rw [hH, hq0]]
  refine ⟨[221, 222], ⟨⟨rfl, rfl⟩, rfl⟩, _, _, ?_, ?_, _, hTri _ _ _ _ (area_put 7 0 1 q0 f0 (by omega) (.inl rfl) (by rw [hq0]; exact small_shr (by omega) (.inl ⟨rfl, by omega⟩))), ?_⟩
  · cbv
  · cbv
  rintro x σ ⟨f1, hf1, rfl, rfl⟩
  cbv
  obtain ⟨q1, hq1⟩ : ∃ q1, q1 = IntKind.u32.wrap tx := ⟨_, rfl⟩
  rw [show H Int (IntKind.u32.wrap tx) = q1 from by rw [hH, hq1]]
  refine ⟨[221, 222], ⟨⟨rfl, rfl⟩, rfl⟩, _, _, ?_, ?_, _, hTri _ _ _ _ (area_put 7 1 4 q1 f1 (by omega) (.inr (.inr rfl)) (by rw [hq1]; exact small_shr (by omega) (.inr (.inr ⟨rfl, by omega⟩)))), ?_⟩
  · cbv
  · cbv
  rintro x σ ⟨f2, hf2, rfl, rfl⟩
  cbv
  obtain ⟨q2, hq2⟩ : ∃ q2, q2 = IntKind.u32.wrap 0 := ⟨_, rfl⟩
  rw [show H Int (IntKind.u32.wrap 0) = q2 from by rw [hH, hq2]]
  refine ⟨[221, 222], ⟨⟨rfl, rfl⟩, rfl⟩, _, _, ?_, ?_, _, hTri _ _ _ _ (area_put 7 5 2 q2 f2 (by omega) (.inr (.inl rfl)) (by rw [hq2]; exact small_shr (by omega) (.inr (.inl ⟨rfl, by omega⟩)))), ?_⟩
  · cbv
  · cbv
  rintro x σ ⟨f3, hf3, rfl, rfl⟩
  cbv
  split
  case h_1 => rename_i h; exact absurd h (by rw [hH]; simp)
  cbv
  split
  case h_1 => rename_i h; exact absurd h (by rw [hH]; simp)
  cbv
  refine ⟨[221, 222], ⟨⟨rfl, rfl⟩, rfl⟩, _, _, ?_, ?_, _, hTri _ _ _ _ (area_bytes 7 f3), ?_⟩
  · cbv
  · cbv
  rintro x σ ⟨s1, hs1, rfl, rfl⟩
  cbv
  refine fin_si ⟨s1, ?_, rfl, rfl⟩
  rw [hs1, abortF]
  refine bytesOf_congr fun j _ _ => ?_
  rw [hf3]
  simp only [putF, headCol, hf2, hf1, hf0, AM.hd, hq0, hq1, hq2]
  rfl
end Go.Proofs.Ytilmhjojbolbeaa.AM

namespace Go.Proofs.Ytilmhjojbolbeaa.AM
open Go
set_option maxRecDepth 100000
theorem entry_at {col : Int → Int} {M : Int} (h : ∀ j, 0 ≤ col j ∧ col j < 256) {f : Ix → Int} (hf : ∀ j : Int, f [j] = (((bytesOf M fun ix => col (hd ix)).getD j.toNat 0).toNat : Int)) (j : Int) (h0 : 0 ≤ j) (h1 : j < M) : f [j] = col j := by
  have := bytesOf_at (n := M) (f := fun ix => col (hd ix)) (j := j.toNat) (by omega) (h _)
  rw [hf, this]
  simp only [AM.hd, Int.toNat_of_nonneg h0]
theorem headCol_in (kind tx i j : Int) : 0 ≤ headCol kind tx i j ∧ headCol kind tx i j < 256 := by
  unfold headCol
  exact putF_in (f := fun ix => putF (fun ix => putF (fun _ => 0) 0 1 (IntKind.u32.wrap kind) (hd ix)) 1 4 (IntKind.u32.wrap tx) (hd ix)) (putF_in (f := fun ix => putF (fun _ => 0) 0 1 (IntKind.u32.wrap kind) (hd ix)) (putF_in (by simp)))
theorem stageCol_in (tx i k n : Int) (b : Str) (j : Int) : 0 ≤ stageCol tx i k n b j ∧ stageCol tx i k n b j < 256 := by
  unfold stageCol
  exact putT_in (f := fun ix => putF (fun ix => putF (fun ix => headCol 1 tx i (hd ix)) 7 1 (IntKind.u32.wrap k) (hd ix)) 8 2 (IntKind.u32.wrap n) (hd ix)) (putF_in (f := fun ix => putF (fun ix => headCol 1 tx i (hd ix)) 7 1 (IntKind.u32.wrap k) (hd ix)) (putF_in (f := fun ix => headCol 1 tx i (hd ix)) (headCol_in _ _ _ _)))
theorem commitCol_in (tx i sum : Int) (j : Int) : 0 ≤ commitCol tx i sum j ∧ commitCol tx i sum j < 256 := by
  unfold commitCol
  exact putF_in (f := fun ix => putF (fun ix => headCol 2 tx i (hd ix)) 7 2 (IntKind.u32.wrap i) (hd ix)) (putF_in (f := fun ix => headCol 2 tx i (hd ix)) (headCol_in _ _ _ _))
/-- the columns' places -/
theorem head_cols (kind tx i : Int) : headCol kind tx i 0 = IntKind.u8.wrap (shrF .u32 (IntKind.u32.wrap kind) 0) ∧
    (headCol kind tx i 1 = IntKind.u8.wrap (shrF .u32 (IntKind.u32.wrap tx) 24) ∧ headCol kind tx i 2 = IntKind.u8.wrap (shrF .u32 (IntKind.u32.wrap tx) 16) ∧ headCol kind tx i 3 = IntKind.u8.wrap (shrF .u32 (IntKind.u32.wrap tx) 8) ∧ headCol kind tx i 4 = IntKind.u8.wrap (shrF .u32 (IntKind.u32.wrap tx) 0)) ∧
    headCol kind tx i 5 = IntKind.u8.wrap (shrF .u32 (IntKind.u32.wrap i) 8) ∧ headCol kind tx i 6 = IntKind.u8.wrap (shrF .u32 (IntKind.u32.wrap i) 0) := by
  refine ⟨?_, ⟨?_, ?_, ?_, ?_⟩, ?_, ?_⟩ <;> simp [headCol, putF, AM.hd]
theorem head_at {kind tx i : Int} (hk : 0 ≤ kind ∧ kind < 256) (ht : 0 ≤ tx ∧ tx < 4294967296) (hi : 0 ≤ i ∧ i < 65536) {f : Ix → Int} (hf : ∀ j : Int, 0 ≤ j → j < 7 → f [j] = headCol kind tx i j) : f [0] = kind ∧ getF f 1 4 = tx ∧ getF f 5 2 = i := by
  obtain ⟨c0, ⟨c1, c2, c3, c4⟩, c5, c6⟩ := head_cols kind tx i
  rw [u32_id (by omega)] at c0 c1 c2 c3 c4 c5 c6
  refine ⟨?_, getF_4 ht ((hf 1 (by omega) (by omega)).trans c1) ((hf 2 (by omega) (by omega)).trans c2) ((hf 3 (by omega) (by omega)).trans c3) ((hf 4 (by omega) (by omega)).trans c4), getF_2 hi ((hf 5 (by omega) (by omega)).trans c5) ((hf 6 (by omega) (by omega)).trans c6)⟩
  rw [hf 0 (by omega) (by omega), c0, (shr_div hk.1).1, u8_mod]; omega
theorem putF_no {f : Ix → Int} {at' w v j : Int} (h : ¬ (at' ≤ j ∧ j < at' + w)) : putF f at' w v j = f [j] := if_neg h
theorem putT_no {f : Ix → Int} {at' : Int} {s : Str} {j : Int} (h : ¬ (at' ≤ j ∧ j < at' + s.length)) : putT f at' s j = f [j] := if_neg h
theorem stage_head (tx i k n : Int) (b : Str) {j : Int} (h1 : j < 7) : stageCol tx i k n b j = headCol 1 tx i j := by
  unfold stageCol
  exact (putT_no (by omega)).trans ((putF_no (j := j) (by omega)).trans (putF_no (j := j) (by omega)))
theorem stage_cols (tx i k n : Int) (b : Str) : stageCol tx i k n b 7 = IntKind.u8.wrap (shrF .u32 (IntKind.u32.wrap k) 0) ∧ stageCol tx i k n b 8 = IntKind.u8.wrap (shrF .u32 (IntKind.u32.wrap n) 8) ∧ stageCol tx i k n b 9 = IntKind.u8.wrap (shrF .u32 (IntKind.u32.wrap n) 0) := by
  refine ⟨?_, ?_, ?_⟩ <;> simp [stageCol, putT, putF, AM.hd]
theorem commit_head (tx i sum : Int) {j : Int} (h1 : j < 7) : commitCol tx i sum j = headCol 2 tx i j := by
  unfold commitCol
  exact (putF_no (by omega)).trans (putF_no (j := j) (by omega))
theorem commit_cols (tx i sum : Int) : (commitCol tx i sum 7 = IntKind.u8.wrap (shrF .u32 (IntKind.u32.wrap i) 8) ∧ commitCol tx i sum 8 = IntKind.u8.wrap (shrF .u32 (IntKind.u32.wrap i) 0)) ∧ commitCol tx i sum 9 = IntKind.u8.wrap (shrF .u32 sum 24) ∧ commitCol tx i sum 10 = IntKind.u8.wrap (shrF .u32 sum 16) ∧ commitCol tx i sum 11 = IntKind.u8.wrap (shrF .u32 sum 8) ∧ commitCol tx i sum 12 = IntKind.u8.wrap (shrF .u32 sum 0) := by
  refine ⟨⟨?_, ?_⟩, ?_, ?_, ?_, ?_⟩ <;> simp [commitCol, putF, AM.hd]
theorem stage_len (tx i k n : Int) (b : Str) : (stageF tx i k n b).length = 10 + b.length := by rw [stageF, bytesOf_length]; omega
theorem stage_drop (tx i k n : Int) (b : Str) : (stageF tx i k n b).drop 10 = b := by
  apply List.ext_getElem?
  intro j
  rw [List.getElem?_drop]
  by_cases hj : j < b.length
  · have hl : 10 + j < (10 + (b.length : Int)).toNat := by omega
    have h1 : (stageF tx i k n b)[10 + j]? = some (UInt8.ofNat (stageCol tx i k n b ((10 + j : Nat) : Int)).toNat) := by
      rw [stageF, bytesOf, List.getElem?_map, List.getElem?_range hl]; rfl
    have h2 : stageCol tx i k n b ((10 + j : Nat) : Int) = ((b.getD j 0).toNat : Int) := by
      unfold stageCol putT
      rw [if_pos ⟨by omega, by omega⟩, show (((10 + j : Nat) : Int) - 10).toNat = j by omega]
    rw [h1, h2, Int.toNat_natCast, UInt8.ofNat_toNat, List.getD_eq_getElem?_getD, List.getElem?_eq_getElem hj]
    rfl
  · rw [List.getElem?_eq_none (by rw [stage_len]; omega), List.getElem?_eq_none (by omega)]
theorem least_tri (kd v : Int) (h : (kd = 1 ∧ v = 10) ∨ (kd = 2 ∧ v = 13) ∨ (kd = 3 ∧ v = 7)) : TriS Try.prog 135 [.i .i64 kd] [] (fun r σ => r = .i .i64 v ∧ σ = []) := by
  rcases h with ⟨rfl, rfl⟩ | ⟨rfl, rfl⟩ | ⟨rfl, rfl⟩
  all_goals
    refine tri_of TT_ok mixed (OR := OR0) (fn := Try.f135) (c := body Try.f135) (by kernel_rfl) (by kernel_rfl) (by kernel_rfl) (by kernel_rfl) (by simp [Try.f135]) fun H Tri hH hTri => ?_
  · cbv
    refine ⟨1, ?_⟩
    cbv
    refine ⟨by rw [hH, hH]; rfl, fin_i ⟨rfl, rfl⟩⟩
  · cbv
    refine ⟨2, ?_⟩
    cbv
    refine ⟨by rw [hH, hH]; rfl, fin_i ⟨rfl, rfl⟩⟩
  · cbv
    refine ⟨3, ?_⟩
    cbv
    refine ⟨by rw [hH, hH]; rfl, fin_i ⟨rfl, rfl⟩⟩
theorem get2_tri (n at' w : Int) (f : Ix → Int) (hb : 0 ≤ at' ∧ at' + w ≤ n ∧ n ≤ 4096) (hw : w = 1 ∨ w = 2 ∨ w = 4) :
    TriS Try.prog 136 [.i .i64 at', .i .i64 w, .pt 0 0] ((0, .st [.pt 1 0] 148) :: textS 1 n f) (fun r σ => ∃ v, v = IntKind.i64.wrap (getF f at' w.toNat) ∧ r = .i .i64 v ∧ σ = (0, .st [.pt 1 0] 148) :: textS 1 n f) := by
  refine tri_of TT_ok mixed (OR := OR0) (fn := Try.f136) (c := body Try.f136) (by kernel_rfl) (by kernel_rfl) (by kernel_rfl) (by kernel_rfl) (by simp [Try.f136]) fun H Tri hH hTri => ?_
  cbv
  refine ⟨[1], ⟨⟨rfl, rfl⟩, rfl⟩, _, _, ?_, ?_, _, hTri _ _ _ _ (area_get n at' w f hb hw), ?_⟩
  · cbv
  · cbv
  rintro x σ ⟨v, hv, rfl, rfl⟩
  cbv
  obtain ⟨v1, hv1⟩ : ∃ v1, v1 = IntKind.i64.wrap v := ⟨_, rfl⟩
  rw [hH, ← hv1]
  refine ⟨_, _, ⟨v1, by rw [hv1, hv], rfl, rfl⟩, ?_⟩
  cbv
  simp
def OR109 : Nat → List (Nat × List Nat)
  | 14 => [(0, []), (2, []), (4, []), (5, []), (1, [2, 4, 5]), (3, [4, 5]), (6, []), (7, []), (8, [])]
  | _ => []
theorem decode_stage (tx i k n : Int) (b : Str) (ht : 1 ≤ tx ∧ tx ≤ 4294967295) (hi : 0 ≤ i ∧ i ≤ 999) (hp : okP k n b) :
    TriS Try.prog 109 [.s (stageF tx i k n b)] [] (fun r σ => r = .tu [entV 1 tx i k n b 0 0, .i .i64 0] ∧ σ = []) := by
  refine tri_of TT_ok mixed (OR := OR109) (fn := Try.f109) (c := body Try.f109) (by kernel_rfl) (by kernel_rfl) (by kernel_rfl) (by kernel_rfl) (by simp [Try.f109]) fun H Tri hH hTri => ?_
  have hl := stage_len tx i k n b
  have hdrop := stage_drop tx i k n b
  have henc := encode_stage tx i k n b ht hi hp
  obtain ⟨⟨pk0, pk1⟩, ⟨pn0, pn1⟩, pl, -⟩ := id hp
  have hat : ∀ (f : Ix → Int), (∀ j : Int, f [j] = (((stageF tx i k n b).getD j.toNat 0).toNat : Int)) → ∀ j : Int, 0 ≤ j → j < 10 + (b.length : Int) → f [j] = stageCol tx i k n b j := fun f hf j h0 h1 => entry_at (stageCol_in tx i k n b) hf j h0 h1
  obtain ⟨z, hz⟩ : ∃ z, z = stageF tx i k n b := ⟨_, rfl⟩
  rw [← hz] at hl hat hdrop henc ⊢
  have hfacts : ∀ (f : Ix → Int), (∀ j : Int, f [j] = ((z.getD j.toNat 0).toNat : Int)) → (f [0] = 1 ∧ getF f 1 4 = tx ∧ getF f 5 2 = i) ∧ getF f 7 1 = k ∧ getF f 8 2 = n := fun f hf => by
    have h9 := hat f hf
    obtain ⟨c7, c8, c9⟩ := stage_cols tx i k n b
    rw [u32_id (by omega)] at c7 c8 c9
    exact ⟨head_at (by omega) (by omega) (by omega) (fun j h0 h1 => (h9 j h0 (by omega)).trans (stage_head tx i k n b h1)), getF_1 (by omega) ((h9 7 (by omega) (by omega)).trans c7), getF_2 (by omega) ((h9 8 (by omega) (by omega)).trans c8) ((h9 9 (by omega) (by omega)).trans c9)⟩
  have hzi : (NatCast.natCast z.length : Int) = 10 + b.length := by rw [hl]; rfl
  have hz0 : ((z.getD 0 0).toNat : Int) = 1 := (hfacts (fun ix => ((z.getD (hd ix).toNat 0).toNat : Int)) (fun j => rfl)).1.1
  have hne : z ≠ [] := fun e => by rw [e] at hl; simp at hl; omega
  have hb10 : (10 : Int) + b.length ≤ 240 ∧ (10 : Int) ≤ 10 + b.length := by omega
  obtain ⟨M, hM⟩ : ∃ M : Int, M = 10 + (b.length : Int) := ⟨_, rfl⟩
  rw [← hM] at hzi hb10
  clear hat hM
  cbv
  split
  case h_1 => rename_i h; exact absurd h (by rw [hH]; simp [hne])
  cbv
  refine ⟨by rw [hH]; simp only [hzi]; simp; omega, ?_⟩
  have hkd : H Int (IntKind.i64.wrap (H Int (NatCast.natCast (z.getD (Int.toNat 0) 0).toNat))) = 1 := by
    rw [hH, hH]; exact (congrArg IntKind.i64.wrap hz0).trans (IntWalk.i64_in _ (by omega))
  rw [hkd]
  refine ⟨[], ⟨⟨rfl, rfl⟩, rfl⟩, _, _, ?_, ?_, _, hTri _ _ _ _ (least_tri 1 10 (.inl ⟨rfl, rfl⟩)), ?_⟩
  · cbv
  · cbv
  rintro x σ ⟨rfl, rfl⟩
  cbv
  split
  case h_1 => rename_i h; exact absurd h (by rw [hH]; simp)
  cbv
  split
  case h_1 => rename_i h; simp only [hH, decide_eq_true_eq, hzi] at h; have h : 256 < M := h; omega
  cbv
  split
  case h_1 => rename_i h; simp only [hH, decide_eq_true_eq, hzi] at h; omega
  cbv
  refine ⟨[], ⟨⟨rfl, rfl⟩, rfl⟩, _, _, ?_, ?_, _, hTri _ _ _ _ (area_of z (by omega)), ?_⟩
  · cbv
  · cbv
  rintro x σ ⟨f, hf, rfl, L, hL, rfl⟩
  have hLM : L = M := hL.trans hzi
  clear hL
  obtain ⟨⟨g0, g1, g2⟩, g3, g4⟩ := hfacts f hf
  cbv
  refine ⟨[141, 221], ⟨⟨rfl, rfl⟩, rfl⟩, _, _, ?_, ?_, _, hTri _ _ _ _ (get2_tri L 1 4 f (by omega) (.inr (.inr rfl))), ?_⟩
  · cbv
  · cbv
  rintro x σ ⟨v1, hv1, rfl, rfl⟩
  obtain rfl : v1 = tx := by rw [hv1, show (4 : Int).toNat = 4 from rfl, g1]; exact IntWalk.i64_in _ (by omega)
  cbv
  refine ⟨[141, 221], ⟨⟨rfl, rfl⟩, rfl⟩, _, _, ?_, ?_, _, hTri _ _ _ _ (get2_tri L 5 2 f (by omega) (.inr (.inl rfl))), ?_⟩
  · cbv
  · cbv
  rintro x σ ⟨v2, hv2, rfl, rfl⟩
  obtain rfl : v2 = i := by rw [hv2, show (2 : Int).toNat = 2 from rfl, g2]; exact IntWalk.i64_in _ (by omega)
  cbv
  split
  case h_2 => rename_i h; exact absurd h (by rw [hH]; simp)
  cbv
  have hd0 : H (List UInt8) (List.drop (o0 (some 10)).toNat z) = b := by rw [hH, ← hdrop]; rfl
  have hbd : H Bool (decide (0 ≤ o0 (some 10) ∧ o0 (some 10) ≤ NatCast.natCast z.length)) = true := by rw [hH, hzi]; simp [o0]; omega
  refine ⟨hbd, ?_⟩
  rw [hd0]
  refine ⟨[141, 221], ⟨⟨rfl, rfl⟩, rfl⟩, _, _, ?_, ?_, _, hTri _ _ _ _ (get2_tri L 7 1 f (by omega) (.inl rfl)), ?_⟩
  · cbv
  · cbv
  rintro x σ ⟨v3, hv3, rfl, rfl⟩
  obtain rfl : v3 = k := by rw [hv3, show (1 : Int).toNat = 1 from rfl, g3]; exact IntWalk.i64_in _ (by omega)
  cbv
  refine ⟨⟨⟨hbd, hd0⟩, trivial⟩, ?_⟩
  refine ⟨[141, 221], ⟨⟨rfl, rfl⟩, rfl⟩, _, _, ?_, ?_, _, hTri _ _ _ _ (get2_tri L 8 2 f (by omega) (.inr (.inl rfl))), ?_⟩
  · cbv
  · cbv
  rintro x σ ⟨v4, hv4, rfl, rfl⟩
  obtain rfl : v4 = n := by rw [hv4, show (2 : Int).toNat = 2 from rfl, g4]; exact IntWalk.i64_in _ (by omega)
  cbv
  refine ⟨⟨⟨hbd, hd0⟩, trivial⟩, ?_⟩
  refine ⟨[], ⟨⟨rfl, rfl⟩, rfl⟩, _, _, ?_, ?_, _, hTri _ _ _ _ henc, ?_⟩
  · cbv
  · cbv
  rintro x σ ⟨z1, hz1, rfl, rfl⟩
  obtain rfl : z1 = z := hz1
  cbv
  split
  case h_1 => rename_i h; exact absurd h (by rw [hH]; simp)
  cbv
  split
  case h_1 => rename_i h; exact absurd h (by rw [hH]; simp)
  cbv
  refine ⟨_, _, ⟨rfl, rfl⟩, ?_⟩
  cbv
theorem decode_commit (tx i sum : Int) (ht : 1 ≤ tx ∧ tx ≤ 4294967295) (hi : 0 < i ∧ i ≤ 999) (hs : 0 ≤ sum ∧ sum < 4294967296) :
    TriS Try.prog 109 [.s (commitF tx i sum)] [] (fun r σ => r = .tu [entV 2 tx i 0 0 [] i sum, .i .i64 0] ∧ σ = []) := by
  refine tri_of TT_ok mixed (OR := OR109) (fn := Try.f109) (c := body Try.f109) (by kernel_rfl) (by kernel_rfl) (by kernel_rfl) (by kernel_rfl) (by simp [Try.f109]) fun H Tri hH hTri => ?_
  have hl : (commitF tx i sum).length = 13 := by rw [commitF, bytesOf_length]; rfl
  have henc := encode_commit tx i sum ht hi hs
  obtain ⟨z, hz⟩ : ∃ z, z = commitF tx i sum := ⟨_, rfl⟩
  rw [← hz] at hl henc ⊢
  have hfacts : ∀ (f : Ix → Int), (∀ j : Int, f [j] = ((z.getD j.toNat 0).toNat : Int)) → (f [0] = 2 ∧ getF f 1 4 = tx ∧ getF f 5 2 = i) ∧ getF f 7 2 = i ∧ getF f 9 4 = sum := fun f hf => by
    rw [hz] at hf
    have h9 : ∀ j : Int, 0 ≤ j → j < 13 → f [j] = commitCol tx i sum j := fun j h0 h1 => entry_at (commitCol_in tx i sum) hf j h0 h1
    obtain ⟨⟨c7, c8⟩, c9, c10, c11, c12⟩ := commit_cols tx i sum
    rw [u32_id (by omega)] at c7 c8
    exact ⟨head_at (by omega) (by omega) (by omega) (fun j h0 h1 => (h9 j h0 (by omega)).trans (commit_head tx i sum h1)), getF_2 (by omega) ((h9 7 (by omega) (by omega)).trans c7) ((h9 8 (by omega) (by omega)).trans c8), getF_4 hs ((h9 9 (by omega) (by omega)).trans c9) ((h9 10 (by omega) (by omega)).trans c10) ((h9 11 (by omega) (by omega)).trans c11) ((h9 12 (by omega) (by omega)).trans c12)⟩
  have hzi : (NatCast.natCast z.length : Int) = 13 := by rw [hl]; rfl
  have hz0 : ((z.getD 0 0).toNat : Int) = 2 := (hfacts (fun ix => ((z.getD (hd ix).toNat 0).toNat : Int)) (fun j => rfl)).1.1
  have hne : z ≠ [] := fun e => by rw [e] at hl; simp at hl
  cbv
  split
  case h_1 => rename_i h; exact absurd h (by rw [hH]; simp [hne])
  cbv
  refine ⟨by rw [hH]; simp only [hzi]; simp, ?_⟩
  have hkd : H Int (IntKind.i64.wrap (H Int (NatCast.natCast (z.getD (Int.toNat 0) 0).toNat))) = 2 := by
    rw [hH, hH]; exact (congrArg IntKind.i64.wrap hz0).trans (IntWalk.i64_in _ (by omega))
  rw [hkd]
  refine ⟨[], ⟨⟨rfl, rfl⟩, rfl⟩, _, _, ?_, ?_, _, hTri _ _ _ _ (least_tri 2 13 (.inr (.inl ⟨rfl, rfl⟩))), ?_⟩
  · cbv
  · cbv
  rintro x σ ⟨rfl, rfl⟩
  cbv
  split
  case h_1 => rename_i h; exact absurd h (by rw [hH]; simp)
  cbv
  split
  case h_1 => rename_i h; simp only [hH, decide_eq_true_eq, hzi] at h; omega
  cbv
  split
  case h_1 => rename_i h; simp only [hH, decide_eq_true_eq, hzi] at h; omega
  cbv
  refine ⟨[], ⟨⟨rfl, rfl⟩, rfl⟩, _, _, ?_, ?_, _, hTri _ _ _ _ (area_of z (by omega)), ?_⟩
  · cbv
  · cbv
  rintro x σ ⟨f, hf, rfl, L, hL, rfl⟩
  have hLM : L = 13 := hL.trans hzi
  clear hL
  obtain ⟨⟨g0, g1, g2⟩, g3, g4⟩ := hfacts f hf
  cbv
  refine ⟨[141, 221], ⟨⟨rfl, rfl⟩, rfl⟩, _, _, ?_, ?_, _, hTri _ _ _ _ (get2_tri L 1 4 f (by omega) (.inr (.inr rfl))), ?_⟩
  · cbv
  · cbv
  rintro x σ ⟨v1, hv1, rfl, rfl⟩
  have ev1 : v1 = tx := by rw [hv1, show (4 : Int).toNat = 4 from rfl, g1]; exact IntWalk.i64_in _ (by omega)
  rw [ev1]
  clear ev1 hv1
  cbv
  refine ⟨[141, 221], ⟨⟨rfl, rfl⟩, rfl⟩, _, _, ?_, ?_, _, hTri _ _ _ _ (get2_tri L 5 2 f (by omega) (.inr (.inl rfl))), ?_⟩
  · cbv
  · cbv
  rintro x σ ⟨v2, hv2, rfl, rfl⟩
  have ev2 : v2 = i := by rw [hv2, show (2 : Int).toNat = 2 from rfl, g2]; exact IntWalk.i64_in _ (by omega)
  rw [ev2]
  clear ev2 hv2
  cbv
  split
  case h_1 => rename_i h; exact absurd h (by rw [hH]; simp)
  cbv
  split
  case h_2 => rename_i h; exact absurd h (by rw [hH]; simp)
  cbv
  refine ⟨[141, 221], ⟨⟨rfl, rfl⟩, rfl⟩, _, _, ?_, ?_, _, hTri _ _ _ _ (get2_tri L 7 2 f (by omega) (.inr (.inl rfl))), ?_⟩
  · cbv
  · cbv
  rintro x σ ⟨v3, hv3, rfl, rfl⟩
  have ev3 : v3 = i := by rw [hv3, show (2 : Int).toNat = 2 from rfl, g3]; exact IntWalk.i64_in _ (by omega)
  rw [ev3]
  clear ev3 hv3
  cbv
  refine ⟨[141, 221], ⟨⟨rfl, rfl⟩, rfl⟩, _, _, ?_, ?_, _, hTri _ _ _ _ (get2_tri L 9 4 f (by omega) (.inr (.inr rfl))), ?_⟩
  · cbv
  · cbv
  rintro x σ ⟨v4, hv4, rfl, rfl⟩
  have ev4 : v4 = sum := by rw [hv4, show (4 : Int).toNat = 4 from rfl, g4]; exact IntWalk.i64_in _ (by omega)
  rw [ev4]
  clear ev4 hv4
  cbv
  rw [show H Int (IntKind.u32.wrap sum) = sum from by rw [hH]; exact u32_id hs]
  refine ⟨[], ⟨⟨rfl, rfl⟩, rfl⟩, _, _, ?_, ?_, _, hTri _ _ _ _ (henc), ?_⟩
  · cbv
  · cbv
  rintro x σ ⟨z1, hz1, rfl, rfl⟩
  obtain rfl : z1 = z := hz1
  cbv
  split
  case h_1 => rename_i h; exact absurd h (by rw [hH]; simp)
  cbv
  split
  case h_1 => rename_i h; exact absurd h (by rw [hH]; simp)
  cbv
  refine ⟨_, _, ⟨rfl, rfl⟩, ?_⟩
  cbv
theorem decode_abort (tx : Int) (ht : 1 ≤ tx ∧ tx ≤ 4294967295) :
    TriS Try.prog 109 [.s (abortF tx)] [] (fun r σ => r = .tu [entV 3 tx 0 0 0 [] 0 0, .i .i64 0] ∧ σ = []) := by
  refine tri_of TT_ok mixed (OR := OR109) (fn := Try.f109) (c := body Try.f109) (by kernel_rfl) (by kernel_rfl) (by kernel_rfl) (by kernel_rfl) (by simp [Try.f109]) fun H Tri hH hTri => ?_
  have hl : (abortF tx).length = 7 := by rw [abortF, bytesOf_length]; rfl
  have henc := encode_abort tx ht
  obtain ⟨z, hz⟩ : ∃ z, z = abortF tx := ⟨_, rfl⟩
  rw [← hz] at hl henc ⊢
  have hfacts : ∀ (f : Ix → Int), (∀ j : Int, f [j] = ((z.getD j.toNat 0).toNat : Int)) → (f [0] = 3 ∧ getF f 1 4 = tx ∧ getF f 5 2 = 0) ∧ True := fun f hf => by
    rw [hz] at hf
    have h9 : ∀ j : Int, 0 ≤ j → j < 7 → f [j] = headCol 3 tx 0 j := fun j h0 h1 => entry_at (headCol_in 3 tx 0) hf j h0 h1
    exact ⟨head_at (by omega) (by omega) (by omega) (fun j h0 h1 => h9 j h0 h1), trivial⟩
  have hzi : (NatCast.natCast z.length : Int) = 7 := by rw [hl]; rfl
  have hz0 : ((z.getD 0 0).toNat : Int) = 3 := (hfacts (fun ix => ((z.getD (hd ix).toNat 0).toNat : Int)) (fun j => rfl)).1.1
  have hne : z ≠ [] := fun e => by rw [e] at hl; simp at hl
  cbv
  split
  case h_1 => rename_i h; exact absurd h (by rw [hH]; simp [hne])
  cbv
  refine ⟨by rw [hH]; simp only [hzi]; simp, ?_⟩
  have hkd : H Int (IntKind.i64.wrap (H Int (NatCast.natCast (z.getD (Int.toNat 0) 0).toNat))) = 3 := by
    rw [hH, hH]; exact (congrArg IntKind.i64.wrap hz0).trans (IntWalk.i64_in _ (by omega))
  rw [hkd]
  refine ⟨[], ⟨⟨rfl, rfl⟩, rfl⟩, _, _, ?_, ?_, _, hTri _ _ _ _ (least_tri 3 7 (.inr (.inr ⟨rfl, rfl⟩))), ?_⟩
  · cbv
  · cbv
  rintro x σ ⟨rfl, rfl⟩
  cbv
  split
  case h_1 => rename_i h; exact absurd h (by rw [hH]; simp)
  cbv
  split
  case h_1 => rename_i h; simp only [hH, decide_eq_true_eq, hzi] at h; omega
  cbv
  split
  case h_1 => rename_i h; simp only [hH, decide_eq_true_eq, hzi] at h; omega
  cbv
  refine ⟨[], ⟨⟨rfl, rfl⟩, rfl⟩, _, _, ?_, ?_, _, hTri _ _ _ _ (area_of z (by omega)), ?_⟩
  · cbv
  · cbv
  rintro x σ ⟨f, hf, rfl, L, hL, rfl⟩
  have hLM : L = 7 := hL.trans hzi
  clear hL
  obtain ⟨⟨g0, g1, g2⟩, -⟩ := hfacts f hf
  cbv
  refine ⟨[141, 221], ⟨⟨rfl, rfl⟩, rfl⟩, _, _, ?_, ?_, _, hTri _ _ _ _ (get2_tri L 1 4 f (by omega) (.inr (.inr rfl))), ?_⟩
  · cbv
  · cbv
  rintro x σ ⟨v1, hv1, rfl, rfl⟩
  have ev1 : v1 = tx := by rw [hv1, show (4 : Int).toNat = 4 from rfl, g1]; exact IntWalk.i64_in _ (by omega)
  rw [ev1]
  clear ev1 hv1
  cbv
  refine ⟨[141, 221], ⟨⟨rfl, rfl⟩, rfl⟩, _, _, ?_, ?_, _, hTri _ _ _ _ (get2_tri L 5 2 f (by omega) (.inr (.inl rfl))), ?_⟩
  · cbv
  · cbv
  rintro x σ ⟨v2, hv2, rfl, rfl⟩
  have ev2 : v2 = 0 := by rw [hv2, show (2 : Int).toNat = 2 from rfl, g2]; exact IntWalk.i64_in _ (by omega)
  rw [ev2]
  clear ev2 hv2
  cbv
  split
  case h_1 => rename_i h; exact absurd h (by rw [hH]; simp)
  cbv
  split
  case h_1 => rename_i h; exact absurd h (by rw [hH]; simp)
  cbv
  refine ⟨[], ⟨⟨rfl, rfl⟩, rfl⟩, _, _, ?_, ?_, _, hTri _ _ _ _ (henc), ?_⟩
  · cbv
  · cbv
  rintro x σ ⟨z1, hz1, rfl, rfl⟩
  obtain rfl : z1 = z := hz1
  cbv
  split
  case h_1 => rename_i h; exact absurd h (by rw [hH]; simp)
  cbv
  split
  case h_1 => rename_i h; exact absurd h (by rw [hH]; simp)
  cbv
  refine ⟨_, _, ⟨rfl, rfl⟩, ?_⟩
  cbv
end Go.Proofs.Ytilmhjojbolbeaa.AM

namespace Go.Proofs.Ytilmhjojbolbeaa.AM
open Go
set_option maxRecDepth 100000
/-- the sum of pages -/
def esumF (pk pn : Ix → Int) (pb : Ix → Str) : Nat → Int
  | 0 => 0
  | k + 1 => joinF (esumF pk pn pb k) (sumF (stageF 1 k (pk [(k : Int)]) (pn [(k : Int)]) (pb [(k : Int)]))) ((stageF 1 k (pk [(k : Int)]) (pn [(k : Int)]) (pb [(k : Int)])).length : Int)
theorem esumF_congr {pk pn pk' pn' : Ix → Int} {pb pb' : Ix → Str} : ∀ {m : Nat}, (∀ j : Int, 0 ≤ j → j < m → pk [j] = pk' [j] ∧ pn [j] = pn' [j] ∧ pb [j] = pb' [j]) → esumF pk pn pb m = esumF pk' pn' pb' m
  | 0, _ => rfl
  | k + 1, h => by
    obtain ⟨h1, h2, h3⟩ := h k (by omega) (by omega)
    rw [esumF, esumF, esumF_congr (fun j h0 h1 => h j h0 (by omega)), h1, h2, h3]
theorem esumF_in (pk pn : Ix → Int) (pb : Ix → Str) (m : Nat) : 0 ≤ esumF pk pn pb m ∧ esumF pk pn pb m < 4294967296 := by
  cases m with
  | zero => simp [esumF]
  | succ k => rw [esumF, joinF, xorF]; exact wrapU (k := .u32) (.inr (.inl rfl)) _
theorem entry_sum (m : Int) (pk pn : Ix → Int) (pb : Ix → Str) (full : Bool) (hm : 0 ≤ m ∧ m ≤ 999) (hp : ∀ j : Int, 0 ≤ j → j < m → okP (pk [j]) (pn [j]) (pb [j])) :
    TriS Try.prog 106 [.l m [.i .i64 pk, .i .i64 pn, .s pb] full] [] (fun r σ => ∃ v, v = esumF pk pn pb m.toNat ∧ r = .i .u32 v ∧ σ = []) := by
  refine tri_of TT_ok mixed (OR := OR0) (fn := Try.f106) (c := body Try.f106) (by kernel_rfl) (by kernel_rfl) (by kernel_rfl) (by kernel_rfl) (by simp [Try.f106]) fun H Tri hH hTri => ?_
  cbv
  refine ⟨0, Int × Int, fun a => ⟨[(3, .i .u32 a.2), (8, .l m [.i .i64 pk, .i .i64 pn, .s pb] full), (9, .i .i64 m), (10, .i .i64 a.1)], [], 200⟩, fun a => 0 ≤ a.1 ∧ a.1 ≤ m ∧ a.2 = esumF pk pn pb a.1.toNat, fun a => (m - a.1).toNat, ⟨(0, 0), ⟨by simp, by simp; omega, rfl⟩, ?_⟩, ?_⟩
  · cbv
    cases full <;> simp
  · rintro ⟨i, v⟩ ⟨h0, h1, hv⟩
    simp only at h0 h1 hv
    cbv
    split
    · rename_i h
      simp only [hH, decide_eq_true_eq] at h
      cbv
      simp only [hH, decide_eq_true h]
      have hpi := hp i h0 h
      obtain ⟨k1, hk1⟩ : ∃ k1, k1 = pk [i] := ⟨_, rfl⟩
      obtain ⟨n1, hn1⟩ : ∃ n1, n1 = pn [i] := ⟨_, rfl⟩
      obtain ⟨b1, hb1⟩ : ∃ b1, b1 = pb [i] := ⟨_, rfl⟩
      rw [← hk1, ← hn1, ← hb1] at hpi ⊢
      obtain ⟨-, -, hbl, -⟩ := id hpi
      refine ⟨by simp; omega, [], ⟨⟨rfl, rfl⟩, rfl⟩, _, _, ?_, ?_, _, hTri _ _ _ _ (encode_stage 1 i k1 n1 b1 (by omega) (by omega) hpi), ?_⟩
      · cbv
      · cbv
      rintro x σ ⟨s, hs, rfl, rfl⟩
      have hl : s.length = 10 + b1.length := by rw [hs, stage_len]
      cbv
      refine ⟨[], ⟨⟨rfl, rfl⟩, rfl⟩, _, _, ?_, ?_, _, hTri _ _ _ _ (sum_sum s (by omega)), ?_⟩
      · cbv
      · cbv
      rintro x σ ⟨v1, hv1, rfl, rfl⟩
      cbv
      obtain ⟨L, hL⟩ : ∃ L : Int, L = NatCast.natCast s.length := ⟨_, rfl⟩
      obtain ⟨hL1, hL2, hL3⟩ := castN hL
      rw [hH, ← hL]
      refine ⟨[], ⟨⟨rfl, rfl⟩, rfl⟩, _, _, ?_, ?_, _, hTri _ _ _ _ (sum_join v v1 L (by omega)), ?_⟩
      · cbv
      · cbv
      rintro x σ ⟨v2, hv2, rfl, rfl⟩
      cbv
      have e1 : IntKind.i64.wrap (i + 1) = i + 1 := IntWalk.i64_in _ (by omega)
      obtain ⟨i2, hi2⟩ : ∃ i2, i2 = i + 1 := ⟨_, rfl⟩
      rw [e1, ← hi2, hH]
      refine ⟨(i2, v2), ⟨by simp; omega, by simp; omega, ?_⟩, by simp; omega, ?_⟩
      · simp only
        rw [hv2, hv, hv1, hL1, hs, show i2.toNat = i.toNat + 1 by omega, esumF, Int.toNat_of_nonneg h0, hk1, hn1, hb1]
      · cbv
        cases full <;> simp
    · rename_i h
      simp only [hH, decide_eq_false_iff_not] at h
      have hi : i = m := by omega
      cbv
      exact fin_i ⟨v, by rw [hv, hi], rfl, rfl⟩
end Go.Proofs.Ytilmhjojbolbeaa.AM

namespace Go.Proofs.Ytilmhjojbolbeaa.AM
open Go
set_option maxRecDepth 100000
/-- slices.Backward over what waits -/
theorem back_tri (m k : Int) (wn : Ix → Int) (ws : Ix → Str) :
    TriS Try.prog 112 [.sl 0 0 m 2 false] [(0, .ar k [.i .i64 wn, .s ws] 155)] (fun x σ => x = .fn (.func 137) [.pt 100 0] ∧ σ = [(0, .ar k [.i .i64 wn, .s ws] 155), (100, .st [.sl 0 0 m 2 false] 126)]) := by
  refine tri_of TT_ok mixed (OR := OR0) (fn := Try.f112) (c := body Try.f112) (by kernel_rfl) (by kernel_rfl) (by kernel_rfl) (by kernel_rfl) (by simp [Try.f112]) fun H Tri hH hTri => ?_
  cbv
  refine ⟨_, _, ⟨rfl, rfl⟩, ?_⟩
  cbv
/-- what a round of Read is handed -/
def rdS (l : Nat) (rf : LoopState → Option Code → Obj) (st : LoopState) (pe : Option Code) (vs : List Value) (q : Int) (x : Str) (e : Int) (n : Nat) : Sto :=
  [(n, .rw l rf st pe [.pt (n + 1) 0, .pt (n + 2) 0, .pt (n + 3) 0] vs), (n + 1, .st [.i .i64 q] 3), (n + 2, .st [.s x] 9), (n + 3, .st [.i .i64 e] 25)]
/-- what a round of Read does -/
def rdR (l : Nat) (rf : LoopState → Option Code → Obj) (vs : List Value) (q : Int) (wn : Ix → Int) (ws : Ix → Str) (j : Int) (r : V) (σ : Sto) : Prop :=
  (wn [j] = q ∧ r = .b false ∧ σ = rdS l rf .done (some .ret) vs q (ws [j]) 0 0) ∨ (wn [j] ≠ q ∧ r = .b true ∧ σ = rdS l rf .ready none vs q [] 0 0)
theorem read_it (m k q : Int) (wn : Ix → Int) (ws : Ix → Str) (hm : 0 ≤ m ∧ m ≤ 1000000000000) (l : Nat) (rf : LoopState → Option Code → Obj) (vs : List Value) (J : YSp)
    (hJ : ∀ j, 0 ≤ j → j < m → J [.i .i64 j, .ag [.i .i64 (wn [j]), .s (ws [j])]] (rdS l rf .ready none vs q [] 0 0) (rdR l rf vs q wn ws j)) :
    TriIS Try.prog l J 137 [.fn (.yield l) [], .pt 1 0] ([(0, .ar k [.i .i64 wn, .s ws] 155), (1, .st [.sl 0 0 m 2 false] 126)] ++ rdS l rf .ready none vs q [] 0 2) (fun x σ => x = .tu [] ∧
      ((∃ j, (0 ≤ j ∧ j < m) ∧ wn [j] = q ∧ (∀ j', j < j' → j' < m → wn [j'] ≠ q) ∧ σ = [(0, .ar k [.i .i64 wn, .s ws] 155), (1, .st [.sl 0 0 m 2 false] 126)] ++ rdS l rf .done (some .ret) vs q (ws [j]) 0 2) ∨
       ((∀ j', 0 ≤ j' → j' < m → wn [j'] ≠ q) ∧ σ = [(0, .ar k [.i .i64 wn, .s ws] 155), (1, .st [.sl 0 0 m 2 false] 126)] ++ rdS l rf .ready none vs q [] 0 2))) := by
  refine tri_it TT_ok mixed (OR := OR0) (fn := Try.f137) (c := body Try.f137) (by kernel_rfl) (by kernel_rfl) (by kernel_rfl) (by kernel_rfl) (by simp [Try.f137]) fun H Tri Yl hH hTri hYl => ?_
  cbv
  have e0 : IntKind.i64.wrap (m - 1) = m - 1 := IntWalk.i64_in _ (by omega)
  obtain ⟨m1, hm1⟩ : ∃ m1, m1 = m - 1 := ⟨_, rfl⟩
  rw [e0, ← hm1, hH]
  refine ⟨0, Int, fun a => ⟨[(0, .fn (.yield l) []), (1, .pt 1 0), (3, .i .i64 a)], [(0, .ar k [.i .i64 wn, .s ws] 155), (1, .st [.sl 0 0 m 2 false] 126)] ++ rdS l rf .ready none vs q [] 0 2, 200⟩, fun a => -1 ≤ a ∧ a < m ∧ ∀ j', a < j' → j' < m → wn [j'] ≠ q, fun a => (a + 1).toNat, ⟨m1, ⟨by omega, by omega, fun j' h1 h2 => by omega⟩, ?_⟩, ?_⟩
  · cbv
  · rintro a ⟨ha0, ha, hn⟩
    cbv
    split
    · rename_i h
      simp only [hH, decide_eq_true_eq] at h
      cbv
      simp only [hH, Int.zero_add, decide_eq_true h]
      refine ⟨by simp; omega, [2, 3, 4, 5], ⟨⟨rfl, rfl⟩, rfl⟩, _, _, ?_, ?_, _, hYl _ _ _ (hJ a h ha), ?_⟩
      · cbv
      · cbv
      rintro x σ (⟨hj, rfl, rfl⟩ | ⟨hj, rfl, rfl⟩)
      · cbv
        refine ⟨_, _, ⟨rfl, .inl ⟨a, ⟨h, ha⟩, hj, hn, rfl⟩⟩, ?_⟩
        cbv
      · cbv
        have e1 : IntKind.i64.wrap (a - 1) = a - 1 := IntWalk.i64_in _ (by omega)
        obtain ⟨a1, ha1⟩ : ∃ a1, a1 = a - 1 := ⟨_, rfl⟩
        rw [e1, ← ha1, hH]
        refine ⟨a1, ⟨by omega, by omega, fun j' h1 h2 => ?_⟩, by omega, ?_⟩
        · by_cases e : j' = a
          · subst e; exact hj
          · exact hn j' (by omega) h2
        · cbv
    · rename_i h
      simp only [hH, decide_eq_false_iff_not] at h
      cbv
      refine ⟨_, _, ⟨rfl, .inr ⟨fun j' h1 h2 => hn j' (by omega) h2, rfl⟩⟩, ?_⟩
      cbv
/-- what was written last, of what waits -/
def lastW (wn : Ix → Int) (ws : Ix → Str) (q : Int) : Nat → Option Str
  | 0 => none
  | n + 1 => if wn [(n : Int)] = q then some (ws [(n : Int)]) else lastW wn ws q n
theorem lastW_none {wn : Ix → Int} {ws : Ix → Str} {q : Int} : ∀ {n : Nat}, (∀ j : Int, 0 ≤ j → j < n → wn [j] ≠ q) → lastW wn ws q n = none
  | 0, _ => rfl
  | n + 1, h => by rw [lastW, if_neg (h n (by omega) (by omega)), lastW_none fun j h1 h2 => h j h1 (by omega)]
theorem lastW_at {wn : Ix → Int} {ws : Ix → Str} {q j : Int} : ∀ {n : Nat}, 0 ≤ j → j < n → wn [j] = q → (∀ j' : Int, j < j' → j' < n → wn [j'] ≠ q) → lastW wn ws q n = some (ws [j])
  | 0, h0, h1, _, _ => by omega
  | n + 1, h0, h1, h2, h3 => by
    by_cases e : j = n
    · subst e; rw [lastW, if_pos h2]
    · rw [lastW, if_neg (h3 n (by omega) (by omega)), lastW_at h0 (by omega) h2 fun j' a b => h3 j' a (by omega)]
def OR72 : Nat → List (Nat × List Nat)
  | 8 => [(0, []), (1, []), (2, []), (3, []), (4, []), (5, []), (6, []), (7, []), (8, [])]
  | _ => []
theorem read_tri (n m k r w f u q : Int) (pg : Ix → Str) (wn : Ix → Int) (ws : Ix → Str) (hq : 0 ≤ q ∧ q < n) (hm : 0 ≤ m ∧ m ≤ 1000000000000) (hr : 0 ≤ r ∧ r ≤ 1000000000000) :
    TriS Try.prog 72 [.pt 0 0, .i .i64 q] (diskS 0 1 2 n m k r w f u pg wn ws) (fun x σ => x = .tu [.s ((lastW wn ws q m.toNat).getD (pg [q])), .i .i64 0] ∧ σ = diskS 0 1 2 n m k (r + 1) w f u pg wn ws) := by
  refine tri_of2 TT_ok mixed (OR := OR72) (fn := Try.f72) (c := body Try.f72) (by kernel_rfl) (by kernel_rfl) (by kernel_rfl) (by kernel_rfl) (by simp [Try.f72]) fun H Tri TrI hH hTri hTrI => ?_
  cbv
  refine ⟨[0, 1, 2], ⟨⟨rfl, rfl⟩, rfl⟩, _, _, ?_, ?_, _, hTri _ _ _ _ (has_tri n m k r w f u q pg wn ws), ?_⟩
  · cbv
  · cbv
  rintro x σ ⟨b, rfl, hb, rfl⟩
  obtain rfl : b = true := hb.2 hq
  cbv
  have e1 : IntKind.i64.wrap (r + 1) = r + 1 := IntWalk.i64_in _ (by omega)
  obtain ⟨r1, hr1⟩ : ∃ r1, r1 = r + 1 := ⟨_, rfl⟩
  rw [e1, ← hr1, hH]
  refine ⟨[2], ⟨⟨rfl, rfl⟩, rfl⟩, _, _, ?_, ?_, _, hTri _ _ _ _ (back_tri m k wn ws), ?_⟩
  · cbv
  · cbv
  rintro x σ ⟨rfl, rfl⟩
  cbv
  refine ⟨[3, 4, 5], ?_⟩
  cbv
  intro l rf vs
  refine ⟨fun xs σ R => ∃ j, (0 ≤ j ∧ j < m) ∧ xs = [.i .i64 j, .ag [.i .i64 (wn [j]), .s (ws [j])]] ∧ σ = rdS l rf .ready none vs q [] 0 0 ∧ R = rdR l rf vs q wn ws j, ?_, ?_⟩
  · rintro _ _ _ ⟨j, hj, rfl, rfl, rfl⟩
    refine ⟨0, ?_⟩
    cbv
    split
    · rename_i h
      simp only [hH, decide_eq_true_eq] at h
      cbv
      refine ⟨_, _, Or.inl ⟨h, rfl, rfl⟩, ?_⟩
      cbv
    · rename_i h
      simp only [hH, decide_eq_false_iff_not] at h
      cbv
      refine ⟨_, _, Or.inr ⟨h, rfl, rfl⟩, ?_⟩
      cbv
  · cbv
    refine ⟨[2, 223, 143, 100, 101, 102], ⟨⟨rfl, rfl⟩, rfl⟩, _, _, ?_, ?_, _, hTrI _ _ _ _ _ _ (by kernel_rfl) (read_it m k q wn ws hm l rf vs _ fun j h1 h2 => ⟨j, ⟨h1, h2⟩, rfl, rfl, rfl⟩), ?_⟩
    · cbv
    · cbv
    rintro x σ ⟨rfl, ⟨j, hj, h1, h2, rfl⟩ | ⟨h2, rfl⟩⟩
    · cbv
      refine ⟨_, _, ⟨rfl, rfl⟩, ?_⟩
      rw [lastW_at (j := j) hj.1 (by omega) h1 (fun j' a b => h2 j' a (by omega)), Option.getD_some]
      cbv
    · cbv
      refine ⟨by rw [hH]; simp; exact hq, ?_⟩
      simp only [hH, Int.zero_add]
      refine ⟨_, _, ⟨rfl, rfl⟩, ?_⟩
      rw [lastW_none (fun j' a b => h2 j' a (by omega)), Option.getD_none]
      cbv
end Go.Proofs.Ytilmhjojbolbeaa.AM

namespace Go.Proofs.Ytilmhjojbolbeaa.AM
open Go
set_option maxRecDepth 100000
theorem drop_tri (n m k r w f u : Int) (pg : Ix → Str) (wn : Ix → Int) (ws : Ix → Str) (hm : 0 ≤ m) :
    TriS Try.prog 100 [.pt 0 0] (diskS 0 1 2 n m k r w f u pg wn ws) (fun x σ => ∃ wn' ws', x = .i .i64 m ∧ σ = diskS 0 1 2 n 0 k r w f u pg wn' ws') := by
  refine tri_of TT_ok mixed (OR := OR0) (fn := Try.f100) (c := body Try.f100) (by kernel_rfl) (by kernel_rfl) (by kernel_rfl) (by kernel_rfl) (by simp [Try.f100]) fun H Tri hH hTri => ?_
  cbv
  refine ⟨by rw [hH]; simp [o0]; omega, .i .i64 m, _, ⟨fun ix => bif decide (0 ≤ hd ix ∧ hd ix < 0 + m) then 0 else wn ix, fun ix => bif decide (0 ≤ hd ix ∧ hd ix < 0 + m) then [] else ws ix, rfl, rfl⟩, ?_⟩
  rw [hH, hH]
  cbv
end Go.Proofs.Ytilmhjojbolbeaa.AM

namespace Go.Proofs.Ytilmhjojbolbeaa.AM
open Go
set_option maxRecDepth 100000
def OR63 : Nat → List (Nat × List Nat)
  | 6 => [(0, []), (1, []), (2, []), (3, []), (4, []), (5, []), (6, []), (7, []), (8, []), (9, [])]
  | _ => []
def flushed (pg : Ix → Str) (wn : Ix → Int) (ws : Ix → Str) : Nat → Ix → Str
  | 0 => pg
  | k + 1 => fun ix => bif decide (hd ix = wn [(k : Int)]) then ws [(k : Int)] else flushed pg wn ws k ix
theorem flush_tri (n m k r w f u : Int) (pg : Ix → Str) (wn : Ix → Int) (ws : Ix → Str) (hu : -1 ≤ u ∧ u ≤ 9223372036854775807) (hm : 0 ≤ m ∧ m ≤ 1000000000000) (hf : 0 ≤ f ∧ f ≤ 1000000000000) (hw : ∀ j, 0 ≤ j → j < m → 0 ≤ wn [j] ∧ wn [j] < n) (hu2 : 0 < u ∨ u = -1) :
    TriS Try.prog 63 [.pt 0 0] (diskS 0 1 2 n m k r w f u pg wn ws) (fun x σ => ∃ u' wn' ws', x = .i .i64 m ∧ u' = (if 0 < u then u - 1 else u) ∧ σ = diskS 0 1 2 n 0 k r w (f + 1) u' (flushed pg wn ws m.toNat) wn' ws') := by
  refine tri_of TT_ok mixed (OR := OR63) (fn := Try.f63) (c := body Try.f63) (by kernel_rfl) (by kernel_rfl) (by kernel_rfl) (by kernel_rfl) (by simp [Try.f63]) fun H Tri hH hTri => ?_
  cbv
  refine ⟨[0, 1, 2], ⟨⟨rfl, rfl⟩, rfl⟩, _, _, ?_, ?_, _, hTri _ _ _ _ (step_tri n m k r w f u pg wn ws hu), ?_⟩
  · cbv
  · cbv
  rintro x σ ⟨b, u', rfl, hb, hu', rfl⟩
  obtain rfl : b = true := hb.2 hu2
  cbv
  refine ⟨0, Int × (Ix → Str), fun a => ⟨[(0, .pt 0 0), (15, .sl 2 0 m 2 false), (16, .i .i64 m), (17, .i .i64 a.1)], diskS 0 1 2 n m k r w f u' a.2 wn ws, 200⟩, fun a => 0 ≤ a.1 ∧ a.1 ≤ m ∧ a.2 = flushed pg wn ws a.1.toNat, fun a => (m - a.1).toNat, ⟨(0, pg), ⟨by simp, by simp; omega, rfl⟩, ?_⟩, ?_⟩
  · cbv
  · rintro ⟨q, pq⟩ ⟨hq0, hq, hpq⟩
    simp only at hq0 hq hpq
    cbv
    split
    · rename_i h
      simp only [hH, decide_eq_true_eq] at h
      cbv
      have e1 : IntKind.i64.wrap (q + 1) = q + 1 := IntWalk.i64_in _ (by omega)
      rw [e1]
      simp only [hH, Int.zero_add, decide_eq_true h]
      obtain ⟨q1, hq1⟩ : ∃ q1, q1 = q + 1 := ⟨_, rfl⟩
      obtain ⟨p1, hp1⟩ : ∃ p1 : Ix → Str, p1 = fun ix => bif decide (hd ix = wn [q]) then ws [q] else pq ix := ⟨_, rfl⟩
      rw [← hq1, ← hp1]
      refine ⟨by simp; omega, by simp; exact hw q hq0 h, (q1, p1), ⟨by simp; omega, by simp; omega, ?_⟩, by simp; omega, ?_⟩
      · simp only
        rw [hp1, show q1.toNat = q.toNat + 1 by omega, flushed, ← hpq, Int.toNat_of_nonneg hq0]
      · cbv
    · rename_i h
      simp only [hH, decide_eq_false_iff_not] at h
      have hqm : q = m := by omega
      cbv
      have ef : IntKind.i64.wrap (f + 1) = f + 1 := IntWalk.i64_in _ (by omega)
      obtain ⟨f1, hf1⟩ : ∃ f1, f1 = f + 1 := ⟨_, rfl⟩
      rw [ef, hH, ← hf1]
      refine ⟨[0, 1, 2], ⟨⟨rfl, rfl⟩, rfl⟩, _, _, ?_, ?_, _, hTri _ _ _ _ (drop_tri n m k r w f1 u' pq wn ws hm.1), ?_⟩
      · cbv
      · cbv
      rintro x σ ⟨wn', ws', rfl, rfl⟩
      cbv
      refine ⟨_, _, ⟨u', wn', ws', rfl, hu', rfl⟩, ?_⟩
      rw [← hqm, ← hpq]
      cbv
end Go.Proofs.Ytilmhjojbolbeaa.AM

namespace Go.Proofs.Ytilmhjojbolbeaa.AM
open Go
set_option maxRecDepth 100000
/-- a disk's state, without a fuse -/
structure DK where
  n : Int
  m : Int
  k : Int
  r : Int
  w : Int
  f : Int
  pg : Ix → Str
  wn : Ix → Int
  ws : Ix → Str
def DK.S (D : DK) (d op ow : Nat) : Sto := diskS d op ow D.n D.m D.k D.r D.w D.f (-1) D.pg D.wn D.ws
def DK.at (D : DK) (q : Int) : Str := (lastW D.wn D.ws q D.m.toNat).getD (D.pg [q])
def DK.ok (D : DK) (L : Int) : Prop := ((0 ≤ D.n ∧ D.n ≤ 1000) ∧ (0 ≤ D.m ∧ D.m ≤ L)) ∧ ((0 ≤ D.r ∧ D.r ≤ L) ∧ (0 ≤ D.w ∧ D.w ≤ L) ∧ (0 ≤ D.f ∧ D.f ≤ L)) ∧ ∀ j : Int, 0 ≤ j → j < D.m → 0 ≤ D.wn [j] ∧ D.wn [j] < D.n
/-- a journal on a disk -/
def jouS (j d op ow : Nat) (base size tx : Int) (D : DK) : Sto := (j, .st [.pt d 0, .i .i64 base, .i .i64 size, .i .i64 tx] 159) :: D.S d op ow
theorem lastW_congr {wn wn' : Ix → Int} {ws ws' : Ix → Str} {q : Int} : ∀ {m : Nat}, (∀ j : Int, 0 ≤ j → j < m → wn [j] = wn' [j] ∧ ws [j] = ws' [j]) → lastW wn ws q m = lastW wn' ws' q m
  | 0, _ => rfl
  | m + 1, h => by
    obtain ⟨h1, h2⟩ := h m (by omega) (by omega)
    rw [lastW, lastW, h1, h2, lastW_congr (fun j h0 h1 => h j h0 (by omega))]
/-- a write, as a step of the state -/
def DK.wr (D : DK) (q : Int) (s : Str) : DK := { D with m := D.m + 1, k := D.m + 1, w := D.w + 1, wn := fun ix => bif decide (hd ix < D.m) then D.wn ix else q, ws := fun ix => bif decide (hd ix < D.m) then D.ws ix else s }
theorem DK.wr_at (D : DK) (hm : 0 ≤ D.m) (q : Int) (s : Str) (p : Int) : (D.wr q s).at p = if p = q then s else D.at p := by
  have e : (D.wr q s).m.toNat = D.m.toNat + 1 := by show (D.m + 1).toNat = _; omega
  unfold DK.at
  rw [e, lastW]
  have hmm : ((D.m.toNat : Nat) : Int) = D.m := by omega
  have e1 : (D.wr q s).wn [(D.m.toNat : Int)] = q := by simp [DK.wr, AM.hd, hmm]
  have e2 : (D.wr q s).ws [(D.m.toNat : Int)] = s := by simp [DK.wr, AM.hd, hmm]
  rw [e1, e2]
  by_cases h : p = q
  · rw [if_pos h.symm, if_pos h]; rfl
  · rw [if_neg (fun e => h e.symm), if_neg h]
    rw [lastW_congr (wn' := D.wn) (ws' := D.ws) (fun j h0 h1 => by
      have : j < D.m := by omega
      simp [DK.wr, AM.hd, this])]
    rfl
theorem DK.wr_ok {D : DK} {L : Int} (h : D.ok L) {q : Int} (hq : 0 ≤ q ∧ q < D.n) (s : Str) : (D.wr q s).ok (L + 1) := by
  obtain ⟨⟨h1, h2⟩, ⟨h3, h4, h5⟩, h6⟩ := h
  refine ⟨⟨h1, ?_⟩, ⟨?_, ?_, ?_⟩, fun j j0 j1 => ?_⟩
  · show 0 ≤ D.m + 1 ∧ D.m + 1 ≤ L + 1; omega
  · show 0 ≤ D.r ∧ D.r ≤ L + 1; omega
  · show 0 ≤ D.w + 1 ∧ D.w + 1 ≤ L + 1; omega
  · show 0 ≤ D.f ∧ D.f ≤ L + 1; omega
  · show 0 ≤ (bif decide (j < D.m) then D.wn [j] else q) ∧ (bif decide (j < D.m) then D.wn [j] else q) < D.n
    by_cases e : j < D.m
    · rw [decide_eq_true e]; exact h6 j j0 e
    · rw [decide_eq_false e]; exact hq
theorem flushed_at {pg : Ix → Str} {wn : Ix → Int} {ws : Ix → Str} (q : Int) : ∀ m : Nat, flushed pg wn ws m [q] = (lastW wn ws q m).getD (pg [q])
  | 0 => rfl
  | m + 1 => by
    show (bif decide (q = wn [(m : Int)]) then ws [(m : Int)] else flushed pg wn ws m [q]) = (if wn [(m : Int)] = q then some (ws [(m : Int)]) else lastW wn ws q m).getD (pg [q])
    by_cases h : wn [(m : Int)] = q
    · rw [if_pos h, decide_eq_true h.symm]; rfl
    · rw [if_neg h, decide_eq_false (fun e => h e.symm)]
      exact flushed_at q m
def OR105 : Nat → List (Nat × List Nat)
  | 3 => [(0, []), (1, []), (2, []), (3, []), (4, []), (5, []), (6, []), (7, [])]
  | _ => []
theorem jput {D : DK} {L : Int} (hD : D.ok L) (hL : L ≤ 100000000) {base size tx i : Int} (hb : 0 ≤ base + i ∧ base + i < D.n) (hbb : 0 ≤ base ∧ base ≤ 1000) (hi : 0 ≤ i ∧ i ≤ 999) {kind k n cnt sum : Int} {b s : Str} (hs : 0 < s.length ∧ s.length ≤ 244)
    (henc : TriS Try.prog 60 [entV kind tx i k n b cnt sum] [] (fun r σ => ∃ z, z = s ∧ r = .tu [.s z, .i .i64 0] ∧ σ = [])) :
    TriS Try.prog 105 [.pt 0 0, entV kind 0 i k n b cnt sum] (jouS 0 1 2 3 base size tx D) (fun r σ => ∃ D', D' = D.wr (base + i) (sealF 5 (base + i) s) ∧ r = .tu [] ∧ σ = jouS 0 1 2 100 base size tx D') := by
  refine tri_of TT_ok mixed (OR := OR105) (fn := Try.f105) (c := body Try.f105) (by kernel_rfl) (by kernel_rfl) (by kernel_rfl) (by kernel_rfl) (by simp [Try.f105]) fun H Tri hH hTri => ?_
  obtain ⟨n0, m0, k0, r0, w0, f0, pg0, wn0, ws0⟩ := D
  obtain ⟨⟨dn, dm⟩, ⟨dr, dw, df⟩, dwn⟩ := hD
  simp only at dn dm dr dw df dwn hb
  cbv
  refine ⟨[], ⟨⟨rfl, rfl⟩, rfl⟩, _, _, ?_, ?_, _, hTri _ _ _ _ henc, ?_⟩
  · cbv
  · cbv
  rintro x σ ⟨z, rfl, rfl, rfl⟩
  cbv
  have e1 : IntKind.i64.wrap (base + i) = base + i := IntWalk.i64_in _ (by omega)
  obtain ⟨q, hq⟩ : ∃ q, q = base + i := ⟨_, rfl⟩
  rw [e1, ← hq, hH]
  refine ⟨[], ⟨⟨rfl, rfl⟩, rfl⟩, _, _, ?_, ?_, _, hTri _ _ _ _ (page_seal 5 q z (by omega) (by omega) hs.2), ?_⟩
  · cbv
  · cbv
  rintro x σ ⟨y, hy, rfl, rfl⟩
  cbv
  refine ⟨[1, 2, 3], ⟨⟨rfl, rfl⟩, rfl⟩, _, _, ?_, ?_, _, hTri _ _ _ _ (write_tri n0 m0 k0 r0 w0 f0 (-1) q y pg0 wn0 ws0 (by omega) (by omega) (by rw [hy]; exact seal_len _ _ _) (.inr rfl) (by omega) (by omega)), ?_⟩
  · cbv
  · cbv
  rintro x σ ⟨rfl, u', hu', rfl⟩
  obtain rfl : u' = -1 := by rw [hu', if_neg (by omega)]
  obtain ⟨m1, hm1⟩ : ∃ m1, m1 = m0 + 1 := ⟨_, rfl⟩
  obtain ⟨w1, hw1⟩ : ∃ w1, w1 = w0 + 1 := ⟨_, rfl⟩
  obtain ⟨wn1, hwn1⟩ : ∃ wn1 : Ix → Int, wn1 = fun ix => bif decide (hd ix < m0) then wn0 ix else q := ⟨_, rfl⟩
  obtain ⟨ws1, hws1⟩ : ∃ ws1 : Ix → Str, ws1 = fun ix => bif decide (hd ix < m0) then ws0 ix else y := ⟨_, rfl⟩
  rw [← hm1, ← hw1, ← hwn1, ← hws1]
  cbv
  refine ⟨_, _, ⟨⟨n0, m1, m1, r0, w1, f0, pg0, wn1, ws1⟩, by rw [hm1, hw1, hwn1, hws1, hy, hq]; rfl, rfl, rfl⟩, ?_⟩
  cbv
/-- Flush -/
def DK.fl (D : DK) (D' : DK) : Prop := (D'.n = D.n ∧ D'.m = 0) ∧ (D'.r = D.r ∧ D'.w = D.w ∧ D'.f = D.f + 1) ∧ ∀ q, D'.at q = D.at q
theorem DK.fl_ok {D D' : DK} {L : Int} (h : D.ok L) (hf : D.fl D') : D'.ok (L + 1) := by
  obtain ⟨⟨h1, h2⟩, ⟨h3, h4, h5⟩, h6⟩ := h
  obtain ⟨⟨f1, f2⟩, ⟨f3, f4, f5⟩, f6⟩ := hf
  refine ⟨⟨by omega, by omega⟩, ⟨by omega, by omega, by omega⟩, fun j j0 j1 => by omega⟩
theorem jflush {D : DK} {L : Int} (hD : D.ok L) (hL : L ≤ 100000000) : TriS Try.prog 63 [.pt 0 0] (D.S 0 1 2) (fun r σ => ∃ D', D.fl D' ∧ r = .i .i64 D.m ∧ σ = D'.S 0 1 2) := by
  obtain ⟨n0, m0, k0, r0, w0, f0, pg0, wn0, ws0⟩ := D
  obtain ⟨⟨dn, dm⟩, ⟨dr, dw, df⟩, dwn⟩ := hD
  simp only at dn dm dr dw df dwn
  have h := flush_tri n0 m0 k0 r0 w0 f0 (-1) pg0 wn0 ws0 (by omega) (by omega) (by omega) dwn (.inr rfl)
  refine ⟨h.1, fun X g w vs hX hob hvs => (h.2 X g w vs hX hob hvs).mono ?_⟩
  rintro e w' ⟨r, σ', g', v, ⟨u', wn', ws', rfl, hu', rfl⟩, rest⟩
  obtain rfl : u' = -1 := by rw [hu', if_neg (by omega)]
  exact ⟨_, _, g', v, ⟨⟨n0, 0, k0, r0, w0, f0 + 1, flushed pg0 wn0 ws0 m0.toNat, wn', ws'⟩, ⟨⟨rfl, rfl⟩, ⟨rfl, rfl, rfl⟩, fun q => flushed_at q _⟩, rfl, rfl⟩, rest⟩
/-- Read -/
theorem jread {D : DK} {L q : Int} (hD : D.ok L) (hL : L ≤ 100000000) (hq : 0 ≤ q ∧ q < D.n) : TriS Try.prog 72 [.pt 0 0, .i .i64 q] (D.S 0 1 2) (fun r σ => ∃ D' s, D' = { D with r := D.r + 1 } ∧ s = D.at q ∧ r = .tu [.s s, .i .i64 0] ∧ σ = D'.S 0 1 2) := by
  obtain ⟨n0, m0, k0, r0, w0, f0, pg0, wn0, ws0⟩ := D
  obtain ⟨⟨dn, dm⟩, ⟨dr, dw, df⟩, dwn⟩ := hD
  simp only at dn dm dr dw df dwn hq
  have h := read_tri n0 m0 k0 r0 w0 f0 (-1) q pg0 wn0 ws0 hq (by omega) (by omega)
  refine ⟨h.1, fun X g w vs hX hob hvs => (h.2 X g w vs hX hob hvs).mono ?_⟩
  rintro e w' ⟨r, σ', g', v, ⟨rfl, rfl⟩, rest⟩
  exact ⟨_, _, g', v, ⟨_, _, rfl, rfl, rfl, rfl⟩, rest⟩
end Go.Proofs.Ytilmhjojbolbeaa.AM

namespace Go.Proofs.Ytilmhjojbolbeaa.AM
open Go
set_option maxRecDepth 100000
def OR110 : Nat → List (Nat × List Nat)
  | 1 => [(0, []), (1, []), (2, []), (3, []), (4, []), (5, []), (6, []), (7, []), (8, []), (9, []), (10, []), (11, []), (12, []), (13, []), (14, [13]), (15, [])]
  | 3 => [(0, []), (1, []), (2, []), (3, []), (4, []), (5, []), (6, []), (7, []), (8, []), (9, []), (10, []), (11, []), (12, []), (13, []), (14, []), (15, []), (16, []), (17, [])]
  | 6 => [(0, []), (1, []), (2, []), (3, []), (4, []), (5, []), (6, []), (7, []), (8, []), (9, []), (10, []), (11, []), (12, []), (13, []), (14, []), (15, []), (16, []), (17, []), (18, [13, 14, 15, 16, 17]), (19, [])]
  | _ => []
theorem jget_blank {D : DK} {L : Int} (hD : D.ok L) (hL : L ≤ 100000000) {base size tx i : Int} (hb : 0 ≤ base + i ∧ base + i < D.n) (hbb : 0 ≤ base ∧ base ≤ 1000) (hi : 0 ≤ i ∧ i ≤ 999) (hc : D.at (base + i) = blankF) :
    TriS Try.prog 110 [.pt 0 0, .i .i64 i] (jouS 0 1 2 3 base size tx D) (fun r σ => ∃ D', D' = { D with r := D.r + 1 } ∧ r = .tu [entV 0 0 0 0 0 [] 0 0, .b false] ∧ σ = jouS 0 1 2 3 base size tx D') := by
  refine tri_of TT_ok mixed (OR := OR110) (fn := Try.f110) (c := body Try.f110) (by kernel_rfl) (by kernel_rfl) (by kernel_rfl) (by kernel_rfl) (by simp [Try.f110]) fun H Tri hH hTri => ?_
  have hrd := jread hD hL hb
  obtain ⟨n0, m0, k0, r0, w0, f0, pg0, wn0, ws0⟩ := D
  obtain ⟨c, hcc⟩ : ∃ c, c = DK.at ⟨n0, m0, k0, r0, w0, f0, pg0, wn0, ws0⟩ (base + i) := ⟨_, rfl⟩
  have hob := open_blank
  rw [hc] at hcc
  obtain ⟨z, hz⟩ : ∃ z, z = blankF := ⟨_, rfl⟩
  rw [← hz] at hob hc hcc
  have e1 : IntKind.i64.wrap (base + i) = base + i := IntWalk.i64_in _ (by omega)
  obtain ⟨q, hq⟩ : ∃ q, q = base + i := ⟨_, rfl⟩
  rw [hc] at hrd
  rw [← hq] at hrd e1
  cbv
  rw [show H Int (IntKind.i64.wrap (base + i)) = q from by rw [hH, ← hq, e1]]
  refine ⟨[1, 2, 3], ⟨⟨rfl, rfl⟩, rfl⟩, _, _, ?_, ?_, _, hTri _ _ _ _ hrd, ?_⟩
  · cbv
  · cbv
  rintro x σ ⟨⟨n1, m1, k1, r1, w1, f1, pg1, wn1, ws1⟩, s, hD', rfl, rfl, rfl⟩
  cbv
  refine ⟨[], ⟨⟨rfl, rfl⟩, rfl⟩, _, _, ?_, ?_, _, hTri _ _ _ _ hob, ?_⟩
  · cbv
  · cbv
  rintro x σ ⟨rfl, rfl⟩
  cbv
  split
  case h_1 => rename_i h; exact absurd h (by rw [hH]; simp)
  cbv
  split
  case h_2 => rename_i h; exact absurd h (by rw [hH]; simp)
  cbv
  refine ⟨_, _, ⟨⟨n1, m1, k1, r1, w1, f1, pg1, wn1, ws1⟩, hD', rfl, rfl⟩, ?_⟩
  cbv
theorem jget_seal {D : DK} {L : Int} (hD : D.ok L) (hL : L ≤ 100000000) {base size tx i : Int} (hb : 0 ≤ base + i ∧ base + i < D.n) (hbb : 0 ≤ base ∧ base ≤ 1000) (hi : 0 ≤ i ∧ i ≤ 999) {bs : Str} (hbs : 0 < bs.length ∧ bs.length ≤ 244) (hc : D.at (base + i) = sealF 5 (base + i) bs) {kind tx' k n cnt sum : Int} {b : Str}
    (hdec : TriS Try.prog 109 [.s bs] [] (fun r σ => r = .tu [entV kind tx' i k n b cnt sum, .i .i64 0] ∧ σ = [])) :
    TriS Try.prog 110 [.pt 0 0, .i .i64 i] (jouS 0 1 2 3 base size tx D) (fun r σ => ∃ D' v, D' = { D with r := D.r + 1 } ∧ (v = true ↔ tx' = tx) ∧ r = .tu [entV kind tx' i k n b cnt sum, .b v] ∧ σ = jouS 0 1 2 3 base size tx D') := by
  refine tri_of TT_ok mixed (OR := OR110) (fn := Try.f110) (c := body Try.f110) (by kernel_rfl) (by kernel_rfl) (by kernel_rfl) (by kernel_rfl) (by simp [Try.f110]) fun H Tri hH hTri => ?_
  have hrd := jread hD hL hb
  have hn1 : D.n ≤ 1000 := hD.1.1.2
  obtain ⟨n0, m0, k0, r0, w0, f0, pg0, wn0, ws0⟩ := D
  simp only at hn1
  have e1 : IntKind.i64.wrap (base + i) = base + i := IntWalk.i64_in _ (by omega)
  have hos := open_seal 5 (base + i) bs (by omega) (by simp only at hb; omega) hbs
  obtain ⟨q, hq⟩ : ∃ q, q = base + i := ⟨_, rfl⟩
  rw [hc] at hrd
  rw [← hq] at hrd e1 hos
  obtain ⟨z, hz⟩ : ∃ z, z = sealF 5 q bs := ⟨_, rfl⟩
  rw [← hz] at hos hrd
  cbv
  rw [show H Int (IntKind.i64.wrap (base + i)) = q from by rw [hH, ← hq, e1]]
  refine ⟨[1, 2, 3], ⟨⟨rfl, rfl⟩, rfl⟩, _, _, ?_, ?_, _, hTri _ _ _ _ hrd, ?_⟩
  · cbv
  · cbv
  rintro x σ ⟨⟨n1, m1, k1, r1, w1, f1, pg1, wn1, ws1⟩, s, hD', rfl, rfl, rfl⟩
  cbv
  refine ⟨[], ⟨⟨rfl, rfl⟩, rfl⟩, _, _, ?_, ?_, _, hTri _ _ _ _ hos, ?_⟩
  · cbv
  · cbv
  rintro x σ ⟨rfl, rfl⟩
  cbv
  split
  case h_1 => rename_i h; exact absurd h (by rw [hH]; simp)
  cbv
  split
  case h_1 => rename_i h; exact absurd h (by rw [hH]; simp)
  cbv
  rw [show H Int (IntKind.i64.wrap (base + i)) = q from by rw [hH, ← hq, e1]]
  split
  case h_1 => rename_i h; exact absurd h (by rw [hH]; simp)
  cbv
  refine ⟨[], ⟨⟨rfl, rfl⟩, rfl⟩, _, _, ?_, ?_, _, hTri _ _ _ _ hdec, ?_⟩
  · cbv
  · cbv
  rintro x σ ⟨rfl, rfl⟩
  cbv
  split
  case h_2 => rename_i h; exact absurd h (by rw [hH]; simp)
  cbv
  split
  · rename_i ht
    simp only [hH, decide_eq_true_eq] at ht
    cbv
    refine ⟨_, _, ⟨⟨n1, m1, k1, r1, w1, f1, pg1, wn1, ws1⟩, true, hD', by simp [ht], rfl, rfl⟩, ?_⟩
    cbv
    simp [hH]
  · rename_i ht
    simp only [hH, decide_eq_false_iff_not] at ht
    cbv
    refine ⟨_, _, ⟨⟨n1, m1, k1, r1, w1, f1, pg1, wn1, ws1⟩, false, hD', by simp [ht], rfl, rfl⟩, ?_⟩
    cbv
end Go.Proofs.Ytilmhjojbolbeaa.AM

namespace Go.Proofs.Ytilmhjojbolbeaa.AM
open Go
set_option maxRecDepth 100000
theorem jstaged (k n : Int) (b : Str) : TriS Try.prog 103 [.ag [.i .i64 k, .i .i64 n, .s b]] [] (fun r σ => ∃ v : Bool, (v = true ↔ okP k n b) ∧ r = .b v ∧ σ = []) := by
  refine tri_of TT_ok mixed (OR := OR0) (fn := Try.f103) (c := body Try.f103) (by kernel_rfl) (by kernel_rfl) (by kernel_rfl) (by kernel_rfl) (by simp [Try.f103]) fun H Tri hH hTri => ?_
  have hc := check_stage 1 0 k n b (by omega) (by omega)
  obtain ⟨Q, hQ⟩ : ∃ Q : Prop, Q = okP k n b := ⟨_, rfl⟩
  rw [← hQ] at hc ⊢
  cbv
  refine ⟨[], ⟨⟨rfl, rfl⟩, rfl⟩, _, _, ?_, ?_, _, hTri _ _ _ _ hc, ?_⟩
  · cbv
  · cbv
  rintro x σ ⟨e, he, rfl, rfl⟩
  cbv
  rw [hH]
  exact fin_b ⟨decide (e = 0), by rw [decide_eq_true_eq]; exact he, rfl, rfl⟩
theorem jstagedN (k n : Int) (b : Str) : TriS Try.prog 102 [.ag [.i .i64 k, .i .i64 n, .s b]] [] (fun r σ => ∃ v : Bool, (v = true ↔ ¬ okP k n b) ∧ r = .b v ∧ σ = []) := by
  refine tri_of TT_ok mixed (OR := OR0) (fn := Try.f102) (c := body Try.f102) (by kernel_rfl) (by kernel_rfl) (by kernel_rfl) (by kernel_rfl) (by simp [Try.f102]) fun H Tri hH hTri => ?_
  have hc := jstaged k n b
  obtain ⟨Q, hQ⟩ : ∃ Q : Prop, Q = okP k n b := ⟨_, rfl⟩
  rw [← hQ] at hc ⊢
  cbv
  refine ⟨[], ⟨⟨rfl, rfl⟩, rfl⟩, _, _, ?_, ?_, _, hTri _ _ _ _ hc, ?_⟩
  · cbv
  · cbv
  rintro x σ ⟨v, hv, rfl, rfl⟩
  cases v with
  | true =>
    cbv
    exact fin_b ⟨false, by simp at hv ⊢; exact hv, rfl, rfl⟩
  | false =>
    cbv
    exact fin_b ⟨true, by simp at hv ⊢; exact hv, rfl, rfl⟩
theorem jindex (m : Int) (pk pn : Ix → Int) (pb : Ix → Str) (full : Bool) (hm : 0 ≤ m ∧ m ≤ 1000000000) : TriS Try.prog 132 [.l m [.i .i64 pk, .i .i64 pn, .s pb] full, .fn (.func 102) []] []
    (fun r σ => ∃ v : Int, ((0 ≤ v ∧ v < m ∧ ¬ okP (pk [v]) (pn [v]) (pb [v])) ∨ (v = -1 ∧ ∀ j : Int, 0 ≤ j → j < m → okP (pk [j]) (pn [j]) (pb [j]))) ∧ r = .i .i64 v ∧ σ = []) := by
  refine tri_of TT_ok mixed (OR := OR0) (fn := Try.f132) (c := body Try.f132) (by kernel_rfl) (by kernel_rfl) (by kernel_rfl) (by kernel_rfl) (by simp [Try.f132]) fun H Tri hH hTri => ?_
  cbv
  obtain ⟨Q, hQ⟩ : ∃ Q : Int → Int → Str → Prop, Q = okP := ⟨_, rfl⟩
  have hst : ∀ k n b, Tri 102 [.ag [.i .i64 k, .i .i64 n, .s b]] [] (fun r σ => ∃ v : Bool, (v = true ↔ ¬ Q k n b) ∧ r = .b v ∧ σ = []) := fun k n b => by rw [hQ]; exact hTri _ _ _ _ (jstagedN k n b)
  rw [← hQ]
  refine ⟨0, Int, fun a => ⟨[(0, .l m [.i .i64 pk, .i .i64 pn, .s pb] full), (1, .fn (.func 102) []), (7, .i .i64 m), (8, .i .i64 a)], [], 200⟩, fun a => 0 ≤ a ∧ a ≤ m ∧ ∀ j : Int, 0 ≤ j → j < a → Q (pk [j]) (pn [j]) (pb [j]), fun a => (m - a).toNat, ⟨0, ⟨by omega, by omega, fun j h0 h1 => by omega⟩, ?_⟩, ?_⟩
  · cbv
    cases full <;> simp
  · rintro i ⟨h0, h1, hv⟩
    cbv
    split
    · rename_i h
      simp only [hH, decide_eq_true_eq] at h
      cbv
      simp only [hH, decide_eq_true h]
      refine ⟨by simp; omega, [], ⟨⟨rfl, rfl⟩, rfl⟩, _, _, ?_, ?_, _, hst (pk [i]) (pn [i]) (pb [i]), ?_⟩
      · cbv
      · cbv
      rintro x σ ⟨v, hv2, rfl, rfl⟩
      cases v with
      | true =>
        cbv
        exact fin_i ⟨i, .inl ⟨h0, h, hv2.1 rfl⟩, rfl, rfl⟩
      | false =>
        cbv
        have e1 : IntKind.i64.wrap (i + 1) = i + 1 := IntWalk.i64_in _ (by omega)
        obtain ⟨i2, hi2⟩ : ∃ i2, i2 = i + 1 := ⟨_, rfl⟩
        rw [e1, ← hi2]
        refine ⟨i2, ⟨by omega, by omega, fun j j0 j1 => ?_⟩, by omega, ?_⟩
        · by_cases e : j = i
          · subst e; exact Classical.byContradiction fun hn => by have := hv2.2 hn; cases this
          · exact hv j j0 (by omega)
        · cbv
          rw [hH]
          cases full <;> simp
    · rename_i h
      simp only [hH, decide_eq_false_iff_not] at h
      cbv
      exact fin_i ⟨-1, .inr ⟨rfl, fun j j0 j1 => hv j j0 (by omega)⟩, rfl, rfl⟩
theorem jcontains (m : Int) (pk pn : Ix → Int) (pb : Ix → Str) (full : Bool) (hm : 0 ≤ m ∧ m ≤ 1000000000) : TriS Try.prog 101 [.l m [.i .i64 pk, .i .i64 pn, .s pb] full, .fn (.func 102) []] []
    (fun r σ => ∃ v : Bool, (v = false ↔ ∀ j : Int, 0 ≤ j → j < m → okP (pk [j]) (pn [j]) (pb [j])) ∧ r = .b v ∧ σ = []) := by
  refine tri_of TT_ok mixed (OR := OR0) (fn := Try.f101) (c := body Try.f101) (by kernel_rfl) (by kernel_rfl) (by kernel_rfl) (by kernel_rfl) (by simp [Try.f101]) fun H Tri hH hTri => ?_
  have hc := jindex m pk pn pb full hm
  obtain ⟨Q, hQ⟩ : ∃ Q : Int → Int → Str → Prop, Q = okP := ⟨_, rfl⟩
  rw [← hQ] at hc ⊢
  cbv
  refine ⟨[], ⟨⟨rfl, rfl⟩, rfl⟩, _, _, ?_, ?_, _, hTri _ _ _ _ hc, ?_⟩
  · cbv
  · cbv
  rintro x σ ⟨v, hv, rfl, rfl⟩
  cbv
  rw [hH]
  refine fin_b ⟨decide (0 ≤ v), ?_, rfl, rfl⟩
  rw [decide_eq_false_iff_not]
  rcases hv with ⟨h0, h1, h2⟩ | ⟨rfl, h⟩
  · exact ⟨fun h => absurd h0 h, fun h => absurd (h v h0 h1) h2⟩
  · exact ⟨fun _ => h, fun _ => by omega⟩
theorem jroom (base size tx : Int) (D : DK) (hs : 2 ≤ size ∧ size ≤ 999) : TriS Try.prog 104 [.pt 0 0] (jouS 0 1 2 3 base size tx D) (fun r σ => ∃ v, v = size - 1 ∧ r = .i .i64 v ∧ σ = jouS 0 1 2 3 base size tx D) := by
  refine tri_of TT_ok mixed (OR := OR0) (fn := Try.f104) (c := body Try.f104) (by kernel_rfl) (by kernel_rfl) (by kernel_rfl) (by kernel_rfl) (by simp [Try.f104]) fun H Tri hH hTri => ?_
  obtain ⟨n0, m0, k0, r0, w0, f0, pg0, wn0, ws0⟩ := D
  cbv
  have e1 : IntKind.i64.wrap (size - 1) = size - 1 := IntWalk.i64_in _ (by omega)
  obtain ⟨v, hv⟩ : ∃ v, v = size - 1 := ⟨_, rfl⟩
  rw [e1, ← hv, hH]
  refine ⟨_, _, ⟨v, rfl, rfl, rfl⟩, ?_⟩
  cbv
end Go.Proofs.Ytilmhjojbolbeaa.AM

namespace Go.Proofs.Ytilmhjojbolbeaa.AM
open Go
set_option maxRecDepth 100000
def OR57 : Nat → List (Nat × List Nat)
  | 9 => [(0, []), (1, []), (2, []), (3, []), (4, []), (5, []), (6, []), (7, [0]), (8, []), (9, [])]
  | _ => []
theorem mul_tri (n : Nat) (hn : n < 1000000000) : TriS Try.prog 88 [.i .u64 1, .i .u64 n] [] (fun r σ => r = .tu [.i .u64 0, .i .u64 n] ∧ σ = []) := by
  refine tri_plain (vs0 := [.int .u64 1, .int .u64 n]) (v := .tuple #[.int .u64 0, .int .u64 n]) (by kernel_rfl) (fun g w ow vs h => ?_) (fun _ _ _ => ⟨_, rfl, rfl, rfl, trivial⟩) rfl (fun w => ?_)
  · match vs, h with
    | [a, b], h => obtain rfl : a = _ := h.1; obtain rfl : b = _ := h.2.1; rfl
  · have := Try.bits_Mul 1 n (by omega) (by omega) w
    refine this.mono ?_
    rintro e w' ⟨rfl, rfl⟩
    have e1 : ((1 * n / 18446744073709551616 : Nat) : Int) = 0 := by omega
    have e2 : ((1 * n % 18446744073709551616 : Nat) : Int) = n := by omega
    rw [e1, e2]
    exact ⟨rfl, ⟨rfl, rfl, rfl, Nat.le_refl _, fun _ _ => rfl⟩⟩
/-- one text, over and over -/
theorem repeat_list (n : Int) (c : Ix → Str) (full : Bool) (hn : 1 ≤ n ∧ n ≤ 1000) : TriS Try.prog 57 [.l 1 [.s c] full, .i .i64 n] [] (fun r σ => ∃ c' : Ix → Str, (∀ j : Int, 0 ≤ j → j < n → c' [j] = c [0]) ∧ r = .sl 100 0 n 1 false ∧ σ = [(100, .ar n [.s c'] 9)]) := by
  refine tri_of TT_ok mixed (OR := OR57) (fn := Try.f57) (c := body Try.f57) (by kernel_rfl) (by kernel_rfl) (by kernel_rfl) (by kernel_rfl) (by simp [Try.f57]) fun H Tri hH hTri => ?_
  obtain ⟨k, hk⟩ := Int.eq_ofNat_of_zero_le (show 0 ≤ n by omega)
  have hmul := mul_tri k (by omega)
  rw [show ((k : Nat) : Int) = n from hk.symm] at hmul
  have e1 : IntKind.u64.wrap n = n := by simp [IntKind.wrap, IntKind.bits, IntKind.signed]; omega
  have e2 : IntKind.i64.wrap n = n := IntWalk.i64_in _ (by omega)
  clear hk
  cbv
  split
  case h_1 => rename_i h; exact absurd h (by rw [hH]; simp; omega)
  cbv
  rw [e1, show H Int (IntKind.u64.wrap 1) = 1 from by rw [hH]; rfl, hH Int n]
  refine ⟨[], ⟨⟨rfl, rfl⟩, rfl⟩, _, _, ?_, ?_, _, hTri _ _ _ _ hmul, ?_⟩
  · cbv
  · cbv
  rintro x σ ⟨rfl, rfl⟩
  cbv
  split
  case h_1 => rename_i hh; exact absurd hh (by rw [hH]; simp; try omega)
  cbv
  split
  case h_1 => rename_i hh; exact absurd hh (by rw [hH]; simp; try omega)
  cbv
  rw [e2, hH Int n]
  refine ⟨by rw [hH]; exact decide_eq_true ⟨by omega, rfl, by show n * 16 ≤ 140737488355328; omega⟩, ?_⟩
  have ec : H Int (cnt2 1 n) = 1 := by rw [hH, cnt2]; split <;> omega
  have ec2 : H Int (0 + cnt2 1 n) = 1 := by rw [hH, cnt2]; split <;> omega
  rw [ec, ec2, show H Int (-0) = 0 from by rw [hH]; rfl]
  have hc0 : ∀ j : Int, 0 ≤ j → j < 1 → (bif decide (0 ≤ hd [j] ∧ hd [j] < 1) then c ((hd [j] + 0) :: [j].tail) else []) = c [0] := fun j j0 j1 => by
    obtain rfl : j = 0 := by omega
    rfl
  obtain ⟨c1, hc1⟩ : ∃ c1, c1 = (fun ix => bif decide (0 ≤ hd ix ∧ hd ix < 1) then c ((hd ix + 0) :: ix.tail) else []) := ⟨_, rfl⟩
  have hc1' : ∀ j : Int, 0 ≤ j → j < 1 → c1 [j] = c [0] := fun j j0 j1 => by rw [hc1]; exact hc0 j j0 j1
  rw [← hc1]
  obtain ⟨z, hz⟩ : ∃ z, z = c [0] := ⟨_, rfl⟩
  rw [← hz] at hc1' ⊢
  clear hc1 hc0
  refine ⟨0, Int × (Ix → Str), fun a => ⟨[(7, .sl 100 0 n 1 false), (8, .i .i64 a.1)], [(100, .ar n [.s a.2] 9)], 200⟩, fun a => (1 ≤ a.1 ∧ a.1 ≤ n) ∧ ∀ j : Int, 0 ≤ j → j < a.1 → a.2 [j] = z, fun a => (n - a.1).toNat, ⟨(1, c1), ⟨⟨by simp, by simp; omega⟩, hc1'⟩, ?_⟩, ?_⟩
  · cbv
  · rintro ⟨i, c2⟩ ⟨⟨h0, h1⟩, h2⟩
    simp only at h0 h1 h2
    have e3 : IntKind.i64.wrap (i + cnt2 i (n - i)) = i + cnt2 i (n - i) := by
      apply IntWalk.i64_in; rw [cnt2]; split <;> omega
    have e4 : i < n → i < i + cnt2 i (n - i) ∧ i + cnt2 i (n - i) ≤ n ∧ 0 ≤ cnt2 i (n - i) ∧ cnt2 i (n - i) ≤ i := fun h => by rw [cnt2]; split <;> omega
    cbv
    split
    · rename_i h
      simp only [hH, decide_eq_true_eq] at h
      cbv
      simp only [hH, decide_eq_true h, show o0 none = 0 from rfl, show o0 (some i) = i from rfl, Int.sub_zero, Int.zero_add]
      obtain ⟨e5, e6, e7, e8⟩ := e4 h
      rw [e3]
      obtain ⟨nd, hnd⟩ : ∃ nd, nd = (n - i) := ⟨_, rfl⟩
      rw [← hnd] at e5 e6 e7 e8 ⊢
      obtain ⟨cc, hcc⟩ : ∃ cc, cc = (cnt2 i nd) := ⟨_, rfl⟩
      rw [← hcc] at e5 e6 e7 e8 ⊢
      obtain ⟨i2, hi2⟩ : ∃ i2, i2 = (i + cc) := ⟨_, rfl⟩
      rw [← hi2] at e5 e6 ⊢
      have hc3a : ∀ j : Int, 0 ≤ j → j < i2 → (bif decide (i ≤ hd [j] ∧ hd [j] < i2) then c2 ((hd ((hd [j] + -i) :: [j].tail) + 0) :: ((hd [j] + -i) :: [j].tail).tail) else c2 [j]) = z := fun j j0 j1 => by
        by_cases hji : i ≤ j
        · rw [show decide (i ≤ hd [j] ∧ hd [j] < i2) = true from decide_eq_true ⟨hji, j1⟩]
          show c2 [j + -i + 0] = z
          exact h2 _ (by omega) (by omega)
        · rw [show decide (i ≤ hd [j] ∧ hd [j] < i2) = false from decide_eq_false (fun e => hji e.1)]
          exact h2 j j0 (by omega)
      obtain ⟨c3, hc3⟩ : ∃ c3, c3 = (fun ix => bif decide (i ≤ hd ix ∧ hd ix < i2) then c2 ((hd ((hd ix + -i) :: ix.tail) + 0) :: ((hd ix + -i) :: ix.tail).tail) else c2 ix) := ⟨_, rfl⟩
      have hc4 : ∀ j : Int, 0 ≤ j → j < i2 → c3 [j] = z := fun j j0 j1 => by rw [hc3]; exact hc3a j j0 j1
      rw [← hc3]
      refine ⟨by simp; omega, by simp; omega, (i2, c3), ⟨⟨by simp only; omega, by simp only; omega⟩, hc4⟩, by simp only; omega, ?_⟩
      cbv
    · rename_i h
      simp only [hH, decide_eq_false_iff_not] at h
      obtain rfl : i = n := by omega
      cbv
      exact ⟨_, _, ⟨c2, h2, rfl, rfl⟩, by cbv⟩
end Go.Proofs.Ytilmhjojbolbeaa.AM

namespace Go.Proofs.Ytilmhjojbolbeaa.AM
open Go
set_option maxRecDepth 100000
theorem commit_bad (m : Int) (pk pn : Ix → Int) (pb : Ix → Str) (full : Bool) (hm : 0 ≤ m ∧ m ≤ 1000000000) {base size tx : Int} (D : DK) (hs : 2 ≤ size ∧ size ≤ 999)
    (hbad : m = 0 ∨ size - 1 < m ∨ ¬ ∀ j : Int, 0 ≤ j → j < m → okP (pk [j]) (pn [j]) (pb [j])) :
    TriS Try.prog 65 [.pt 0 0, .l m [.i .i64 pk, .i .i64 pn, .s pb] full] (jouS 0 1 2 3 base size tx D) (fun r σ => ∃ e : Int, (e ≠ 0 ∧ (m = 0 → e = 1) ∧ (0 < m → (∀ j : Int, 0 ≤ j → j < m → okP (pk [j]) (pn [j]) (pb [j])) → e = 3)) ∧ r = .i .i64 e ∧ σ = jouS 0 1 2 3 base size tx D) := by
  refine tri_of TT_ok mixed (OR := OR0) (fn := Try.f65) (c := body Try.f65) (by kernel_rfl) (by kernel_rfl) (by kernel_rfl) (by kernel_rfl) (by simp [Try.f65]) fun H Tri hH hTri => ?_
  have hc := jcontains m pk pn pb full hm
  have hr := jroom base size tx D hs
  obtain ⟨Q, hQ⟩ : ∃ Q : Int → Int → Str → Prop, Q = okP := ⟨_, rfl⟩
  rw [← hQ] at hc hbad ⊢
  obtain ⟨n0, m0, k0, r0, w0, f0, pg0, wn0, ws0⟩ := D
  cbv
  split
  · rename_i h
    simp only [hH, decide_eq_true_eq] at h
    cbv
    refine ⟨_, _, ⟨1, ⟨by omega, fun _ => rfl, fun h0 => by omega⟩, rfl, rfl⟩, ?_⟩
    cbv
  · rename_i h
    simp only [hH, decide_eq_false_iff_not] at h
    cbv
    refine ⟨[], ⟨⟨rfl, rfl⟩, rfl⟩, _, _, ?_, ?_, _, hTri _ _ _ _ hc, ?_⟩
    · cbv
    · cbv
    rintro x σ ⟨v, hv, rfl, rfl⟩
    cases v with
    | true =>
      cbv
      refine ⟨_, _, ⟨1, ⟨by omega, fun _ => rfl, fun _ ha => by have := hv.2 ha; cases this⟩, rfl, rfl⟩, ?_⟩
      cbv
    | false =>
      cbv
      refine ⟨[0, 1, 2, 3], ⟨⟨rfl, rfl⟩, rfl⟩, _, _, ?_, ?_, _, hTri _ _ _ _ hr, ?_⟩
      · cbv
      · cbv
      rintro x σ ⟨v, hv2, rfl, rfl⟩
      cbv
      split
      · cbv
        refine ⟨_, _, ⟨3, ⟨by omega, fun h0 => absurd h0 h, fun _ _ => rfl⟩, rfl, rfl⟩, ?_⟩
        cbv
      · rename_i h2
        simp only [hH, decide_eq_false_iff_not] at h2
        have h2 : ¬ v < m := h2
        exfalso
        rcases hbad with h3 | h3 | h3
        · exact h h3
        · omega
        · exact h3 (hv.1 rfl)
/-- what a commit leaves -/
def comF (base tx m : Int) (pk pn : Ix → Int) (pb : Ix → Str) (at0 : Int → Str) (q : Int) : Str :=
  if base ≤ q ∧ q < base + m then sealF 5 q (stageF tx (q - base) (pk [q - base]) (pn [q - base]) (pb [q - base]))
  else if q = base + m then sealF 5 q (commitF tx m (esumF pk pn pb m.toNat)) else at0 q
theorem commit_ok (m : Int) (pk pn : Ix → Int) (pb : Ix → Str) (full : Bool) {base size tx L : Int} {D : DK} (hD : D.ok L) (hL : L ≤ 10000000) (hs : 2 ≤ size ∧ size ≤ 999) (ht : 1 ≤ tx ∧ tx ≤ 4294967295) (hb : 0 ≤ base ∧ base + size ≤ D.n) (hm : 0 < m ∧ m ≤ size - 1) (hp : ∀ j : Int, 0 ≤ j → j < m → okP (pk [j]) (pn [j]) (pb [j])) :
    TriS Try.prog 65 [.pt 0 0, .l m [.i .i64 pk, .i .i64 pn, .s pb] full] (jouS 0 1 2 3 base size tx D) (fun r σ => ∃ D', (D'.ok (L + 2000) ∧ D'.n = D.n ∧ ∀ q, D'.at q = comF base tx m pk pn pb D.at q) ∧ r = .i .i64 0 ∧ σ = jouS 0 1 2 100 base size tx D') := by
  refine tri_of TT_ok mixed (OR := OR0) (fn := Try.f65) (c := body Try.f65) (by kernel_rfl) (by kernel_rfl) (by kernel_rfl) (by kernel_rfl) (by simp [Try.f65]) fun H Tri hH hTri => ?_
  have hc := jcontains m pk pn pb full (by omega)
  have hr := jroom base size tx D hs
  have hsum := entry_sum m pk pn pb full (by omega) hp
  have hn1000 : D.n ≤ 1000 := hD.1.1.2
  have hput : ∀ (i : Int) (D2 : DK), 0 ≤ i → i < m → D2.ok (L + i) → D2.n = D.n → TriS Try.prog 105 [.pt 0 0, entV 1 0 i (pk [i]) (pn [i]) (pb [i]) 0 0] (jouS 0 1 2 3 base size tx D2) (fun r σ => ∃ D', D' = D2.wr (base + i) (sealF 5 (base + i) (stageF tx i (pk [i]) (pn [i]) (pb [i]))) ∧ r = .tu [] ∧ σ = jouS 0 1 2 100 base size tx D') := fun i D2 h0 h1 h2 h3 => by
    obtain ⟨-, -, hbl, -⟩ := hp i h0 h1
    exact jput h2 (by omega) (by omega) (by omega) (by omega) (by rw [stage_len]; omega) (encode_stage tx i (pk [i]) (pn [i]) (pb [i]) ht (by omega) (hp i h0 h1))
  have hputc : ∀ (D2 : DK) (L2 : Int), D2.ok L2 → L2 ≤ 100000000 → D2.n = D.n → ∀ v, v = esumF pk pn pb m.toNat → TriS Try.prog 105 [.pt 0 0, entV 2 0 m 0 0 [] m v] (jouS 0 1 2 3 base size tx D2) (fun r σ => ∃ D', D' = D2.wr (base + m) (sealF 5 (base + m) (commitF tx m (esumF pk pn pb m.toNat))) ∧ r = .tu [] ∧ σ = jouS 0 1 2 100 base size tx D') := fun D2 L2 h2 h4 h3 v hv => by
    rw [hv]
    refine jput h2 h4 (by omega) (by omega) (by omega) ?_ (encode_commit tx m _ ht (by omega) (esumF_in pk pn pb m.toNat))
    rw [commitF, bytesOf_length]; decide
  have hall : Tri 101 [.l m [.i .i64 pk, .i .i64 pn, .s pb] full, .fn (.func 102) []] [] (fun r σ => r = .b false ∧ σ = []) := by
    refine hTri _ _ _ _ ⟨hc.1, fun X g w vs hX hob hvs => (hc.2 X g w vs hX hob hvs).mono ?_⟩
    rintro e w' ⟨r, σ', g', v, ⟨v0, hv0, rfl, rfl⟩, rest⟩
    exact ⟨_, _, g', v, ⟨by rw [hv0.2 hp], rfl⟩, rest⟩
  obtain ⟨E, hE⟩ : ∃ E : Int, E = esumF pk pn pb m.toNat := ⟨_, rfl⟩
  rw [← hE] at hsum
  clear hc
  obtain ⟨RR, hRR⟩ : ∃ RR : V → Sto → Prop, RR = (fun r σ => ∃ D', (D'.ok (L + 2000) ∧ D'.n = D.n ∧ ∀ q, D'.at q = comF base tx m pk pn pb D.at q) ∧ r = .i .i64 0 ∧ σ = jouS 0 1 2 100 base size tx D') := ⟨_, rfl⟩
  rw [← hRR]
  obtain ⟨D0, hD0⟩ : ∃ D0, D0 = D := ⟨_, rfl⟩
  rw [← hD0] at hr ⊢
  obtain ⟨n0, m0, k0, r0, w0, f0, pg0, wn0, ws0⟩ := D0
  cbv
  split
  case h_1 => rename_i h; simp only [hH, decide_eq_true_eq] at h; omega
  cbv
  refine ⟨[], ⟨⟨rfl, rfl⟩, rfl⟩, _, _, ?_, ?_, _, hall, ?_⟩
  · cbv
  · cbv
  rintro x σ ⟨rfl, rfl⟩
  cbv
  refine ⟨[0, 1, 2, 3], ⟨⟨rfl, rfl⟩, rfl⟩, _, _, ?_, ?_, _, hTri _ _ _ _ hr, ?_⟩
  · cbv
  · cbv
  rintro x σ ⟨v, hv2, rfl, rfl⟩
  cbv
  split
  case h_1 => rename_i h; simp only [hH, decide_eq_true_eq] at h; have h : v < m := h; omega
  cbv
  refine ⟨0, Int × DK, fun a => ⟨[(0, .pt 0 0), (1, .l m [.i .i64 pk, .i .i64 pn, .s pb] full), (25, .l m [.i .i64 pk, .i .i64 pn, .s pb] full), (26, .i .i64 m), (27, .i .i64 a.1)], jouS 0 1 2 100 base size tx a.2, 300⟩, fun a => (0 ≤ a.1 ∧ a.1 ≤ m) ∧ (a.2.ok (L + a.1) ∧ a.2.n = D.n) ∧ ∀ q, a.2.at q = if base ≤ q ∧ q < base + a.1 then sealF 5 q (stageF tx (q - base) (pk [q - base]) (pn [q - base]) (pb [q - base])) else D.at q, fun a => (m - a.1).toNat, ⟨(0, ⟨n0, m0, k0, r0, w0, f0, pg0, wn0, ws0⟩), ?_, ?_⟩, ?_⟩
  · rw [hD0]
    exact ⟨⟨by simp, by simp; omega⟩, ⟨by simpa using hD, rfl⟩, fun q => by rw [if_neg (by simp)]⟩
  · cbv
    cases full <;> simp
  · rintro ⟨i, D2⟩ ⟨⟨h0, h1⟩, ⟨h2, h3⟩, h4⟩
    simp only at h0 h1 h2 h3 h4
    by_cases h : i < m
    · have hpi := hput i D2 h0 h h2 h3
      have hwr : ∀ D3, D3 = D2.wr (base + i) (sealF 5 (base + i) (stageF tx i (pk [i]) (pn [i]) (pb [i]))) → (D3.ok (L + (i + 1)) ∧ D3.n = D.n) ∧ ∀ q, D3.at q = if base ≤ q ∧ q < base + (i + 1) then sealF 5 q (stageF tx (q - base) (pk [q - base]) (pn [q - base]) (pb [q - base])) else D.at q := fun D3 e => by
        rw [e]
        refine ⟨⟨by rw [← Int.add_assoc]; exact DK.wr_ok h2 (by omega) _, h3⟩, fun q => ?_⟩
        rw [DK.wr_at _ h2.1.2.1, h4]
        by_cases e1 : q = base + i
        · rw [if_pos e1, if_pos (by omega), e1, show base + i - base = i by omega]
        · rw [if_neg e1]
          by_cases e2 : base ≤ q ∧ q < base + i
          · rw [if_pos e2, if_pos (by omega)]
          · rw [if_neg e2, if_neg (by omega)]
      obtain ⟨n1, m1, k1, r1, w1, f1, pg1, wn1, ws1⟩ := D2
      cbv
      split
      case h_2 => rename_i hh; exact absurd hh (by rw [hH]; simp; omega)
      cbv
      simp only [hH, decide_eq_true h]
      obtain ⟨kk, hkk⟩ : ∃ kk, kk = pk [i] := ⟨_, rfl⟩
      obtain ⟨nn, hnn⟩ : ∃ nn, nn = pn [i] := ⟨_, rfl⟩
      obtain ⟨bb, hbb⟩ : ∃ bb, bb = pb [i] := ⟨_, rfl⟩
      rw [← hkk, ← hnn, ← hbb] at hpi ⊢
      refine ⟨by simp; omega, [0, 1, 2, 100], ⟨⟨rfl, rfl⟩, rfl⟩, _, _, ?_, ?_, _, hTri _ _ _ _ hpi, ?_⟩
      · cbv
      · cbv
      rintro x σ ⟨D3, hD3, rfl, rfl⟩
      rw [hkk, hnn, hbb] at hD3
      have hD4 := hwr D3 hD3
      clear hD3
      obtain ⟨n2, m2, k2, r2, w2, f2, pg2, wn2, ws2⟩ := D3
      cbv
      have e1 : IntKind.i64.wrap (i + 1) = i + 1 := IntWalk.i64_in _ (by omega)
      obtain ⟨i2, hi2⟩ : ∃ i2, i2 = i + 1 := ⟨_, rfl⟩
      rw [e1, ← hi2, hH]
      refine ⟨(i2, ⟨n2, m2, k2, r2, w2, f2, pg2, wn2, ws2⟩), ⟨⟨by simp; omega, by simp; omega⟩, by rw [hi2]; exact hD4.1, by rw [hi2]; exact hD4.2⟩, by simp; omega, ?_⟩
      cbv
      cases full <;> simp
    · have hi : i = m := by omega
      subst hi
      have hfl := jflush h2 (by omega)
      have hflo : ∀ D3, D2.fl D3 → D3.ok (L + i + 1) ∧ D3.n = D.n ∧ ∀ q, D3.at q = D2.at q := fun D3 e => ⟨DK.fl_ok h2 e, e.1.1.trans h3, e.2.2⟩
      obtain ⟨n1, m1, k1, r1, w1, f1, pg1, wn1, ws1⟩ := D2
      cbv
      split
      case h_1 => rename_i hh; exact absurd hh (by rw [hH]; simp)
      cbv
      refine ⟨[1, 2, 100], ⟨⟨rfl, rfl⟩, rfl⟩, _, _, ?_, ?_, _, hTri _ _ _ _ hfl, ?_⟩
      · cbv
      · cbv
      rintro x σ ⟨D3, hD3, rfl, rfl⟩
      obtain ⟨g1, g2, g3⟩ := hflo D3 hD3
      clear hD3
      have hpc := hputc D3 _ g1 (by omega) g2
      have hwr : ∀ D4, D4 = D3.wr (base + i) (sealF 5 (base + i) (commitF tx i (esumF pk pn pb i.toNat))) → (D4.ok (L + i + 1 + 1) ∧ D4.n = D.n) ∧ ∀ q, D4.at q = comF base tx i pk pn pb D.at q := fun D4 e => by
        rw [e]
        refine ⟨⟨DK.wr_ok g1 (by omega) _, g2⟩, fun q => ?_⟩
        rw [DK.wr_at _ g1.1.2.1, g3, h4, comF]
        by_cases e1 : q = base + i
        · rw [if_pos e1, if_neg (by omega), if_pos e1, e1]
        · rw [if_neg e1, if_neg e1]
      obtain ⟨n2, m2, k2, r2, w2, f2, pg2, wn2, ws2⟩ := D3
      cbv
      refine ⟨[], ⟨⟨rfl, rfl⟩, rfl⟩, _, _, ?_, ?_, _, hTri _ _ _ _ hsum, ?_⟩
      · cbv
      · cbv
      rintro x σ ⟨v1, hv1, rfl, rfl⟩
      cbv
      refine ⟨[0, 1, 2, 100], ⟨⟨rfl, rfl⟩, rfl⟩, _, _, ?_, ?_, _, hTri _ _ _ _ (hpc v1 (hv1.trans hE)), ?_⟩
      · cbv
      · cbv
      rintro x σ ⟨D4, hD4, rfl, rfl⟩
      obtain ⟨⟨o1, o2⟩, o3⟩ := hwr D4 hD4
      clear hD4
      have hfl2 := jflush o1 (by omega)
      have hflo2 : ∀ D5, D4.fl D5 → D5.ok (L + 2000) ∧ D5.n = D.n ∧ ∀ q, D5.at q = comF base tx i pk pn pb D.at q := fun D5 e => by
        obtain ⟨⟨q1, q2⟩, ⟨q3, q4, q5⟩, q6⟩ := DK.fl_ok o1 e
        refine ⟨⟨⟨q1, by omega⟩, ⟨by omega, by omega, by omega⟩, q6⟩, e.1.1.trans o2, fun q => (e.2.2 q).trans (o3 q)⟩
      obtain ⟨n3, m3, k3, r3, w3, f3, pg3, wn3, ws3⟩ := D4
      cbv
      refine ⟨[1, 2, 440], ⟨⟨rfl, rfl⟩, rfl⟩, _, _, ?_, ?_, _, hTri _ _ _ _ hfl2, ?_⟩
      · cbv
      · cbv
      rintro x σ ⟨D5, hD5, rfl, rfl⟩
      have hfin := hflo2 D5 hD5
      clear hD5 hflo2
      obtain ⟨n4, m4, k4, r4, w4, f4, pg4, wn4, ws4⟩ := D5
      cbv
      refine ⟨.i .i64 0, jouS 0 1 2 100 base size tx ⟨n4, m4, k4, r4, w4, f4, pg4, wn4, ws4⟩, by rw [hRR]; exact ⟨_, hfin, rfl, rfl⟩, ?_⟩
      cbv
end Go.Proofs.Ytilmhjojbolbeaa.AM

namespace Go.Proofs.Ytilmhjojbolbeaa
theorem rd_set (xs : List Int) (i j : Nat) (x : Int) (hi : i < xs.length) : rd (xs.set i x) j = if i = j then x else rd xs j := by
  simp only [rd_eq, List.getElem?_set]
  split <;> simp_all
theorem ext_rd {xs ys : List Int} (hl : xs.length = ys.length) (h : ∀ j, j < xs.length → rd xs j = rd ys j) : xs = ys := by
  apply List.ext_getElem hl
  intro j h1 h2
  have := h j h1
  simpa [rd_eq, List.getElem?_eq_getElem h1, List.getElem?_eq_getElem h2] using this
theorem rd_map_range (f : Nat → Int) (n j : Nat) (h : j < n) : rd ((List.range n).map f) j = f j := by simp [rd_eq, h]
theorem rd_nil (xs : List Int) (j : Nat) (h : xs.length ≤ j) : rd xs j = 0 := by simp [rd_eq, List.getElem?_eq_none h]
end Go.Proofs.Ytilmhjojbolbeaa

/-! ## The slab as plain lists: what the document says of it. No program in sight. No condition. -/
namespace Go.Proofs.Ytilmhjojbolbeaa

/-- the place of a cell, k numbers in -/
def plc (sz c : List Int) : Nat → Int
  | 0 => 0
  | k + 1 => plc sz c k * rd sz k + rd c k
def okc (sz c : List Int) : Nat → Bool
  | 0 => true
  | k + 1 => okc sz c k && (decide (0 ≤ rd c k) && decide (rd c k < rd sz k))
def pr (sz : List Int) : Nat → Int
  | 0 => 1
  | k + 1 => pr sz k * rd sz k
/-- sizes and contents that may be -/
structure Wf (sz cs : List Int) : Prop where
  lo : 1 ≤ sz.length
  hi : sz.length ≤ 6
  pos : ∀ k, k < sz.length → 1 ≤ rd sz k
  len : (cs.length : Int) = pr sz sz.length
  most : cs.length ≤ 4096

theorem okc_step {sz c : List Int} {k : Nat} (h : okc sz c (k + 1) = true) : okc sz c k = true ∧ 0 ≤ rd c k ∧ rd c k < rd sz k := by
  simpa [okc, and_assoc] using h
theorem okc_mono {sz c : List Int} {k l : Nat} (hk : k ≤ l) (h : okc sz c k = false) : okc sz c l = false := by
  induction l with
  | zero => have : k = 0 := by omega
            subst this; exact h
  | succ l ih =>
    by_cases e : k = l + 1
    · subst e; exact h
    · simp [okc, ih (by omega)]
theorem okc_at {sz c : List Int} {k l : Nat} (h : okc sz c l = true) (hk : k < l) : 0 ≤ rd c k ∧ rd c k < rd sz k := by
  by_cases e : okc sz c (k + 1) = true
  · exact (okc_step e).2
  · have := okc_mono (show k + 1 ≤ l by omega) (by simpa using e); rw [h] at this; cases this
theorem pr_pos {sz : List Int} (hp : ∀ k, k < sz.length → 1 ≤ rd sz k) : ∀ k, k ≤ sz.length → 1 ≤ pr sz k := by
  intro k
  induction k with
  | zero => intro _; simp [pr]
  | succ k ih =>
    intro hk
    have h1 := ih (by omega)
    have h2 := hp k (by omega)
    have := Int.mul_le_mul h1 h2 (by omega) (by omega)
    simpa [pr] using this
theorem pr_mono {sz : List Int} (hp : ∀ k, k < sz.length → 1 ≤ rd sz k) {k l : Nat} (hkl : k ≤ l) (hl : l ≤ sz.length) : pr sz k ≤ pr sz l := by
  induction l with
  | zero => have : k = 0 := by omega
            subst this; exact Int.le_refl _
  | succ l ih =>
    by_cases e : k = l + 1
    · subst e; exact Int.le_refl _
    · have h1 := ih (by omega) (by omega)
      have h2 := hp l (by omega)
      have h3 := pr_pos hp l (by omega)
      have := Int.mul_le_mul_of_nonneg_left h2 (show 0 ≤ pr sz l by omega)
      simp only [pr]; omega
theorem plc_lt {sz c : List Int} {k : Nat} (hp : ∀ k, k < sz.length → 1 ≤ rd sz k) (hk : k ≤ sz.length) (h : okc sz c k = true) : 0 ≤ plc sz c k ∧ plc sz c k < pr sz k := by
  induction k with
  | zero => simp [plc, pr]
  | succ k ih =>
    obtain ⟨h1, h2, h3⟩ := okc_step h
    obtain ⟨a, b⟩ := ih (by omega) h1
    have hs := hp k (by omega)
    have m1 := Int.mul_le_mul_of_nonneg_right (show plc sz c k + 1 ≤ pr sz k by omega) (show 0 ≤ rd sz k by omega)
    have m0 := Int.mul_nonneg a (show 0 ≤ rd sz k by omega)
    rw [Int.add_mul] at m1
    simp only [plc, pr]
    omega
theorem Wf.pos' {sz cs : List Int} (h : Wf sz cs) : 1 ≤ cs.length := by have := pr_pos h.pos sz.length (Nat.le_refl _); have := h.len; omega
theorem Wf.size_le {sz cs : List Int} (h : Wf sz cs) {k : Nat} (hk : k < sz.length) : 1 ≤ rd sz k ∧ rd sz k ≤ 4096 := by
  have h1 := h.pos k hk
  have h2 := pr_mono h.pos (show k + 1 ≤ sz.length by omega) (Nat.le_refl _)
  have h3 := pr_pos h.pos k (by omega)
  have h4 := h.len
  have h5 := h.most
  have := Int.mul_le_mul_of_nonneg_right h3 (show 0 ≤ rd sz k by omega)
  simp only [pr] at h2
  omega
theorem Wf.pr_le {sz cs : List Int} (h : Wf sz cs) {k : Nat} (hk : k ≤ sz.length) : 1 ≤ pr sz k ∧ pr sz k ≤ 4096 := by
  have h1 := pr_pos h.pos k hk
  have h2 := pr_mono h.pos hk (Nat.le_refl _)
  have h4 := h.len
  have h5 := h.most
  omega
/-- P13.2: the place of a cell -/
def isCell (sz c : List Int) : Bool := decide (c.length = sz.length) && okc sz c c.length
def placeV (sz c : List Int) : Int := if isCell sz c then plc sz c c.length else 0
def placeE (sz c : List Int) : Int := if isCell sz c then 0 else 1
theorem placeV_lt {sz cs c : List Int} (h : Wf sz cs) : 0 ≤ placeV sz c ∧ placeV sz c < cs.length := by
  unfold placeV
  have hl := h.pos'
  split
  · rename_i hc
    simp only [isCell, Bool.and_eq_true, decide_eq_true_eq] at hc
    have := plc_lt h.pos (by omega) hc.2
    have hlen := h.len
    rw [← hc.1] at hlen
    omega
  · omega
/-- P13.2: the content of a cell -/
def getV (sz cs c : List Int) : Int := if isCell sz c then rd cs (plc sz c c.length).toNat else 0

/-! ### the cells in their order -/
def suf (sz : List Int) (k : Nat) : Int := (sz.drop k).foldr (· * ·) 1
theorem suf_end (sz : List Int) {k : Nat} (h : sz.length ≤ k) : suf sz k = 1 := by unfold suf; rw [List.drop_eq_nil_of_le h]; rfl
theorem suf_step (sz : List Int) {k : Nat} (h : k < sz.length) : suf sz k = rd sz k * suf sz (k + 1) := by
  unfold suf; rw [List.drop_eq_getElem_cons h, List.foldr_cons, rd_eq, List.getElem?_eq_getElem h]; rfl
theorem suf_pos {sz : List Int} (hp : ∀ k, k < sz.length → 1 ≤ rd sz k) (k : Nat) : 1 ≤ suf sz k := by
  by_cases h : k < sz.length
  · have : ∀ d k, sz.length - k = d → 1 ≤ suf sz k := by
      intro d
      induction d with
      | zero => intro k hk; rw [suf_end sz (by omega)]; omega
      | succ d ih =>
        intro k hk
        rw [suf_step sz (by omega)]
        have h1 := ih (k + 1) (by omega)
        have h2 := hp k (by omega)
        have := Int.mul_le_mul h2 h1 (by omega) (by omega)
        omega
    exact this _ k rfl
  · rw [suf_end sz (by omega)]; omega
def dig (sz : List Int) (n : Int) (k : Nat) : Int := (n / suf sz (k + 1)) % rd sz k
def cellL (sz : List Int) (n : Int) : List Int := (List.range sz.length).map (dig sz n)
@[simp] theorem cellL_length (sz : List Int) (n : Int) : (cellL sz n).length = sz.length := by simp [cellL]
theorem rd_cellL (sz : List Int) (n : Int) {k : Nat} (h : k < sz.length) : rd (cellL sz n) k = dig sz n k := rd_map_range _ _ _ h
/-- what Cell's loop has made when the numbers from k on are there -/
def cellT (sz : List Int) (n : Int) (k : Nat) : List Int := (List.range sz.length).map fun j => if j < k then 0 else dig sz n j
@[simp] theorem cellT_length (sz : List Int) (n : Int) (k : Nat) : (cellT sz n k).length = sz.length := by simp [cellT]
theorem cellT_start (sz : List Int) (n : Int) : cellT sz n sz.length = List.replicate sz.length 0 := by
  refine ext_rd (by simp) fun j hj => ?_
  simp only [cellT_length] at hj
  rw [cellT, rd_map_range _ _ _ hj, if_pos hj]; simp [rd_eq, hj]
theorem cellT_end (sz : List Int) (n : Int) : cellT sz n 0 = cellL sz n := by simp [cellT, cellL]
theorem cellT_step (sz : List Int) (n : Int) (k : Nat) (h : k < sz.length) : (cellT sz n (k + 1)).set k (dig sz n k) = cellT sz n k := by
  refine ext_rd (by simp) fun j hj => ?_
  simp at hj
  rw [rd_set _ _ _ _ (by simpa using h), cellT, rd_map_range _ _ _ hj, cellT, rd_map_range _ _ _ hj]
  by_cases e : k = j
  · subst e; simp
  · by_cases e2 : j < k
    · simp [e, e2, show j < k + 1 by omega]
    · simp [e, e2, show ¬ j < k + 1 by omega]
def withinB (c low high : List Int) : Nat → Bool
  | 0 => true
  | k + 1 => withinB c low high k && (decide (rd low k ≤ rd c k) && decide (rd c k ≤ rd high k))
theorem withinB_mono {c low high : List Int} {k l : Nat} (hk : k ≤ l) (h : withinB c low high k = false) : withinB c low high l = false := by
  induction l with
  | zero => have : k = 0 := by omega
            subst this; exact h
  | succ l ih =>
    by_cases e : k = l + 1
    · subst e; exact h
    · simp [withinB, ih (by omega)]
def leB (low high : List Int) : Nat → Bool
  | 0 => true
  | k + 1 => leB low high k && decide (rd low k ≤ rd high k)
theorem leB_mono {low high : List Int} {k l : Nat} (hk : k ≤ l) (h : leB low high k = false) : leB low high l = false := by
  induction l with
  | zero => have : k = 0 := by omega
            subst this; exact h
  | succ l ih =>
    by_cases e : k = l + 1
    · subst e; exact h
    · simp [leB, ih (by omega)]
/-- may two cells be a range -/
def mayB (sz low high : List Int) : Bool := isCell sz low && isCell sz high && leB low high low.length
def hitB (sz low high : List Int) (i : Nat) : Bool := withinB (cellL sz i) low high sz.length
def fillT (sz cs low high : List Int) (n : Int) (k : Nat) : List Int := (List.range cs.length).map fun i => if i < k ∧ hitB sz low high i = true then n else rd cs i
@[simp] theorem fillT_length (sz cs low high : List Int) (n : Int) (k : Nat) : (fillT sz cs low high n k).length = cs.length := by simp [fillT]
theorem fillT_start (sz cs low high : List Int) (n : Int) : fillT sz cs low high n 0 = cs := by
  refine ext_rd (by simp) fun j hj => ?_
  simp only [fillT_length] at hj
  rw [fillT, rd_map_range _ _ _ hj]; simp
theorem fillT_hit (sz cs low high : List Int) (n : Int) (k : Nat) (hk : k < cs.length) (h : hitB sz low high k = true) : (fillT sz cs low high n k).set k n = fillT sz cs low high n (k + 1) := by
  refine ext_rd (by simp) fun j hj => ?_
  simp at hj
  rw [rd_set _ _ _ _ (by simpa using hk), fillT, rd_map_range _ _ _ hj, fillT, rd_map_range _ _ _ hj]
  by_cases e : k = j
  · subst e; simp [h]
  · by_cases e2 : j < k
    · simp [e, e2, show j < k + 1 by omega]
    · simp [e, e2, show ¬ j < k + 1 by omega]
theorem fillT_miss (sz cs low high : List Int) (n : Int) (k : Nat) (h : hitB sz low high k = false) : fillT sz cs low high n k = fillT sz cs low high n (k + 1) := by
  refine ext_rd (by simp) fun j hj => ?_
  simp at hj
  rw [fillT, rd_map_range _ _ _ hj, fillT, rd_map_range _ _ _ hj]
  by_cases e : k = j
  · subst e; simp [h]
  · by_cases e2 : j < k
    · simp [e2, show j < k + 1 by omega]
    · simp [e2, show ¬ j < k + 1 by omega]
def fillL (sz cs low high : List Int) (n : Int) : List Int := fillT sz cs low high n cs.length

/-- the contents seen among the first k cells -/
def seenT (sz cs low high : List Int) : Nat → List Int
  | 0 => []
  | k + 1 => if hitB sz low high k = true ∧ rd cs k ∉ seenT sz cs low high k then seenT sz cs low high k ++ [rd cs k] else seenT sz cs low high k
theorem seenT_len (sz cs low high : List Int) (k : Nat) : (seenT sz cs low high k).length ≤ k := by
  induction k with
  | zero => simp [seenT]
  | succ k ih =>
    simp only [seenT]
    split
    · simp; omega
    · omega
theorem seenT_new {sz cs low high : List Int} {k : Nat} (h : hitB sz low high k = true) (hn : rd cs k ∉ seenT sz cs low high k) : seenT sz cs low high (k + 1) = seenT sz cs low high k ++ [rd cs k] := by
  simp only [seenT]; rw [if_pos ⟨h, hn⟩]
theorem seenT_old {sz cs low high : List Int} {k : Nat} (hn : rd cs k ∈ seenT sz cs low high k) : seenT sz cs low high (k + 1) = seenT sz cs low high k := by
  simp only [seenT]; rw [if_neg (fun h => h.2 hn)]
theorem seenT_miss {sz cs low high : List Int} {k : Nat} (h : hitB sz low high k = false) : seenT sz cs low high (k + 1) = seenT sz cs low high k := by
  simp only [seenT]; rw [if_neg (fun h' => by simp [h] at h')]
def seenL (sz cs low high : List Int) : List Int := if mayB sz low high then seenT sz cs low high cs.length else []
theorem mem_take_succ (xs : List Int) (m : Nat) (h : m < xs.length) (x : Int) : (x ∈ xs.take (m + 1)) ↔ (x ∈ xs.take m ∨ rd xs m = x) := by
  rw [rd_eq, List.getElem?_eq_getElem h, Option.getD_some, List.take_succ_eq_append_getElem h, List.mem_append, List.mem_singleton]
  exact or_congr Iff.rfl eq_comm

/-! ### sizes that may be -/
def okp (sz : List Int) : Nat → Bool
  | 0 => true
  | k + 1 => okp sz k && (decide (1 ≤ rd sz k) && (decide (rd sz k ≤ 4096) && decide (pr sz k * rd sz k ≤ 4096)))
theorem okp_step {sz : List Int} {k : Nat} (h : okp sz (k + 1) = true) : okp sz k = true ∧ 1 ≤ rd sz k ∧ rd sz k ≤ 4096 ∧ pr sz (k + 1) ≤ 4096 := by
  simp only [okp, Bool.and_eq_true, decide_eq_true_eq] at h
  exact ⟨h.1, h.2.1, h.2.2.1, h.2.2.2⟩
theorem okp_mono {sz : List Int} {k l : Nat} (hk : k ≤ l) (h : okp sz k = false) : okp sz l = false := by
  induction l with
  | zero => have : k = 0 := by omega
            subst this; exact h
  | succ l ih =>
    by_cases e : k = l + 1
    · subst e; exact h
    · simp [okp, ih (by omega)]
theorem okp_bd {sz : List Int} {k : Nat} (h : okp sz k = true) : 1 ≤ pr sz k ∧ pr sz k ≤ 4096 ∧ ∀ j, j < k → 1 ≤ rd sz j ∧ rd sz j ≤ 4096 := by
  induction k with
  | zero => simp [pr]
  | succ k ih =>
    obtain ⟨h1, h2, h3, h4⟩ := okp_step h
    obtain ⟨a, b, c⟩ := ih h1
    refine ⟨?_, h4, fun j hj => ?_⟩
    · have := Int.mul_le_mul a h2 (by omega) (by omega); simpa [pr] using this
    · by_cases e : j = k
      · subst e; exact ⟨h2, h3⟩
      · exact c j (by omega)
def prodV (sz : List Int) : Int := if okp sz sz.length then pr sz sz.length else 0
def ofB (sz cs : List Int) : Bool := decide (1 ≤ sz.length) && (decide (sz.length ≤ 6) && (okp sz sz.length && decide (pr sz sz.length = cs.length)))
theorem ofB_wf {sz cs : List Int} (h : ofB sz cs = true) : Wf sz cs := by
  simp only [ofB, Bool.and_eq_true, decide_eq_true_eq] at h
  obtain ⟨a, b, c, d⟩ := h
  have := okp_bd c
  exact ⟨a, b, fun k hk => (this.2.2 k hk).1, d.symm, by omega⟩
theorem wf_okp {sz cs : List Int} (h : Wf sz cs) : ∀ k, k ≤ sz.length → okp sz k = true := by
  intro k
  induction k with
  | zero => intro _; rfl
  | succ k ih =>
    intro hk
    have h1 := h.size_le (k := k) (by omega)
    have h2 := h.pr_le hk
    simp only [pr] at h2
    simp [okp, ih (by omega), h1.1, h1.2, h2.2]
theorem wf_ofB {sz cs : List Int} (h : Wf sz cs) : ofB sz cs = true := by
  simp [ofB, h.lo, h.hi, wf_okp h _ (Nat.le_refl _), h.len]

theorem pr_congr {xs ys : List Int} {k : Nat} (h : ∀ j, j < k → rd xs j = rd ys j) : pr xs k = pr ys k := by
  induction k with
  | zero => rfl
  | succ k ih => simp only [pr]; rw [ih (fun j hj => h j (by omega)), h k (by omega)]
/-! ### rows -/
theorem pr_suf (sz : List Int) (k : Nat) (h : k ≤ sz.length) : pr sz k * suf sz k = suf sz 0 := by
  induction k with
  | zero => simp [pr]
  | succ k ih =>
    have e := suf_step sz (show k < sz.length by omega)
    rw [← ih (by omega), e]; simp only [pr]; rw [Int.mul_assoc]
theorem pr_all (sz : List Int) : pr sz sz.length = suf sz 0 := by
  have := pr_suf sz sz.length (Nat.le_refl _)
  rw [suf_end sz (Nat.le_refl _), Int.mul_one] at this; exact this
theorem suf_drop (sz : List Int) (k : Nat) : suf (sz.drop k) 0 = suf sz k := by simp [suf]
theorem suf_le {sz cs : List Int} (h : Wf sz cs) (k : Nat) (hk : k ≤ sz.length) : suf sz k ≤ 4096 := by
  have h1 := pr_suf sz k hk
  have h2 := pr_pos h.pos k hk
  have h3 := suf_pos h.pos k
  have h4 := h.pr_le (Nat.le_refl sz.length)
  rw [pr_all] at h4
  have := Int.mul_le_mul_of_nonneg_right h2 (show 0 ≤ suf sz k by omega)
  omega
theorem okp_of {xs : List Int} (hp : ∀ k, k < xs.length → 1 ≤ rd xs k) (hm : pr xs xs.length ≤ 4096) : ∀ k, k ≤ xs.length → okp xs k = true := by
  intro k
  induction k with
  | zero => intro _; rfl
  | succ k ih =>
    intro hk
    have h1 := hp k (by omega)
    have h2 := pr_mono hp hk (Nat.le_refl _)
    have h3 := pr_pos hp k (by omega)
    have := Int.mul_le_mul_of_nonneg_right h3 (show 0 ≤ rd xs k by omega)
    simp only [pr] at h2
    simp [okp, ih (by omega)]
    omega
theorem rd_drop (xs : List Int) (k j : Nat) : rd (xs.drop k) j = rd xs (k + j) := by simp [rd_eq, List.getElem?_drop]
theorem rd_take (xs : List Int) (k j : Nat) (h : j < k) : rd (xs.take k) j = rd xs j := by simp [rd_eq, h]
theorem prod_drop {sz cs : List Int} (h : Wf sz cs) (k : Nat) (hk : k ≤ sz.length) : prodV (sz.drop k) = suf sz k := by
  have e : pr (sz.drop k) (sz.drop k).length = suf sz k := by rw [pr_all, suf_drop]
  rw [prodV, if_pos, e]
  refine okp_of (fun j hj => ?_) (by rw [e]; exact suf_le h k hk) _ (Nat.le_refl _)
  rw [rd_drop]; simp at hj; exact h.pos _ (by omega)
end Go.Proofs.Ytilmhjojbolbeaa

/-! ## The cells of a range, in their order, as plain lists: the next cell is the next place that lies in the range. No program in sight. No condition. -/
namespace Go.Proofs.Ytilmhjojbolbeaa

theorem plc_mono {sz x y : List Int} {k l : Nat} (hp : ∀ k, k < sz.length → 1 ≤ rd sz k) (hl : l ≤ sz.length) (hkl : k ≤ l) (h : plc sz x k ≤ plc sz y k) (hc : ∀ i, k ≤ i → i < l → rd x i ≤ rd y i) : plc sz x l ≤ plc sz y l := by
  induction l with
  | zero => have : k = 0 := by omega
            subst this; exact h
  | succ l ih =>
    by_cases e : k = l + 1
    · subst e; exact h
    · have h1 := ih (by omega) (by omega) (fun i h1 h2 => hc i h1 (by omega))
      have h2 := hc l (by omega) (by omega)
      have h3 := Int.mul_le_mul_of_nonneg_right h1 (show 0 ≤ rd sz l by have := hp l (by omega); omega)
      simp only [plc]; omega
/-- a place ahead stays ahead -/
theorem plc_ahead {sz x y : List Int} {k l : Nat} (hp : ∀ k, k < sz.length → 1 ≤ rd sz k) (hl : l ≤ sz.length) (hkl : k ≤ l) (h : plc sz x k < plc sz y k) (hx : ∀ i, i < l → rd x i < rd sz i) (hy : ∀ i, i < l → 0 ≤ rd y i) : plc sz x l < plc sz y l := by
  induction l with
  | zero => have : k = 0 := by omega
            subst this; exact h
  | succ l ih =>
    by_cases e : k = l + 1
    · subst e; exact h
    · have h1 := ih (by omega) (by omega) (fun i hi => hx i (by omega)) (fun i hi => hy i (by omega))
      have h2 := hx l (by omega)
      have h3 := hy l (by omega)
      have h4 := Int.mul_le_mul_of_nonneg_right (show plc sz x l + 1 ≤ plc sz y l by omega) (show 0 ≤ rd sz l by have := hp l (by omega); omega)
      rw [Int.add_mul] at h4
      simp only [plc]; omega
theorem okc_of {sz c : List Int} {l : Nat} (h : ∀ k, k < l → 0 ≤ rd c k ∧ rd c k < rd sz k) : okc sz c l = true := by
  induction l with
  | zero => rfl
  | succ l ih => simp [okc, ih (fun k hk => h k (by omega)), h l (by omega)]
theorem pr_mul_suf (sz : List Int) (k : Nat) (h : k ≤ sz.length) : pr sz sz.length = pr sz k * suf sz k := by rw [pr_all, pr_suf sz k h]
/-- the place, k numbers in, of the cell of a place -/
theorem plc_cellL {sz : List Int} (hp : ∀ k, k < sz.length → 1 ≤ rd sz k) {n : Int} (h0 : 0 ≤ n) (h1 : n < suf sz 0) {k : Nat} (hk : k ≤ sz.length) : plc sz (cellL sz n) k = n / suf sz k := by
  induction k with
  | zero => simp only [plc]; rw [Int.ediv_eq_zero_of_lt h0 h1]
  | succ k ih =>
    simp only [plc]
    rw [ih (by omega), rd_cellL _ _ (by omega)]
    unfold dig
    have e := suf_step sz (show k < sz.length by omega)
    have e2 : n / suf sz k = n / suf sz (k + 1) / rd sz k := by
      rw [Int.ediv_ediv_of_nonneg (by have := suf_pos hp (k + 1); omega), e, Int.mul_comm]
    rw [e2, Int.mul_comm]
    exact Int.mul_ediv_add_emod (n / suf sz (k + 1)) (rd sz k)
theorem cellL_bd {sz : List Int} (hp : ∀ k, k < sz.length → 1 ≤ rd sz k) (n : Int) {k : Nat} (hk : k < sz.length) : 0 ≤ rd (cellL sz n) k ∧ rd (cellL sz n) k < rd sz k := by
  rw [rd_cellL _ _ hk]
  have := hp k hk
  exact ⟨Int.emod_nonneg _ (by omega), Int.emod_lt_of_pos _ (by omega)⟩
/-- the cell of the place of a cell -/
theorem cellL_plc {sz c : List Int} (hp : ∀ k, k < sz.length → 1 ≤ rd sz k) (hl : c.length = sz.length) (hc : okc sz c sz.length = true) : cellL sz (plc sz c sz.length) = c := by
  have hb := plc_lt hp (Nat.le_refl _) hc
  rw [pr_all] at hb
  have key : ∀ d k, sz.length - k = d → k ≤ sz.length → plc sz c k = plc sz c sz.length / suf sz k := by
    intro d
    induction d with
    | zero => intro k hd hk; obtain rfl : k = sz.length := by omega
              rw [suf_end sz (Nat.le_refl _), Int.ediv_one]
    | succ d ih =>
      intro k hd hk
      have hlt : k < sz.length := by omega
      have h1 := ih (k + 1) (by omega) (by omega)
      have hs := hp k hlt
      have hck := okc_at hc hlt
      have e := suf_step sz hlt
      rw [e, Int.mul_comm, ← Int.ediv_ediv_of_nonneg (by have := suf_pos hp (k + 1); omega), ← h1]
      simp only [plc]
      rw [Int.add_ediv_of_dvd_left (Int.dvd_mul_left _ _), Int.mul_ediv_cancel _ (by omega), Int.ediv_eq_zero_of_lt hck.1 hck.2, Int.add_zero]
  refine ext_rd (by simp [hl]) fun j hj => ?_
  simp only [cellL_length] at hj
  rw [rd_cellL _ _ hj]
  unfold dig
  rw [← key _ (j + 1) rfl (by omega)]
  have hck := okc_at hc hj
  simp only [plc]
  rw [Int.add_comm, Int.add_mul_emod_self_right, Int.emod_eq_of_lt hck.1 hck.2]

theorem withinB_at {c low high : List Int} {l : Nat} : withinB c low high l = true ↔ ∀ k, k < l → rd low k ≤ rd c k ∧ rd c k ≤ rd high k := by
  induction l with
  | zero => simp [withinB]
  | succ l ih =>
    simp only [withinB, Bool.and_eq_true, decide_eq_true_eq, ih]
    constructor
    · rintro ⟨h1, h2, h3⟩ k hk
      by_cases e : k = l
      · subst e; exact ⟨h2, h3⟩
      · exact h1 k (by omega)
    · intro h; exact ⟨fun k hk => h k (by omega), (h l (by omega)).1, (h l (by omega)).2⟩
theorem leB_at {low high : List Int} {l : Nat} : leB low high l = true ↔ ∀ k, k < l → rd low k ≤ rd high k := by
  induction l with
  | zero => simp [leB]
  | succ l ih =>
    simp only [leB, Bool.and_eq_true, decide_eq_true_eq, ih]
    constructor
    · rintro ⟨h1, h2⟩ k hk
      by_cases e : k = l
      · subst e; exact h2
      · exact h1 k (by omega)
    · intro h; exact ⟨fun k hk => h k (by omega), h l (by omega)⟩

/-- the places of the range among the first n -/
def hits (sz low high : List Int) (n : Nat) : List Nat := (List.range n).filter (hitB sz low high)
theorem hits_hit {sz low high : List Int} {p : Nat} (h : hitB sz low high p = true) : hits sz low high (p + 1) = hits sz low high p ++ [p] := by
  simp [hits, List.range_succ, h]
theorem hits_skip {sz low high : List Int} {p q : Nat} (hpq : p ≤ q) (h : ∀ r, p ≤ r → r < q → hitB sz low high r = false) : hits sz low high q = hits sz low high p := by
  induction q with
  | zero => have : p = 0 := by omega
            subst this; rfl
  | succ q ih =>
    by_cases e : p = q + 1
    · subst e; rfl
    · rw [← ih (by omega) (fun r h1 h2 => h r h1 (by omega))]
      simp [hits, List.range_succ, h q (by omega) (by omega)]
/-- the cell when the numbers from k on were turned back -/
def odo (c low : List Int) (k : Nat) : List Int := (List.range c.length).map fun j => if j < k then rd c j else rd low j
/-- .. and the number before them is raised -/
def nxt (c low : List Int) (k : Nat) : List Int := (odo c low (k + 1)).set k (rd c k + 1)
@[simp] theorem odo_length (c low : List Int) (k : Nat) : (odo c low k).length = c.length := by simp [odo]
@[simp] theorem nxt_length (c low : List Int) (k : Nat) : (nxt c low k).length = c.length := by simp [nxt]
theorem rd_odo (c low : List Int) (k j : Nat) (h : j < c.length) : rd (odo c low k) j = if j < k then rd c j else rd low j := rd_map_range _ _ _ h
theorem odo_all (c low : List Int) : odo c low c.length = c := by
  refine ext_rd (by simp) fun j hj => ?_
  simp at hj
  rw [rd_odo _ _ _ _ hj, if_pos hj]
theorem odo_step (c low : List Int) (k : Nat) (h : k < c.length) : (odo c low (k + 1)).set k (rd low k) = odo c low k := by
  refine ext_rd (by simp) fun j hj => ?_
  simp at hj
  rw [rd_set _ _ _ _ (by simpa using h), rd_odo _ _ _ _ hj, rd_odo _ _ _ _ hj]
  by_cases e : k = j
  · subst e; simp
  · by_cases e2 : j < k
    · simp [e, e2, show j < k + 1 by omega]
    · simp [e, e2, show ¬ j < k + 1 by omega]
theorem rd_nxt (c low : List Int) (k j : Nat) (hk : k < c.length) (h : j < c.length) : rd (nxt c low k) j = if j < k then rd c j else if j = k then rd c j + 1 else rd low j := by
  rw [nxt, rd_set _ _ _ _ (by simpa using hk), rd_odo _ _ _ _ h]
  by_cases e : k = j
  · subst e; simp
  · by_cases e2 : j < k
    · simp [e, e2, show j < k + 1 by omega]
    · simp [e, e2, show ¬ j < k + 1 by omega, show ¬ j = k by omega]
section
variable {sz cs low high : List Int}
theorem may_facts (h : mayB sz low high = true) : low.length = sz.length ∧ high.length = sz.length ∧ okc sz low sz.length = true ∧ okc sz high sz.length = true ∧ ∀ k, k < sz.length → rd low k ≤ rd high k := by
  simp only [mayB, isCell, Bool.and_eq_true, decide_eq_true_eq] at h
  obtain ⟨⟨⟨h1, h2⟩, h3, h4⟩, h5⟩ := h
  rw [h1] at h2 h5; rw [h3] at h4
  exact ⟨h1, h3, h2, h4, leB_at.1 h5⟩
theorem suf0_len (hwf : Wf sz cs) : suf sz 0 = cs.length := by rw [← pr_all, hwf.len]
/-- the places of the cells of a place -/
theorem plc_of (hwf : Wf sz cs) {q : Nat} (hq : q < cs.length) : plc sz (cellL sz q) sz.length = q := by
  rw [plc_cellL hwf.pos (by omega) (by rw [suf0_len hwf]; omega) (Nat.le_refl _), suf_end sz (Nat.le_refl _), Int.ediv_one]
theorem hit_iff {q : Nat} : hitB sz low high q = true ↔ ∀ k, k < sz.length → rd low k ≤ rd (cellL sz q) k ∧ rd (cellL sz q) k ≤ rd high k := withinB_at
/-- the first place -/
theorem first_hit (hwf : Wf sz cs) (hm : mayB sz low high = true) : ∃ p : Nat, plc sz low sz.length = p ∧ p < cs.length ∧ cellL sz p = low ∧ hitB sz low high p = true ∧ hits sz low high p = [] := by
  obtain ⟨l1, l2, o1, o2, hle⟩ := may_facts hm
  have hb := plc_lt hwf.pos (Nat.le_refl _) o1
  rw [← hwf.len] at hb
  obtain ⟨p, hp⟩ := Int.eq_ofNat_of_zero_le hb.1
  have hc : cellL sz p = low := by rw [← hp]; exact cellL_plc hwf.pos l1 o1
  refine ⟨p, hp, by omega, hc, ?_, ?_⟩
  · rw [hit_iff, hc]; exact fun k hk => ⟨Int.le_refl _, hle k hk⟩
  · have := hits_skip (sz := sz) (low := low) (high := high) (p := 0) (q := p) (Nat.zero_le _) (fun r _ hr => by
      cases hh : hitB sz low high r with
      | false => rfl
      | true =>
        have h1 := hit_iff.1 hh
        have := plc_mono (x := low) (y := cellL sz r) (k := 0) hwf.pos (Nat.le_refl _) (Nat.zero_le _) (by simp [plc]) (fun i _ hi => (h1 i hi).1)
        rw [plc_of hwf (by omega), hp] at this
        omega)
    rw [this]; rfl
/-- no place behind the last one -/
theorem last_hit (hwf : Wf sz cs) {p : Nat} (hp : p < cs.length) (hend : ∀ j, j < sz.length → rd (cellL sz p) j = rd high j) : hits sz low high cs.length = hits sz low high (p + 1) := by
  refine hits_skip (by omega) fun r h1 h2 => ?_
  cases hh : hitB sz low high r with
  | false => rfl
  | true =>
    have h := hit_iff.1 hh
    have := plc_mono (x := cellL sz r) (y := cellL sz p) (k := 0) hwf.pos (Nat.le_refl _) (Nat.zero_le _) (by simp [plc]) (fun i _ hi => by rw [hend i hi]; exact (h i hi).2)
    rw [plc_of hwf h2, plc_of hwf hp] at this
    omega
/-- the next place -/
theorem next_hit (hwf : Wf sz cs) (hm : mayB sz low high = true) {p j : Nat} (hp : p < cs.length) (hh : hitB sz low high p = true) (hj : j < sz.length) (hend : ∀ i, j < i → i < sz.length → rd (cellL sz p) i = rd high i)
    (hne : rd (cellL sz p) j ≠ rd high j) : ∃ q : Nat, placeV sz (nxt (cellL sz p) low j) = q ∧ q < cs.length ∧ cellL sz q = nxt (cellL sz p) low j ∧ hitB sz low high q = true ∧ hits sz low high q = hits sz low high (p + 1) ∧ p < q := by
  obtain ⟨l1, l2, o1, o2, hle⟩ := may_facts hm
  have h := hit_iff.1 hh
  have hn : ∀ i, i < sz.length → rd (nxt (cellL sz p) low j) i = if i < j then rd (cellL sz p) i else if i = j then rd (cellL sz p) i + 1 else rd low i := fun i hi => rd_nxt _ _ _ _ (by simpa using hj) (by simpa using hi)
  have hw : ∀ i, i < sz.length → rd low i ≤ rd (nxt (cellL sz p) low j) i ∧ rd (nxt (cellL sz p) low j) i ≤ rd high i := by
    intro i hi
    have h1 := h i hi
    have h2 := hle i hi
    rw [hn i hi]
    split
    · exact h1
    · split
      · rename_i e; subst e; omega
      · omega
  have hok : okc sz (nxt (cellL sz p) low j) sz.length = true := okc_of fun i hi => by
    have h1 := hw i hi
    have h2 := okc_at o1 hi
    have h3 := okc_at o2 hi
    omega
  have hb := plc_lt hwf.pos (Nat.le_refl _) hok
  rw [← hwf.len] at hb
  obtain ⟨q, hq⟩ := Int.eq_ofNat_of_zero_le hb.1
  have hlen : (nxt (cellL sz p) low j).length = sz.length := by simp
  have hc : cellL sz q = nxt (cellL sz p) low j := by rw [← hq]; exact cellL_plc hwf.pos hlen hok
  have hpl : placeV sz (nxt (cellL sz p) low j) = q := by
    have : isCell sz (nxt (cellL sz p) low j) = true := by simp only [isCell, hlen, hok, decide_true, Bool.and_self]
    rw [placeV, if_pos this, hlen, hq]
  have epre : plc sz (nxt (cellL sz p) low j) j = plc sz (cellL sz p) j := by
    apply Int.le_antisymm
    · exact plc_mono (k := 0) hwf.pos (by omega) (Nat.zero_le _) (by simp [plc]) (fun i _ hi => by rw [hn i (by omega), if_pos hi]; exact Int.le_refl _)
    · exact plc_mono (k := 0) hwf.pos (by omega) (Nat.zero_le _) (by simp [plc]) (fun i _ hi => by rw [hn i (by omega), if_pos hi]; exact Int.le_refl _)
  have ej : plc sz (nxt (cellL sz p) low j) (j + 1) = plc sz (cellL sz p) (j + 1) + 1 := by
    simp only [plc]; rw [epre, hn j hj]; simp; omega
  have hpq : p < q := by
    have := plc_ahead (x := cellL sz p) (y := nxt (cellL sz p) low j) (k := j + 1) hwf.pos (Nat.le_refl _) (by omega) (by omega) (fun i hi => (cellL_bd hwf.pos _ hi).2) (fun i hi => by have := okc_at hok hi; omega)
    rw [plc_of hwf hp, hq] at this
    omega
  refine ⟨q, hpl, by omega, hc, by rw [hit_iff, hc]; exact hw, hits_skip (by omega) fun r h1 h2 => ?_, hpq⟩
  cases hr : hitB sz low high r with
  | false => rfl
  | true =>
    exfalso
    have hrl : r < cs.length := by omega
    have g := hit_iff.1 hr
    -- r's place, j + 1 numbers in, is not ahead of p's
    have a1 : plc sz (cellL sz p) (j + 1) ≤ plc sz (cellL sz r) (j + 1) := by
      apply Int.not_lt.1
      intro hlt
      have := plc_ahead (x := cellL sz r) (y := cellL sz p) (k := j + 1) hwf.pos (Nat.le_refl _) (by omega) hlt (fun i hi => (cellL_bd hwf.pos _ hi).2) (fun i hi => (cellL_bd hwf.pos _ hi).1)
      rw [plc_of hwf hrl, plc_of hwf hp] at this
      omega
    have a2 : ¬ plc sz (cellL sz r) (j + 1) ≤ plc sz (cellL sz p) (j + 1) := by
      intro hle2
      have := plc_mono (x := cellL sz r) (y := cellL sz p) (k := j + 1) hwf.pos (Nat.le_refl _) (by omega) hle2 (fun i h1 h2 => by rw [hend i (by omega) h2]; exact (g i h2).2)
      rw [plc_of hwf hrl, plc_of hwf hp] at this
      omega
    have := plc_mono (x := nxt (cellL sz p) low j) (y := cellL sz r) (k := j + 1) hwf.pos (Nat.le_refl _) (by omega) (by omega) (fun i h1 h2 => by rw [hn i h2, if_neg (by omega), if_neg (by omega)]; exact (g i h2).1)
    rw [plc_of hwf hrl, hq] at this
    omega
end
/-- the contents when the places of a list were filled -/
def fillBy (cs : List Int) (n : Int) (pre : List Nat) : List Int := (List.range cs.length).map fun i => if i ∈ pre then n else rd cs i
@[simp] theorem fillBy_length (cs : List Int) (n : Int) (pre : List Nat) : (fillBy cs n pre).length = cs.length := by simp [fillBy]
theorem fillBy_nil (cs : List Int) (n : Int) : fillBy cs n [] = cs := by
  refine ext_rd (by simp) fun j hj => ?_
  simp at hj
  rw [fillBy, rd_map_range _ _ _ hj]; simp
theorem fillBy_snoc (cs : List Int) (n : Int) (pre : List Nat) (p : Nat) (hp : p < cs.length) : (fillBy cs n pre).set p n = fillBy cs n (pre ++ [p]) := by
  refine ext_rd (by simp) fun j hj => ?_
  simp at hj
  rw [rd_set _ _ _ _ (by simpa using hp), fillBy, rd_map_range _ _ _ hj, fillBy, rd_map_range _ _ _ hj]
  by_cases e : p = j
  · subst e; simp
  · simp [e, show ¬ j = p by omega]
theorem fillBy_hits (sz cs low high : List Int) (n : Int) : fillBy cs n (hits sz low high cs.length) = fillL sz cs low high n := by
  refine ext_rd (by simp [fillL]) fun j hj => ?_
  simp at hj
  rw [fillBy, rd_map_range _ _ _ hj, fillL, fillT, rd_map_range _ _ _ hj]
  simp [hits, hj]
end Go.Proofs.Ytilmhjojbolbeaa

/-! ## What a range is filled with, as plain lists: how many cells it has, what is seen and got there. No program in sight. No condition. -/
namespace Go.Proofs.Ytilmhjojbolbeaa

/-- how many of the first n -/
def cnt (f : Nat → Bool) : Nat → Nat
  | 0 => 0
  | n + 1 => cnt f n + (if f n then 1 else 0)
theorem cnt_congr {f g : Nat → Bool} {n : Nat} (h : ∀ k, k < n → f k = g k) : cnt f n = cnt g n := by
  induction n with
  | zero => rfl
  | succ n ih => simp only [cnt]; rw [ih (fun k hk => h k (by omega)), h n (by omega)]
theorem cnt_le {f g : Nat → Bool} {n : Nat} (h : ∀ k, k < n → f k = true → g k = true) : cnt f n ≤ cnt g n := by
  induction n with
  | zero => exact Nat.le_refl _
  | succ n ih =>
    simp only [cnt]
    have h1 := ih (fun k hk => h k (by omega))
    have h2 := h n (by omega)
    cases hf : f n <;> cases hg : g n <;> simp <;> simp [hf, hg] at h2 <;> omega
theorem cnt_none {f : Nat → Bool} {n : Nat} (h : ∀ k, k < n → f k = false) : cnt f n = 0 := by
  induction n with
  | zero => rfl
  | succ n ih => simp only [cnt]; rw [ih (fun k hk => h k (by omega)), h n (by omega)]; rfl
theorem cnt_add (f : Nat → Bool) (a b : Nat) : cnt f (a + b) = cnt f a + cnt (fun t => f (a + t)) b := by
  induction b with
  | zero => simp [cnt]
  | succ b ih => rw [← Nat.add_assoc]; simp only [cnt]; rw [ih, Nat.add_assoc]
theorem cnt_mul {f g h : Nat → Bool} {b : Nat} : ∀ a, (∀ p t, p < a → t < b → f (p * b + t) = (g p && h t)) → cnt f (a * b) = cnt g a * cnt h b := by
  intro a
  induction a with
  | zero => intro _; simp [cnt]
  | succ a ih =>
    intro hf
    rw [Nat.add_mul, Nat.one_mul, cnt_add, ih (fun p t hp ht => hf p t (by omega) ht), cnt, Nat.add_mul]
    congr 1
    cases hg : g a with
    | true => simp; exact cnt_congr fun t ht => by rw [hf a t (by omega) ht, hg]; simp
    | false => simp; exact cnt_none fun t ht => by rw [hf a t (by omega) ht, hg]; simp
theorem cnt_range {l h n : Nat} (h1 : l ≤ h) (h2 : h < n) : cnt (fun t => decide (l ≤ t) && decide (t ≤ h)) n = h - l + 1 := by
  obtain ⟨m, rfl⟩ : ∃ m, n = l + ((h - l + 1) + m) := ⟨n - (h + 1), by omega⟩
  rw [cnt_add, cnt_add, cnt_none (fun k hk => by simp; omega)]
  rw [cnt_none (n := m) (fun k hk => by simp; omega)]
  have : ∀ d, d ≤ h - l + 1 → cnt (fun t => decide (l ≤ l + t) && decide (l + t ≤ h)) d = d := by
    intro d
    induction d with
    | zero => intro _; rfl
    | succ d ih => intro hd; simp only [cnt]; rw [ih (by omega), if_pos (by simp; omega)]
  rw [this _ (Nat.le_refl _)]; omega

/-- how many cells a range has, of the first k coordinates -/
def vol (low high : List Int) : Nat → Int
  | 0 => 1
  | k + 1 => vol low high k * (rd high k - rd low k + 1)
/-- is the place q of the first k coordinates in the range -/
def inPre (sz low high : List Int) : Nat → Nat → Bool
  | 0, _ => true
  | k + 1, q => inPre sz low high k (q / (rd sz k).toNat) && (decide ((rd low k).toNat ≤ q % (rd sz k).toNat) && decide (q % (rd sz k).toNat ≤ (rd high k).toNat))
section
variable {sz cs low high : List Int}
theorem inPre_hit (hwf : Wf sz cs) (hm : mayB sz low high = true) (q : Nat) : ∀ k, k ≤ sz.length → inPre sz low high k (q / (suf sz k).toNat) = withinB (cellL sz (q : Int)) low high k := by
  obtain ⟨l1, l2, o1, o2, hle⟩ := may_facts hm
  intro k
  induction k with
  | zero => intro _; simp [inPre, withinB]
  | succ k ih =>
    intro hk
    have hp := hwf.pos k (by omega)
    have hs := suf_pos hwf.pos (k + 1)
    have hst := suf_step sz (show k < sz.length by omega)
    have b1 := okc_at o1 (show k < sz.length by omega)
    have b2 := okc_at o2 (show k < sz.length by omega)
    obtain ⟨s, e1⟩ := Int.eq_ofNat_of_zero_le (show 0 ≤ rd sz k by omega)
    obtain ⟨t, e2⟩ := Int.eq_ofNat_of_zero_le (show 0 ≤ suf sz (k + 1) by omega)
    obtain ⟨l, e3⟩ := Int.eq_ofNat_of_zero_le b1.1
    obtain ⟨h, e4⟩ := Int.eq_ofNat_of_zero_le b2.1
    have e5 : (suf sz k).toNat = t * s := by rw [hst, e1, e2, ← Int.natCast_mul, Int.toNat_natCast, Nat.mul_comm]
    have e6 : rd (cellL sz (q : Int)) k = ((q / t % s : Nat) : Int) := by rw [rd_cellL _ _ (by omega), dig, e2, e1]; simp
    simp only [inPre, withinB]
    rw [← ih (by omega), e5, e1, e2, e3, e4, e6]
    simp only [Int.toNat_natCast, Nat.div_div_eq_div_mul]
    congr 1
    congr 1 <;> exact decide_eq_decide.2 Int.ofNat_le.symm
theorem cnt_pre (hwf : Wf sz cs) (hm : mayB sz low high = true) : ∀ k, k ≤ sz.length → (cnt (inPre sz low high k) (pr sz k).toNat : Int) = vol low high k := by
  obtain ⟨l1, l2, o1, o2, hle⟩ := may_facts hm
  intro k
  induction k with
  | zero => intro _; rfl
  | succ k ih =>
    intro hk
    have hp := hwf.pos k (by omega)
    have hpk := pr_pos hwf.pos k (by omega)
    have b1 := okc_at o1 (show k < sz.length by omega)
    have b2 := okc_at o2 (show k < sz.length by omega)
    have b3 := hle k (by omega)
    obtain ⟨s, e1⟩ := Int.eq_ofNat_of_zero_le (show 0 ≤ rd sz k by omega)
    obtain ⟨t, e2⟩ := Int.eq_ofNat_of_zero_le (show 0 ≤ pr sz k by omega)
    obtain ⟨l, e3⟩ := Int.eq_ofNat_of_zero_le b1.1
    obtain ⟨h, e4⟩ := Int.eq_ofNat_of_zero_le b2.1
    have e5 : (pr sz (k + 1)).toNat = t * s := by rw [pr, e1, e2, ← Int.natCast_mul, Int.toNat_natCast]
    have hs : 0 < s := by omega
    rw [e5, cnt_mul (g := inPre sz low high k) (h := fun t => decide (l ≤ t) && decide (t ≤ h)) t (fun p x hp hx => by
      have hdiv : (p * s + x) / s = p := by rw [Nat.mul_comm p s, Nat.mul_add_div hs, Nat.div_eq_of_lt hx, Nat.add_zero]
      have hmod : (p * s + x) % s = x := by rw [Nat.mul_comm p s, Nat.mul_add_mod, Nat.mod_eq_of_lt hx]
      simp only [inPre, e1, e3, e4, Int.toNat_natCast, hdiv, hmod])]
    rw [cnt_range (by omega) (by omega), Int.natCast_mul, vol, ← ih (by omega), e2, Int.toNat_natCast, e3, e4]
    congr 1
    omega
theorem vol_bd (_hwf : Wf sz cs) (hm : mayB sz low high = true) : ∀ k, k ≤ sz.length → 1 ≤ vol low high k ∧ vol low high k ≤ pr sz k := by
  obtain ⟨l1, l2, o1, o2, hle⟩ := may_facts hm
  intro k
  induction k with
  | zero => intro _; simp [vol, pr]
  | succ k ih =>
    intro hk
    have hh := ih (by omega)
    have b1 := okc_at o1 (show k < sz.length by omega)
    have b2 := okc_at o2 (show k < sz.length by omega)
    have b3 := hle k (by omega)
    have m1 := Int.mul_le_mul hh.1 (show 1 ≤ rd high k - rd low k + 1 by omega) (by omega) (by omega)
    have m2 := Int.mul_le_mul hh.2 (show rd high k - rd low k + 1 ≤ rd sz k by omega) (by omega) (by omega)
    simp only [vol, pr]
    omega
/-- a range has as many cells as there are numbers between its bounds -/
theorem vol_hits (hwf : Wf sz cs) (hm : mayB sz low high = true) : vol low high sz.length = (cnt (hitB sz low high) cs.length : Nat) := by
  rw [← cnt_pre hwf hm _ (Nat.le_refl _), ← hwf.len, Int.toNat_natCast]
  congr 1
  refine cnt_congr fun q hq => ?_
  have := inPre_hit hwf hm q sz.length (Nat.le_refl _)
  rw [suf_end sz (Nat.le_refl _)] at this
  simpa [hitB] using this
theorem rd_fillL (n : Int) {k : Nat} (hk : k < cs.length) : rd (fillL sz cs low high n) k = if hitB sz low high k = true then n else rd cs k := by
  rw [fillL, fillT, rd_map_range _ _ _ hk]; simp [hk]
/-- how often the number stands among the first k -/
def eqN (xs : List Int) (n : Int) (k : Nat) : Nat := cnt (fun j => rd xs j == n) k
theorem eqN_step (xs : List Int) (n : Int) (k : Nat) : eqN xs n (k + 1) = eqN xs n k + (if rd xs k = n then 1 else 0) := by
  simp only [eqN, cnt]; congr 1; by_cases h : rd xs k = n <;> simp [h]
theorem eqN_le (xs : List Int) (n : Int) (k : Nat) : eqN xs n k ≤ k := by
  induction k with
  | zero => exact Nat.le_refl _
  | succ k ih => rw [eqN_step]; split <;> omega
theorem vol_eqN (hwf : Wf sz cs) (hm : mayB sz low high = true) (n : Int) : vol low high sz.length ≤ (eqN (fillL sz cs low high n) n cs.length : Nat) := by
  rw [vol_hits hwf hm]
  have : cnt (hitB sz low high) cs.length ≤ eqN (fillL sz cs low high n) n cs.length := cnt_le fun k hk h => by rw [rd_fillL n hk, if_pos h]; simp
  omega
theorem get_hit (hwf : Wf sz cs) (n : Int) {c : List Int} (hc : isCell sz c = true) (hh : ∀ k, k < sz.length → rd low k ≤ rd c k ∧ rd c k ≤ rd high k) : getV sz (fillL sz cs low high n) c = n := by
  have hlt := placeV_lt (c := c) hwf
  rw [placeV, if_pos hc] at hlt
  rw [getV, if_pos hc]
  simp only [isCell, Bool.and_eq_true, decide_eq_true_eq] at hc
  obtain ⟨p, hp⟩ := Int.eq_ofNat_of_zero_le hlt.1
  rw [hp] at hlt ⊢
  rw [Int.toNat_natCast, rd_fillL n (by omega), if_pos]
  rw [hit_iff, ← hp, hc.1, cellL_plc hwf.pos hc.1 (by rw [← hc.1]; exact hc.2)]
  exact hh
theorem filled_get (hwf : Wf sz cs) (hm : mayB sz low high = true) (n : Int) : getV sz (fillL sz cs low high n) low = n ∧ getV sz (fillL sz cs low high n) high = n ∧ placeE sz low = 0 ∧ placeE sz high = 0 := by
  obtain ⟨l1, l2, o1, o2, hle⟩ := may_facts hm
  have c1 : isCell sz low = true := by simp [isCell, l1, o1]
  have c2 : isCell sz high = true := by simp [isCell, l2, o2]
  exact ⟨get_hit hwf n c1 fun k hk => ⟨Int.le_refl _, hle k hk⟩, get_hit hwf n c2 fun k hk => ⟨hle k hk, Int.le_refl _⟩, by simp [placeE, c1], by simp [placeE, c2]⟩
theorem filled_seenT (n : Int) : ∀ k, k ≤ cs.length → seenT sz (fillL sz cs low high n) low high k = if hits sz low high k = [] then [] else [n] := by
  intro k
  induction k with
  | zero => intro _; rfl
  | succ k ih =>
    intro hk
    have h1 := ih (by omega)
    cases hh : hitB sz low high k with
    | false => rw [seenT_miss hh, h1, hits_skip (p := k) (q := k + 1) (by omega) (fun r h1 h2 => by obtain rfl : r = k := (by omega); exact hh)]
    | true =>
      have hv : rd (fillL sz cs low high n) k = n := by rw [rd_fillL n (by omega), if_pos hh]
      rw [hits_hit hh, if_neg (by simp)]
      by_cases he : hits sz low high k = []
      · rw [if_pos he] at h1
        rw [seenT_new hh (by rw [h1]; simp), h1, hv]; rfl
      · rw [if_neg he] at h1
        rw [seenT_old (by rw [h1, hv]; simp), h1]
theorem filled_seen (hwf : Wf sz cs) (hm : mayB sz low high = true) (n : Int) : seenL sz (fillL sz cs low high n) low high = [n] := by
  have hlen : (fillL sz cs low high n).length = cs.length := by simp [fillL]
  rw [seenL, if_pos hm, hlen, filled_seenT n _ (Nat.le_refl _), if_neg]
  obtain ⟨p, _, hp, _, hh, _⟩ := first_hit hwf hm
  intro he
  have : p ∈ hits sz low high cs.length := by simp [hits, hh, hp]
  rw [he] at this; cases this
end
end Go.Proofs.Ytilmhjojbolbeaa


namespace Go.Proofs.Ytilmhjojbolbeaa
/-- two lists put together -/
def zipL (f : Int → Int → Int) (xs ys : List Int) : List Int := (List.range xs.length).map fun j => f (rd xs j) (rd ys j)
@[simp] theorem zipL_length (f : Int → Int → Int) (xs ys : List Int) : (zipL f xs ys).length = xs.length := by simp [zipL]
theorem rd_zipL (f : Int → Int → Int) (xs ys : List Int) {j : Nat} (h : j < xs.length) : rd (zipL f xs ys) j = f (rd xs j) (rd ys j) := rd_map_range _ _ _ h

theorem cnt_same {f g : Nat → Bool} {n : Nat} (h : ∀ k, k < n → f k = true → g k = true) (he : cnt f n = cnt g n) : ∀ k, k < n → g k = true → f k = true := by
  induction n with
  | zero => intro k hk; omega
  | succ n ih =>
    have h1 := cnt_le (fun k hk => h k (by omega : k < n + 1)) (f := f) (g := g) (n := n)
    simp only [cnt] at he
    intro k hk hg
    by_cases e : k = n
    · subst e
      cases hf : f k with
      | true => rfl
      | false => rw [hf, hg] at he; simp at he; omega
    · refine ih (fun k hk => h k (by omega)) ?_ k (by omega) hg
      cases hf : f n with
      | true => rw [hf, h n (by omega) hf] at he; simp at he; exact he
      | false =>
        rw [hf] at he
        cases hgn : g n with
        | true => rw [hgn] at he; simp at he; omega
        | false => rw [hgn] at he; simpa using he

/-- the least numbers, and the greatest, of the cells among the first k in which n stands -/
def mnT (sz cs : List Int) (n : Int) : Nat → List Int
  | 0 => []
  | k + 1 => if rd cs k = n then (if eqN cs n k = 0 then cellL sz (k : Int) else zipL min (mnT sz cs n k) (cellL sz (k : Int))) else mnT sz cs n k
def mxT (sz cs : List Int) (n : Int) : Nat → List Int
  | 0 => []
  | k + 1 => if rd cs k = n then (if eqN cs n k = 0 then cellL sz (k : Int) else zipL max (mxT sz cs n k) (cellL sz (k : Int))) else mxT sz cs n k
section
variable {sz cs : List Int} {n : Int}
theorem mT_none : ∀ k, eqN cs n k = 0 → mnT sz cs n k = [] ∧ mxT sz cs n k = [] := by
  intro k
  induction k with
  | zero => intro _; exact ⟨rfl, rfl⟩
  | succ k ih =>
    intro h
    rw [eqN_step] at h
    have hne : ¬ rd cs k = n := fun e => by rw [if_pos e] at h; omega
    rw [if_neg hne] at h
    simp only [mnT, mxT, if_neg hne]
    exact ih h
theorem mT_len : ∀ k, eqN cs n k ≠ 0 → (mnT sz cs n k).length = sz.length ∧ (mxT sz cs n k).length = sz.length := by
  intro k
  induction k with
  | zero => intro h; exact absurd rfl h
  | succ k ih =>
    intro h
    rw [eqN_step] at h
    simp only [mnT, mxT]
    by_cases e : rd cs k = n
    · rw [if_pos e, if_pos e]
      by_cases h0 : eqN cs n k = 0
      · simp [h0]
      · simp [h0, ih h0]
    · rw [if_neg e, if_neg e]
      rw [if_neg e] at h
      exact ih h
theorem mT_bd (hwf : Wf sz cs) : ∀ k, eqN cs n k ≠ 0 → ∀ j, j < sz.length → 0 ≤ rd (mnT sz cs n k) j ∧ rd (mnT sz cs n k) j < rd sz j ∧ 0 ≤ rd (mxT sz cs n k) j ∧ rd (mxT sz cs n k) j < rd sz j ∧
    rd (mnT sz cs n k) j ≤ rd (mxT sz cs n k) j := by
  intro k
  induction k with
  | zero => intro h; exact absurd rfl h
  | succ k ih =>
    intro h j hj
    rw [eqN_step] at h
    simp only [mnT, mxT]
    have hc := cellL_bd hwf.pos (k : Int) hj
    by_cases e : rd cs k = n
    · rw [if_pos e, if_pos e]
      by_cases h0 : eqN cs n k = 0
      · simp only [h0, if_true]; omega
      · have h1 := ih h0 j hj
        have h2 := mT_len (sz := sz) k h0
        simp only [h0, if_false]
        rw [rd_zipL _ _ _ (by omega), rd_zipL _ _ _ (by omega)]
        omega
    · rw [if_neg e, if_neg e]
      rw [if_neg e] at h
      exact ih h j hj
theorem mT_in (hwf : Wf sz cs) : ∀ k, ∀ q, q < k → rd cs q = n → ∀ j, j < sz.length → rd (mnT sz cs n k) j ≤ rd (cellL sz (q : Int)) j ∧ rd (cellL sz (q : Int)) j ≤ rd (mxT sz cs n k) j := by
  intro k
  induction k with
  | zero => intro q hq; omega
  | succ k ih =>
    intro q hq hqn j hj
    simp only [mnT, mxT]
    by_cases e : rd cs k = n
    · rw [if_pos e, if_pos e]
      by_cases h0 : eqN cs n k = 0
      · simp only [h0, if_true]
        by_cases hqk : q = k
        · subst hqk; exact ⟨Int.le_refl _, Int.le_refl _⟩
        · exfalso
          have : 1 ≤ eqN cs n (q + 1) := by rw [eqN_step, if_pos hqn]; omega
          have hmono : ∀ d, eqN cs n (q + 1) ≤ eqN cs n (q + 1 + d) := fun d => by
            induction d with
            | zero => exact Nat.le_refl _
            | succ d ihd => rw [← Nat.add_assoc]; have h9 := eqN_step cs n (q + 1 + d); split at h9 <;> omega
          have := hmono (k - (q + 1))
          rw [show q + 1 + (k - (q + 1)) = k by omega] at this
          omega
      · have h2 := mT_len (sz := sz) k h0
        simp only [h0, if_false]
        rw [rd_zipL _ _ _ (by omega), rd_zipL _ _ _ (by omega)]
        by_cases hqk : q = k
        · subst hqk; omega
        · have := ih q (by omega) hqn j hj
          omega
    · rw [if_neg e, if_neg e]
      have hqk : q ≠ k := fun hk => e (hk ▸ hqn)
      exact ih q (by omega) hqn j hj
/-- the range of the cells in which n stands -/
def mnC (sz cs : List Int) (n : Int) : List Int := mnT sz cs n cs.length
def mxC (sz cs : List Int) (n : Int) : List Int := mxT sz cs n cs.length
theorem mC_may (hwf : Wf sz cs) (h0 : eqN cs n cs.length ≠ 0) : mayB sz (mnC sz cs n) (mxC sz cs n) = true := by
  have hl := mT_len (sz := sz) cs.length h0
  have hb := mT_bd hwf cs.length h0
  simp only [mayB, isCell, Bool.and_eq_true, decide_eq_true_eq]
  refine ⟨⟨⟨hl.1, ?_⟩, hl.2, ?_⟩, ?_⟩
  · rw [show (mnC sz cs n).length = sz.length from hl.1]; exact okc_of fun k hk => ⟨(hb k hk).1, (hb k hk).2.1⟩
  · rw [show (mxC sz cs n).length = sz.length from hl.2]; exact okc_of fun k hk => ⟨(hb k hk).2.2.1, (hb k hk).2.2.2.1⟩
  · rw [show (mnC sz cs n).length = sz.length from hl.1]; exact leB_at.2 fun k hk => (hb k hk).2.2.2.2
theorem mC_hit (hwf : Wf sz cs) {q : Nat} (hq : q < cs.length) (hqn : rd cs q = n) : hitB sz (mnC sz cs n) (mxC sz cs n) q = true :=
  hit_iff.2 fun j hj => mT_in hwf cs.length q hq hqn j hj
/-- P14.1: does n stand in a whole range -/
def ofOk (sz cs : List Int) (n : Int) : Bool := decide (eqN cs n cs.length ≠ 0) && decide (vol (mnC sz cs n) (mxC sz cs n) sz.length = (eqN cs n cs.length : Nat))
theorem some_eqN {k : Nat} (h : eqN cs n k ≠ 0) : ∃ q, q < k ∧ rd cs q = n := by
  induction k with
  | zero => exact absurd rfl h
  | succ k ih =>
    rw [eqN_step] at h
    by_cases e : rd cs k = n
    · exact ⟨k, by omega, e⟩
    · rw [if_neg e] at h
      obtain ⟨q, hq, hqn⟩ := ih h
      exact ⟨q, by omega, hqn⟩
theorem seenT_mem (low high : List Int) : ∀ k q, q < k → hitB sz low high q = true → rd cs q ∈ seenT sz cs low high k := by
  intro k
  induction k with
  | zero => intro q hq; omega
  | succ k ih =>
    intro q hq hh
    by_cases e : q = k
    · subst e
      by_cases hin : rd cs q ∈ seenT sz cs low high q
      · rw [seenT_old hin]; exact hin
      · rw [seenT_new hh hin]; simp
    · have := ih q (by omega) hh
      simp only [seenT]
      split
      · simp [this]
      · exact this
theorem seenT_one (low high : List Int) (k : Nat) (h : ∀ q, q < k → hitB sz low high q = true → rd cs q = n) : seenT sz cs low high k = if hits sz low high k = [] then [] else [n] := by
  induction k with
  | zero => rfl
  | succ k ih =>
    have h1 := ih (fun q hq => h q (by omega))
    cases hh : hitB sz low high k with
    | false => rw [seenT_miss hh, h1, hits_skip (p := k) (q := k + 1) (by omega) (fun r h1 h2 => by obtain rfl : r = k := (by omega); exact hh)]
    | true =>
      have hv := h k (by omega) hh
      rw [hits_hit hh, if_neg (by simp)]
      by_cases he : hits sz low high k = []
      · rw [if_pos he] at h1
        rw [seenT_new hh (by rw [h1]; simp), h1, hv]; rfl
      · rw [if_neg he] at h1
        rw [seenT_old (by rw [h1, hv]; simp), h1]
/-- one number is seen there, just when its cells fill the range -/
theorem of_seen (hwf : Wf sz cs) (h0 : eqN cs n cs.length ≠ 0) : decide ((seenL sz cs (mnC sz cs n) (mxC sz cs n)).length = 1) = decide (vol (mnC sz cs n) (mxC sz cs n) sz.length = (eqN cs n cs.length : Nat)) := by
  have hm := mC_may hwf h0
  have hv := vol_hits hwf hm
  have hf : ∀ k, k < cs.length → (rd cs k == n) = true → hitB sz (mnC sz cs n) (mxC sz cs n) k = true := fun k hk e => mC_hit hwf hk (by simpa using e)
  obtain ⟨q0, hq0, hqn0⟩ := some_eqN h0
  have hh0 := mC_hit hwf hq0 hqn0
  rw [seenL, if_pos hm, hv]
  refine decide_eq_decide.2 ⟨fun h1 => ?_, fun h1 => ?_⟩
  · obtain ⟨x, hx⟩ := List.length_eq_one_iff.1 h1
    have hall : ∀ k, k < cs.length → hitB sz (mnC sz cs n) (mxC sz cs n) k = true → rd cs k = n := fun k hk hh => by
      have e1 := seenT_mem (cs := cs) _ _ cs.length k hk hh
      have e2 := seenT_mem (cs := cs) _ _ cs.length q0 hq0 hh0
      rw [hx] at e1 e2
      simp at e1 e2
      rw [e1, ← e2, hqn0]
    have : cnt (hitB sz (mnC sz cs n) (mxC sz cs n)) cs.length = eqN cs n cs.length := Nat.le_antisymm (cnt_le fun k hk hh => by simpa using hall k hk hh) (cnt_le hf)
    rw [this]
  · have he : cnt (fun j => rd cs j == n) cs.length = cnt (hitB sz (mnC sz cs n) (mxC sz cs n)) cs.length := by
      have : cnt (hitB sz (mnC sz cs n) (mxC sz cs n)) cs.length = eqN cs n cs.length := by omega
      rw [this]; rfl
    have hall := cnt_same hf he
    rw [seenT_one _ _ _ (fun q hq hh => by simpa using hall q hq hh), if_neg]
    · rfl
    · intro hnil
      have : q0 ∈ hits sz (mnC sz cs n) (mxC sz cs n) cs.length := by simp [hits, hh0, hq0]
      rw [hnil] at this; cases this

/-! ### the cells in their order, one by one -/
def zeros (sz : List Int) : List Int := List.replicate sz.length 0
def lasts (sz : List Int) : List Int := sz.map (· - 1)
theorem rd_zeros {j : Nat} (hj : j < sz.length) : rd (zeros sz) j = 0 := by simp [zeros, rd_eq, hj]
theorem rd_lasts {j : Nat} (hj : j < sz.length) : rd (lasts sz) j = rd sz j - 1 := by simp [lasts, rd_eq, hj]
theorem all_may (hwf : Wf sz cs) : mayB sz (zeros sz) (lasts sz) = true := by
  simp only [mayB, isCell, Bool.and_eq_true, decide_eq_true_eq]
  have l1 : (zeros sz).length = sz.length := by simp [zeros]
  have l2 : (lasts sz).length = sz.length := by simp [lasts]
  refine ⟨⟨⟨l1, ?_⟩, l2, ?_⟩, ?_⟩
  · rw [l1]; exact okc_of fun k hk => by have := hwf.pos k hk; rw [rd_zeros hk]; omega
  · rw [l2]; exact okc_of fun k hk => by have := hwf.pos k hk; rw [rd_lasts hk]; omega
  · rw [l1]; exact leB_at.2 fun k hk => by have := hwf.pos k hk; rw [rd_zeros hk, rd_lasts hk]; omega
theorem all_hit (hwf : Wf sz cs) (q : Nat) : hitB sz (zeros sz) (lasts sz) q = true :=
  hit_iff.2 fun j hj => by have := cellL_bd hwf.pos (q : Int) hj; rw [rd_zeros hj, rd_lasts hj]; omega
theorem all_hits (hwf : Wf sz cs) (k : Nat) : hits sz (zeros sz) (lasts sz) k = List.range k := by
  rw [hits, List.filter_eq_self]; exact fun q _ => all_hit hwf q
theorem cell_first (hwf : Wf sz cs) : cellL sz ((0 : Nat) : Int) = zeros sz := by
  refine ext_rd (by simp [zeros]) fun j hj => ?_
  simp only [cellL_length] at hj
  rw [rd_cellL _ _ hj, rd_zeros hj, dig]; simp
/-- the cell behind the cell p -/
theorem cell_next (hwf : Wf sz cs) {p j : Nat} (hp : p < cs.length) (hj : j < sz.length) (hend : ∀ i, j < i → i < sz.length → rd (cellL sz (p : Int)) i = rd sz i - 1) (hne : rd (cellL sz (p : Int)) j + 1 < rd sz j) :
    cellL sz ((p + 1 : Nat) : Int) = nxt (cellL sz (p : Int)) (zeros sz) j := by
  obtain ⟨q, _, hq, hc, _, hh, hpq⟩ := next_hit hwf (all_may hwf) hp (all_hit hwf p) hj (fun i h1 h2 => by rw [hend i h1 h2, rd_lasts h2]) (by rw [rd_lasts hj]; omega)
  rw [all_hits hwf, all_hits hwf] at hh
  have : q = p + 1 := by have := congrArg List.length hh; simpa using this
  rw [← this, hc]
end
end Go.Proofs.Ytilmhjojbolbeaa

