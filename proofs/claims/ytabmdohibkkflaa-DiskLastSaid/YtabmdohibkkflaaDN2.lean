/-
  What functions of the program compute. No condition beside those that each theorem states.
-/
import Derived.Test.YtabmdohibkkflaaDN1
import Derived.Test.YtabmdohibkkflaaPA4
set_option linter.all false

namespace Go.Proofs.Ytabmdohibkkflaa.AM
open Go
set_option maxRecDepth 100000
theorem entry_at {col : Int → Int} {M : Int} (h : ∀ j, 0 ≤ col j ∧ col j < 256) {f : Ix → Int} (hf : ∀ j : Int, f [j] = (((bytesOf M fun ix => col (hd ix)).getD j.toNat 0).toNat : Int)) (j : Int) (h0 : 0 ≤ j) (h1 : j < M) : f [j] = col j := by
  have := bytesOf_at (n := M) (f := fun ix => col (hd ix)) (j := j.toNat) (by omega) (h _)
  rw [hf, this]
  simp only [AM.hd, Int.toNat_of_nonneg h0]
theorem headCol_in (kind tx i j : Int) : 0 ≤ headCol kind tx i j ∧ headCol kind tx i j < 256 := by
  unfold headCol
  exact putF_in (f := fun ix => putF (fun ix => putF (fun _ => 0) 0 1 (IntKind.u32.wrap kind) (hd ix)) 1 4 (IntKind.u32.wrap tx) (hd ix)) (putF_in (f := fun ix => putF (fun _ => 0) 0 1 (IntKind.u32.wrap kind) (hd ix)) (putF_in (by simp)))
theorem stageCol_in (tx i k n : Int) (b : Str) (j : Int) : 0 ≤ stageCol tx i k n b j ∧ stageCol tx i k n b j < 256 := by
  unfold stageCol
  exact putT_in (f := fun ix => putF (fun ix => putF (fun ix => headCol 1 tx i (hd ix)) 7 1 (IntKind.u32.wrap k) (hd ix)) 8 2 (IntKind.u32.wrap n) (hd ix)) (putF_in (f := fun ix => putF (fun ix => headCol 1 tx i (hd ix)) 7 1 (IntKind.u32.wrap k) (hd ix)) (putF_in (f := fun ix => headCol 1 tx i (hd ix)) (headCol_in _ _ _ _)))
theorem commitCol_in (tx i sum : Int) (j : Int) : 0 ≤ commitCol tx i sum j ∧ commitCol tx i sum j < 256 := by
  unfold commitCol
  exact putF_in (f := fun ix => putF (fun ix => headCol 2 tx i (hd ix)) 7 2 (IntKind.u32.wrap i) (hd ix)) (putF_in (f := fun ix => headCol 2 tx i (hd ix)) (headCol_in _ _ _ _))
/-- the columns' places -/
theorem head_cols (kind tx i : Int) : headCol kind tx i 0 = IntKind.u8.wrap (shrF .u32 (IntKind.u32.wrap kind) 0) ∧
    (headCol kind tx i 1 = IntKind.u8.wrap (shrF .u32 (IntKind.u32.wrap tx) 24) ∧ headCol kind tx i 2 = IntKind.u8.wrap (shrF .u32 (IntKind.u32.wrap tx) 16) ∧ headCol kind tx i 3 = IntKind.u8.wrap (shrF .u32 (IntKind.u32.wrap tx) 8) ∧ headCol kind tx i 4 = IntKind.u8.wrap (shrF .u32 (IntKind.u32.wrap tx) 0)) ∧
    headCol kind tx i 5 = IntKind.u8.wrap (shrF .u32 (IntKind.u32.wrap i) 8) ∧ headCol kind tx i 6 = IntKind.u8.wrap (shrF .u32 (IntKind.u32.wrap i) 0) := by
  refine ⟨?_, ⟨?_, ?_, ?_, ?_⟩, ?_, ?_⟩ <;> simp [headCol, putF, AM.hd]
theorem head_at {kind tx i : Int} (hk : 0 ≤ kind ∧ kind < 256) (ht : 0 ≤ tx ∧ tx < 4294967296) (hi : 0 ≤ i ∧ i < 65536) {f : Ix → Int} (hf : ∀ j : Int, 0 ≤ j → j < 7 → f [j] = headCol kind tx i j) : f [0] = kind ∧ getF f 1 4 = tx ∧ getF f 5 2 = i := by
  obtain ⟨c0, ⟨c1, c2, c3, c4⟩, c5, c6⟩ := head_cols kind tx i
  rw [u32_id (by omega)] at c0 c1 c2 c3 c4 c5 c6
  refine ⟨?_, getF_4 ht ((hf 1 (by omega) (by omega)).trans c1) ((hf 2 (by omega) (by omega)).trans c2) ((hf 3 (by omega) (by omega)).trans c3) ((hf 4 (by omega) (by omega)).trans c4), getF_2 hi ((hf 5 (by omega) (by omega)).trans c5) ((hf 6 (by omega) (by omega)).trans c6)⟩
  rw [hf 0 (by omega) (by omega), c0, (shr_div hk.1).1, u8_mod]; omega
theorem putF_no {f : Ix → Int} {at' w v j : Int} (h : ¬ (at' ≤ j ∧ j < at' + w)) : putF f at' w v j = f [j] := if_neg h
theorem putT_no {f : Ix → Int} {at' : Int} {s : Str} {j : Int} (h : ¬ (at' ≤ j ∧ j < at' + s.length)) : putT f at' s j = f [j] := if_neg h
theorem stage_head (tx i k n : Int) (b : Str) {j : Int} (h1 : j < 7) : stageCol tx i k n b j = headCol 1 tx i j := by
  unfold stageCol
  exact (putT_no (by omega)).trans ((putF_no (j := j) (by omega)).trans (putF_no (j := j) (by omega)))
theorem stage_cols (tx i k n : Int) (b : Str) : stageCol tx i k n b 7 = IntKind.u8.wrap (shrF .u32 (IntKind.u32.wrap k) 0) ∧ stageCol tx i k n b 8 = IntKind.u8.wrap (shrF .u32 (IntKind.u32.wrap n) 8) ∧ stageCol tx i k n b 9 = IntKind.u8.wrap (shrF .u32 (IntKind.u32.wrap n) 0) := by
  refine ⟨?_, ?_, ?_⟩ <;> simp [stageCol, putT, putF, AM.hd]
theorem commit_head (tx i sum : Int) {j : Int} (h1 : j < 7) : commitCol tx i sum j = headCol 2 tx i j := by
  unfold commitCol
  exact (putF_no (by omega)).trans (putF_no (j := j) (by omega))
theorem commit_cols (tx i sum : Int) : (commitCol tx i sum 7 = IntKind.u8.wrap (shrF .u32 (IntKind.u32.wrap i) 8) ∧ commitCol tx i sum 8 = IntKind.u8.wrap (shrF .u32 (IntKind.u32.wrap i) 0)) ∧ commitCol tx i sum 9 = IntKind.u8.wrap (shrF .u32 sum 24) ∧ commitCol tx i sum 10 = IntKind.u8.wrap (shrF .u32 sum 16) ∧ commitCol tx i sum 11 = IntKind.u8.wrap (shrF .u32 sum 8) ∧ commitCol tx i sum 12 = IntKind.u8.wrap (shrF .u32 sum 0) := by
  refine ⟨⟨?_, ?_⟩, ?_, ?_, ?_, ?_⟩ <;> simp [commitCol, putF, AM.hd]
theorem stage_len (tx i k n : Int) (b : Str) : (stageF tx i k n b).length = 10 + b.length := by rw [stageF, bytesOf_length]; omega
theorem stage_drop (tx i k n : Int) (b : Str) : (stageF tx i k n b).drop 10 = b := by
  apply List.ext_getElem?
  intro j
  rw [List.getElem?_drop]
  by_cases hj : j < b.length
  · have hl : 10 + j < (10 + (b.length : Int)).toNat := by omega
    have h1 : (stageF tx i k n b)[10 + j]? = some (UInt8.ofNat (stageCol tx i k n b ((10 + j : Nat) : Int)).toNat) := by
      rw [stageF, bytesOf, List.getElem?_map, List.getElem?_range hl]; rfl
    have h2 : stageCol tx i k n b ((10 + j : Nat) : Int) = ((b.getD j 0).toNat : Int) := by
      unfold stageCol putT
      rw [if_pos ⟨by omega, by omega⟩, show (((10 + j : Nat) : Int) - 10).toNat = j by omega]
    rw [h1, h2, Int.toNat_natCast, UInt8.ofNat_toNat, List.getD_eq_getElem?_getD, List.getElem?_eq_getElem hj]
    rfl
  · rw [List.getElem?_eq_none (by rw [stage_len]; omega), List.getElem?_eq_none (by omega)]
theorem least_tri (kd v : Int) (h : (kd = 1 ∧ v = 10) ∨ (kd = 2 ∧ v = 13) ∨ (kd = 3 ∧ v = 7)) : TriS Try.prog 99 [.i .i64 kd] [] (fun r σ => r = .i .i64 v ∧ σ = []) := by
  rcases h with ⟨rfl, rfl⟩ | ⟨rfl, rfl⟩ | ⟨rfl, rfl⟩
  all_goals
    refine tri_of TT_ok mixed (OR := OR0) (fn := Try.f99) (c := body Try.f99) (by kernel_rfl) (by kernel_rfl) (by kernel_rfl) (by kernel_rfl) (by simp [Try.f99]) fun H Tri hH hTri => ?_
  · cbv
    refine ⟨1, ?_⟩
    cbv
    refine ⟨by rw [hH, hH]; rfl, fin_i ⟨rfl, rfl⟩⟩
  · cbv
    refine ⟨2, ?_⟩
    cbv
    refine ⟨by rw [hH, hH]; rfl, fin_i ⟨rfl, rfl⟩⟩
  · cbv
    refine ⟨3, ?_⟩
    cbv
    refine ⟨by rw [hH, hH]; rfl, fin_i ⟨rfl, rfl⟩⟩
theorem get2_tri (n at' w : Int) (f : Ix → Int) (hb : 0 ≤ at' ∧ at' + w ≤ n ∧ n ≤ 4096) (hw : w = 1 ∨ w = 2 ∨ w = 4) :
    TriS Try.prog 100 [.i .i64 at', .i .i64 w, .pt 0 0] ((0, .st [.pt 1 0] 140) :: textS 1 n f) (fun r σ => ∃ v, v = IntKind.i64.wrap (getF f at' w.toNat) ∧ r = .i .i64 v ∧ σ = (0, .st [.pt 1 0] 140) :: textS 1 n f) := by
  refine tri_of TT_ok mixed (OR := OR0) (fn := Try.f100) (c := body Try.f100) (by kernel_rfl) (by kernel_rfl) (by kernel_rfl) (by kernel_rfl) (by simp [Try.f100]) fun H Tri hH hTri => ?_
  cbv
  refine ⟨[1], ⟨⟨rfl, rfl⟩, rfl⟩, _, _, ?_, ?_, _, hTri _ _ _ _ (area_get n at' w f hb hw), ?_⟩
  · cbv
  · cbv
  rintro x σ ⟨v, hv, rfl, rfl⟩
  cbv
  obtain ⟨v1, hv1⟩ : ∃ v1, v1 = IntKind.i64.wrap v := ⟨_, rfl⟩
  rw [hH, ← hv1]
  refine ⟨_, _, ⟨v1, by rw [hv1, hv], rfl, rfl⟩, ?_⟩
  cbv
  simp
def OR74 : Nat → List (Nat × List Nat)
  | 14 => [(0, []), (2, []), (4, []), (5, []), (1, [2, 4, 5]), (3, [4, 5]), (6, []), (7, []), (8, [])]
  | _ => []
theorem decode_stage (tx i k n : Int) (b : Str) (ht : 1 ≤ tx ∧ tx ≤ 4294967295) (hi : 0 ≤ i ∧ i ≤ 999) (hp : okP k n b) :
    TriS Try.prog 74 [.s (stageF tx i k n b)] [] (fun r σ => r = .tu [entV 1 tx i k n b 0 0, .i .i64 0] ∧ σ = []) := by
  refine tri_of TT_ok mixed (OR := OR74) (fn := Try.f74) (c := body Try.f74) (by kernel_rfl) (by kernel_rfl) (by kernel_rfl) (by kernel_rfl) (by simp [Try.f74]) fun H Tri hH hTri => ?_
  have hl := stage_len tx i k n b
  have hdrop := stage_drop tx i k n b
  have henc := encode_stage tx i k n b ht hi hp
  obtain ⟨⟨pk0, pk1⟩, ⟨pn0, pn1⟩, pl, -⟩ := id hp
  have hat : ∀ (f : Ix → Int), (∀ j : Int, f [j] = (((stageF tx i k n b).getD j.toNat 0).toNat : Int)) → ∀ j : Int, 0 ≤ j → j < 10 + (b.length : Int) → f [j] = stageCol tx i k n b j := fun f hf j h0 h1 => entry_at (stageCol_in tx i k n b) hf j h0 h1
  obtain ⟨z, hz⟩ : ∃ z, z = stageF tx i k n b := ⟨_, rfl⟩
  rw [← hz] at hl hat hdrop henc ⊢
  have hfacts : ∀ (f : Ix → Int), (∀ j : Int, f [j] = ((z.getD j.toNat 0).toNat : Int)) → (f [0] = 1 ∧ getF f 1 4 = tx ∧ getF f 5 2 = i) ∧ getF f 7 1 = k ∧ getF f 8 2 = n := fun f hf => by
    have h9 := hat f hf
    obtain ⟨c7, c8, c9⟩ := stage_cols tx i k n b
    rw [u32_id (by omega)] at c7 c8 c9
    exact ⟨head_at (by omega) (by omega) (by omega) (fun j h0 h1 => (h9 j h0 (by omega)).trans (stage_head tx i k n b h1)), getF_1 (by omega) ((h9 7 (by omega) (by omega)).trans c7), getF_2 (by omega) ((h9 8 (by omega) (by omega)).trans c8) ((h9 9 (by omega) (by omega)).trans c9)⟩
  have hzi : (NatCast.natCast z.length : Int) = 10 + b.length := by rw [hl]; rfl
  have hz0 : ((z.getD 0 0).toNat : Int) = 1 := (hfacts (fun ix => ((z.getD (hd ix).toNat 0).toNat : Int)) (fun j => rfl)).1.1
  have hne : z ≠ [] := fun e => by rw [e] at hl; simp at hl; omega
  have hb10 : (10 : Int) + b.length ≤ 240 ∧ (10 : Int) ≤ 10 + b.length := by omega
  obtain ⟨M, hM⟩ : ∃ M : Int, M = 10 + (b.length : Int) := ⟨_, rfl⟩
  rw [← hM] at hzi hb10
  clear hat hM
  cbv
  split
  case h_1 => rename_i h; exact absurd h (by rw [hH]; simp [hne])
  cbv
  refine ⟨by rw [hH]; simp only [hzi]; simp; omega, ?_⟩
  have hkd : H Int (IntKind.i64.wrap (H Int (NatCast.natCast (z.getD (Int.toNat 0) 0).toNat))) = 1 := by
    rw [hH, hH]; exact (congrArg IntKind.i64.wrap hz0).trans (IntWalk.i64_in _ (by omega))
  rw [hkd]
  refine ⟨[], ⟨⟨rfl, rfl⟩, rfl⟩, _, _, ?_, ?_, _, hTri _ _ _ _ (least_tri 1 10 (.inl ⟨rfl, rfl⟩)), ?_⟩
  · cbv
  · cbv
  rintro x σ ⟨rfl, rfl⟩
  cbv
  split
  case h_1 => rename_i h; exact absurd h (by rw [hH]; simp)
  cbv
  split
  case h_1 => rename_i h; simp only [hH, decide_eq_true_eq, hzi] at h; have h : 256 < M := h; omega
  cbv
  split
  case h_1 => rename_i h; simp only [hH, decide_eq_true_eq, hzi] at h; omega
  cbv
  refine ⟨[], ⟨⟨rfl, rfl⟩, rfl⟩, _, _, ?_, ?_, _, hTri _ _ _ _ (area_of z (by omega)), ?_⟩
  · cbv
  · cbv
  rintro x σ ⟨f, hf, rfl, L, hL, rfl⟩
  have hLM : L = M := hL.trans hzi
  clear hL
  obtain ⟨⟨g0, g1, g2⟩, g3, g4⟩ := hfacts f hf
  cbv
  refine ⟨[141, 221], ⟨⟨rfl, rfl⟩, rfl⟩, _, _, ?_, ?_, _, hTri _ _ _ _ (get2_tri L 1 4 f (by omega) (.inr (.inr rfl))), ?_⟩
  · cbv
  · cbv
  rintro x σ ⟨v1, hv1, rfl, rfl⟩
  obtain rfl : v1 = tx := by rw [hv1, show (4 : Int).toNat = 4 from rfl, g1]; exact IntWalk.i64_in _ (by omega)
  cbv
  refine ⟨[141, 221], ⟨⟨rfl, rfl⟩, rfl⟩, _, _, ?_, ?_, _, hTri _ _ _ _ (get2_tri L 5 2 f (by omega) (.inr (.inl rfl))), ?_⟩
  · cbv
  · cbv
  rintro x σ ⟨v2, hv2, rfl, rfl⟩
  obtain rfl : v2 = i := by rw [hv2, show (2 : Int).toNat = 2 from rfl, g2]; exact IntWalk.i64_in _ (by omega)
  cbv
  split
  case h_2 => rename_i h; exact absurd h (by rw [hH]; simp)
  cbv
  have hd0 : H (List UInt8) (List.drop (o0 (some 10)).toNat z) = b := by rw [hH, ← hdrop]; rfl
  have hbd : H Bool (decide (0 ≤ o0 (some 10) ∧ o0 (some 10) ≤ NatCast.natCast z.length)) = true := by rw [hH, hzi]; simp [o0]; omega
  refine ⟨hbd, ?_⟩
  rw [hd0]
  refine ⟨[141, 221], ⟨⟨rfl, rfl⟩, rfl⟩, _, _, ?_, ?_, _, hTri _ _ _ _ (get2_tri L 7 1 f (by omega) (.inl rfl)), ?_⟩
  · cbv
  · cbv
  rintro x σ ⟨v3, hv3, rfl, rfl⟩
  obtain rfl : v3 = k := by rw [hv3, show (1 : Int).toNat = 1 from rfl, g3]; exact IntWalk.i64_in _ (by omega)
  cbv
  refine ⟨⟨⟨hbd, hd0⟩, trivial⟩, ?_⟩
  refine ⟨[141, 221], ⟨⟨rfl, rfl⟩, rfl⟩, _, _, ?_, ?_, _, hTri _ _ _ _ (get2_tri L 8 2 f (by omega) (.inr (.inl rfl))), ?_⟩
  · cbv
  · cbv
  rintro x σ ⟨v4, hv4, rfl, rfl⟩
  obtain rfl : v4 = n := by rw [hv4, show (2 : Int).toNat = 2 from rfl, g4]; exact IntWalk.i64_in _ (by omega)
  cbv
  refine ⟨⟨⟨hbd, hd0⟩, trivial⟩, ?_⟩
  refine ⟨[], ⟨⟨rfl, rfl⟩, rfl⟩, _, _, ?_, ?_, _, hTri _ _ _ _ henc, ?_⟩
  · cbv
  · cbv
  rintro x σ ⟨z1, hz1, rfl, rfl⟩
  obtain rfl : z1 = z := hz1
  cbv
  split
  case h_1 => rename_i h; exact absurd h (by rw [hH]; simp)
  cbv
  split
  case h_1 => rename_i h; exact absurd h (by rw [hH]; simp)
  cbv
  refine ⟨_, _, ⟨rfl, rfl⟩, ?_⟩
  cbv
theorem decode_commit (tx i sum : Int) (ht : 1 ≤ tx ∧ tx ≤ 4294967295) (hi : 0 < i ∧ i ≤ 999) (hs : 0 ≤ sum ∧ sum < 4294967296) :
    TriS Try.prog 74 [.s (commitF tx i sum)] [] (fun r σ => r = .tu [entV 2 tx i 0 0 [] i sum, .i .i64 0] ∧ σ = []) := by
  refine tri_of TT_ok mixed (OR := OR74) (fn := Try.f74) (c := body Try.f74) (by kernel_rfl) (by kernel_rfl) (by kernel_rfl) (by kernel_rfl) (by simp [Try.f74]) fun H Tri hH hTri => ?_
  have hl : (commitF tx i sum).length = 13 := by rw [commitF, bytesOf_length]; rfl
  have henc := encode_commit tx i sum ht hi hs
  obtain ⟨z, hz⟩ : ∃ z, z = commitF tx i sum := ⟨_, rfl⟩
  rw [← hz] at hl henc ⊢
  have hfacts : ∀ (f : Ix → Int), (∀ j : Int, f [j] = ((z.getD j.toNat 0).toNat : Int)) → (f [0] = 2 ∧ getF f 1 4 = tx ∧ getF f 5 2 = i) ∧ getF f 7 2 = i ∧ getF f 9 4 = sum := fun f hf => by
    rw [hz] at hf
    have h9 : ∀ j : Int, 0 ≤ j → j < 13 → f [j] = commitCol tx i sum j := fun j h0 h1 => entry_at (commitCol_in tx i sum) hf j h0 h1
    obtain ⟨⟨c7, c8⟩, c9, c10, c11, c12⟩ := commit_cols tx i sum
    rw [u32_id (by omega)] at c7 c8
    exact ⟨head_at (by omega) (by omega) (by omega) (fun j h0 h1 => (h9 j h0 (by omega)).trans (commit_head tx i sum h1)), getF_2 (by omega) ((h9 7 (by omega) (by omega)).trans c7) ((h9 8 (by omega) (by omega)).trans c8), getF_4 hs ((h9 9 (by omega) (by omega)).trans c9) ((h9 10 (by omega) (by omega)).trans c10) ((h9 11 (by omega) (by omega)).trans c11) ((h9 12 (by omega) (by omega)).trans c12)⟩
  have hzi : (NatCast.natCast z.length : Int) = 13 := by rw [hl]; rfl
  have hz0 : ((z.getD 0 0).toNat : Int) = 2 := (hfacts (fun ix => ((z.getD (hd ix).toNat 0).toNat : Int)) (fun j => rfl)).1.1
  have hne : z ≠ [] := fun e => by rw [e] at hl; simp at hl
  cbv
  split
  case h_1 => rename_i h; exact absurd h (by rw [hH]; simp [hne])
  cbv
  refine ⟨by rw [hH]; simp only [hzi]; simp, ?_⟩
  have hkd : H Int (IntKind.i64.wrap (H Int (NatCast.natCast (z.getD (Int.toNat 0) 0).toNat))) = 2 := by
    rw [hH, hH]; exact (congrArg IntKind.i64.wrap hz0).trans (IntWalk.i64_in _ (by omega))
  rw [hkd]
  refine ⟨[], ⟨⟨rfl, rfl⟩, rfl⟩, _, _, ?_, ?_, _, hTri _ _ _ _ (least_tri 2 13 (.inr (.inl ⟨rfl, rfl⟩))), ?_⟩
  · cbv
  · cbv
  rintro x σ ⟨rfl, rfl⟩
  cbv
  split
  case h_1 => rename_i h; exact absurd h (by rw [hH]; simp)
  cbv
  split
  case h_1 => rename_i h; simp only [hH, decide_eq_true_eq, hzi] at h; omega
  cbv
  split
  case h_1 => rename_i h; simp only [hH, decide_eq_true_eq, hzi] at h; omega
  cbv
  refine ⟨[], ⟨⟨rfl, rfl⟩, rfl⟩, _, _, ?_, ?_, _, hTri _ _ _ _ (area_of z (by omega)), ?_⟩
  · cbv
  · cbv
  rintro x σ ⟨f, hf, rfl, L, hL, rfl⟩
  have hLM : L = 13 := hL.trans hzi
  clear hL
  obtain ⟨⟨g0, g1, g2⟩, g3, g4⟩ := hfacts f hf
  cbv
  refine ⟨[141, 221], ⟨⟨rfl, rfl⟩, rfl⟩, _, _, ?_, ?_, _, hTri _ _ _ _ (get2_tri L 1 4 f (by omega) (.inr (.inr rfl))), ?_⟩
  · cbv
  · cbv
  rintro x σ ⟨v1, hv1, rfl, rfl⟩
  have ev1 : v1 = tx := by rw [hv1, show (4 : Int).toNat = 4 from rfl, g1]; exact IntWalk.i64_in _ (by omega)
  rw [ev1]
  clear ev1 hv1
  cbv
  refine ⟨[141, 221], ⟨⟨rfl, rfl⟩, rfl⟩, _, _, ?_, ?_, _, hTri _ _ _ _ (get2_tri L 5 2 f (by omega) (.inr (.inl rfl))), ?_⟩
  · cbv
  · cbv
  rintro x σ ⟨v2, hv2, rfl, rfl⟩
  have ev2 : v2 = i := by rw [hv2, show (2 : Int).toNat = 2 from rfl, g2]; exact IntWalk.i64_in _ (by omega)
  rw [ev2]
  clear ev2 hv2
  cbv
  split
  case h_1 => rename_i h; exact absurd h (by rw [hH]; simp)
  cbv
  split
  case h_2 => rename_i h; exact absurd h (by rw [hH]; simp)
  cbv
  refine ⟨[141, 221], ⟨⟨rfl, rfl⟩, rfl⟩, _, _, ?_, ?_, _, hTri _ _ _ _ (get2_tri L 7 2 f (by omega) (.inr (.inl rfl))), ?_⟩
  · cbv
  · cbv
  rintro x σ ⟨v3, hv3, rfl, rfl⟩
  have ev3 : v3 = i := by rw [hv3, show (2 : Int).toNat = 2 from rfl, g3]; exact IntWalk.i64_in _ (by omega)
  rw [ev3]
  clear ev3 hv3
  cbv
  refine ⟨[141, 221], ⟨⟨rfl, rfl⟩, rfl⟩, _, _, ?_, ?_, _, hTri _ _ _ _ (get2_tri L 9 4 f (by omega) (.inr (.inr rfl))), ?_⟩
  · cbv
  · cbv
  rintro x σ ⟨v4, hv4, rfl, rfl⟩
  have ev4 : v4 = sum := by rw [hv4, show (4 : Int).toNat = 4 from rfl, g4]; exact IntWalk.i64_in _ (by omega)
  rw [ev4]
  clear ev4 hv4
  cbv
  rw [show H Int (IntKind.u32.wrap sum) = sum from by rw [hH]; exact u32_id hs]
  refine ⟨[], ⟨⟨rfl, rfl⟩, rfl⟩, _, _, ?_, ?_, _, hTri _ _ _ _ (henc), ?_⟩
  · cbv
  · cbv
  rintro x σ ⟨z1, hz1, rfl, rfl⟩
  obtain rfl : z1 = z := hz1
  cbv
  split
  case h_1 => rename_i h; exact absurd h (by rw [hH]; simp)
  cbv
  split
  case h_1 => rename_i h; exact absurd h (by rw [hH]; simp)
  cbv
  refine ⟨_, _, ⟨rfl, rfl⟩, ?_⟩
  cbv
theorem decode_abort (tx : Int) (ht : 1 ≤ tx ∧ tx ≤ 4294967295) :
    TriS Try.prog 74 [.s (abortF tx)] [] (fun r σ => r = .tu [entV 3 tx 0 0 0 [] 0 0, .i .i64 0] ∧ σ = []) := by
  refine tri_of TT_ok mixed (OR := OR74) (fn := Try.f74) (c := body Try.f74) (by kernel_rfl) (by kernel_rfl) (by kernel_rfl) (by kernel_rfl) (by simp [Try.f74]) fun H Tri hH hTri => ?_
  have hl : (abortF tx).length = 7 := by rw [abortF, bytesOf_length]; rfl
  have henc := encode_abort tx ht
  obtain ⟨z, hz⟩ : ∃ z, z = abortF tx := ⟨_, rfl⟩
  rw [← hz] at hl henc ⊢
  have hfacts : ∀ (f : Ix → Int), (∀ j : Int, f [j] = ((z.getD j.toNat 0).toNat : Int)) → (f [0] = 3 ∧ getF f 1 4 = tx ∧ getF f 5 2 = 0) ∧ True := fun f hf => by
    rw [hz] at hf
    have h9 : ∀ j : Int, 0 ≤ j → j < 7 → f [j] = headCol 3 tx 0 j := fun j h0 h1 => entry_at (headCol_in 3 tx 0) hf j h0 h1
    exact ⟨head_at (by omega) (by omega) (by omega) (fun j h0 h1 => h9 j h0 h1), trivial⟩
  have hzi : (NatCast.natCast z.length : Int) = 7 := by rw [hl]; rfl
  have hz0 : ((z.getD 0 0).toNat : Int) = 3 := (hfacts (fun ix => ((z.getD (hd ix).toNat 0).toNat : Int)) (fun j => rfl)).1.1
  have hne : z ≠ [] := fun e => by rw [e] at hl; simp at hl
  cbv
  split
  case h_1 => rename_i h; exact absurd h (by rw [hH]; simp [hne])
  cbv
  refine ⟨by rw [hH]; simp only [hzi]; simp, ?_⟩
  have hkd : H Int (IntKind.i64.wrap (H Int (NatCast.natCast (z.getD (Int.toNat 0) 0).toNat))) = 3 := by
    rw [hH, hH]; exact (congrArg IntKind.i64.wrap hz0).trans (IntWalk.i64_in _ (by omega))
  rw [hkd]
  refine ⟨[], ⟨⟨rfl, rfl⟩, rfl⟩, _, _, ?_, ?_, _, hTri _ _ _ _ (least_tri 3 7 (.inr (.inr ⟨rfl, rfl⟩))), ?_⟩
  · cbv
  · cbv
  rintro x σ ⟨rfl, rfl⟩
  cbv
  split
  case h_1 => rename_i h; exact absurd h (by rw [hH]; simp)
  cbv
  split
  case h_1 => rename_i h; simp only [hH, decide_eq_true_eq, hzi] at h; omega
  cbv
  split
  case h_1 => rename_i h; simp only [hH, decide_eq_true_eq, hzi] at h; omega
  cbv
  refine ⟨[], ⟨⟨rfl, rfl⟩, rfl⟩, _, _, ?_, ?_, _, hTri _ _ _ _ (area_of z (by omega)), ?_⟩
  · cbv
  · cbv
  rintro x σ ⟨f, hf, rfl, L, hL, rfl⟩
  have hLM : L = 7 := hL.trans hzi
  clear hL
  obtain ⟨⟨g0, g1, g2⟩, -⟩ := hfacts f hf
  cbv
  refine ⟨[141, 221], ⟨⟨rfl, rfl⟩, rfl⟩, _, _, ?_, ?_, _, hTri _ _ _ _ (get2_tri L 1 4 f (by omega) (.inr (.inr rfl))), ?_⟩
  · cbv
  · cbv
  rintro x σ ⟨v1, hv1, rfl, rfl⟩
  have ev1 : v1 = tx := by rw [hv1, show (4 : Int).toNat = 4 from rfl, g1]; exact IntWalk.i64_in _ (by omega)
  rw [ev1]
  clear ev1 hv1
  cbv
  refine ⟨[141, 221], ⟨⟨rfl, rfl⟩, rfl⟩, _, _, ?_, ?_, _, hTri _ _ _ _ (get2_tri L 5 2 f (by omega) (.inr (.inl rfl))), ?_⟩
  · cbv
  · cbv
  rintro x σ ⟨v2, hv2, rfl, rfl⟩
  have ev2 : v2 = 0 := by rw [hv2, show (2 : Int).toNat = 2 from rfl, g2]; exact IntWalk.i64_in _ (by omega)
  rw [ev2]
  clear ev2 hv2
  cbv
  split
  case h_1 => rename_i h; exact absurd h (by rw [hH]; simp)
  cbv
  split
  case h_1 => rename_i h; exact absurd h (by rw [hH]; simp)
  cbv
  refine ⟨[], ⟨⟨rfl, rfl⟩, rfl⟩, _, _, ?_, ?_, _, hTri _ _ _ _ (henc), ?_⟩
  · cbv
  · cbv
  rintro x σ ⟨z1, hz1, rfl, rfl⟩
  obtain rfl : z1 = z := hz1
  cbv
  split
  case h_1 => rename_i h; exact absurd h (by rw [hH]; simp)
  cbv
  split
  case h_1 => rename_i h; exact absurd h (by rw [hH]; simp)
  cbv
  refine ⟨_, _, ⟨rfl, rfl⟩, ?_⟩
  cbv
end Go.Proofs.Ytabmdohibkkflaa.AM

namespace Go.Proofs.Ytabmdohibkkflaa.AM
open Go
set_option maxRecDepth 100000
/-- the sum of pages -/
def esumF (pk pn : Ix → Int) (pb : Ix → Str) : Nat → Int
  | 0 => 0
  | k + 1 => joinF (esumF pk pn pb k) (sumF (stageF 1 k (pk [(k : Int)]) (pn [(k : Int)]) (pb [(k : Int)]))) ((stageF 1 k (pk [(k : Int)]) (pn [(k : Int)]) (pb [(k : Int)])).length : Int)
theorem esumF_congr {pk pn pk' pn' : Ix → Int} {pb pb' : Ix → Str} : ∀ {m : Nat}, (∀ j : Int, 0 ≤ j → j < m → pk [j] = pk' [j] ∧ pn [j] = pn' [j] ∧ pb [j] = pb' [j]) → esumF pk pn pb m = esumF pk' pn' pb' m
  | 0, _ => rfl
  | k + 1, h => by
    obtain ⟨h1, h2, h3⟩ := h k (by omega) (by omega)
    rw [esumF, esumF, esumF_congr (fun j h0 h1 => h j h0 (by omega)), h1, h2, h3]
theorem esumF_in (pk pn : Ix → Int) (pb : Ix → Str) (m : Nat) : 0 ≤ esumF pk pn pb m ∧ esumF pk pn pb m < 4294967296 := by
  cases m with
  | zero => simp [esumF]
  | succ k => rw [esumF, joinF, xorF]; exact wrapU (k := .u32) (.inr (.inl rfl)) _
theorem entry_sum (m : Int) (pk pn : Ix → Int) (pb : Ix → Str) (full : Bool) (hm : 0 ≤ m ∧ m ≤ 999) (hp : ∀ j : Int, 0 ≤ j → j < m → okP (pk [j]) (pn [j]) (pb [j])) :
    TriS Try.prog 50 [.l m [.i .i64 pk, .i .i64 pn, .s pb] full] [] (fun r σ => ∃ v, v = esumF pk pn pb m.toNat ∧ r = .i .u32 v ∧ σ = []) := by
  refine tri_of TT_ok mixed (OR := OR0) (fn := Try.f50) (c := body Try.f50) (by kernel_rfl) (by kernel_rfl) (by kernel_rfl) (by kernel_rfl) (by simp [Try.f50]) fun H Tri hH hTri => ?_
  cbv
  refine ⟨0, Int × Int, fun a => ⟨[(3, .i .u32 a.2), (8, .l m [.i .i64 pk, .i .i64 pn, .s pb] full), (9, .i .i64 m), (10, .i .i64 a.1)], [], 200⟩, fun a => 0 ≤ a.1 ∧ a.1 ≤ m ∧ a.2 = esumF pk pn pb a.1.toNat, fun a => (m - a.1).toNat, ⟨(0, 0), ⟨by simp, by simp; omega, rfl⟩, ?_⟩, ?_⟩
  · cbv
    cases full <;> simp
  · rintro ⟨i, v⟩ ⟨h0, h1, hv⟩
    simp only at h0 h1 hv
    cbv
    split
    · rename_i h
      simp only [hH, decide_eq_true_eq] at h
      cbv
      simp only [hH, decide_eq_true h]
      have hpi := hp i h0 h
      obtain ⟨k1, hk1⟩ : ∃ k1, k1 = pk [i] := ⟨_, rfl⟩
      obtain ⟨n1, hn1⟩ : ∃ n1, n1 = pn [i] := ⟨_, rfl⟩
      obtain ⟨b1, hb1⟩ : ∃ b1, b1 = pb [i] := ⟨_, rfl⟩
      rw [← hk1, ← hn1, ← hb1] at hpi ⊢
      obtain ⟨-, -, hbl, -⟩ := id hpi
      refine ⟨by simp; omega, [], ⟨⟨rfl, rfl⟩, rfl⟩, _, _, ?_, ?_, _, hTri _ _ _ _ (encode_stage 1 i k1 n1 b1 (by omega) (by omega) hpi), ?_⟩
      · cbv
      · cbv
      rintro x σ ⟨s, hs, rfl, rfl⟩
      have hl : s.length = 10 + b1.length := by rw [hs, stage_len]
      cbv
      refine ⟨[], ⟨⟨rfl, rfl⟩, rfl⟩, _, _, ?_, ?_, _, hTri _ _ _ _ (sum_sum s (by omega)), ?_⟩
      · cbv
      · cbv
      rintro x σ ⟨v1, hv1, rfl, rfl⟩
      cbv
      obtain ⟨L, hL⟩ : ∃ L : Int, L = NatCast.natCast s.length := ⟨_, rfl⟩
      obtain ⟨hL1, hL2, hL3⟩ := castN hL
      rw [hH, ← hL]
      refine ⟨[], ⟨⟨rfl, rfl⟩, rfl⟩, _, _, ?_, ?_, _, hTri _ _ _ _ (sum_join v v1 L (by omega)), ?_⟩
      · cbv
      · cbv
      rintro x σ ⟨v2, hv2, rfl, rfl⟩
      cbv
      have e1 : IntKind.i64.wrap (i + 1) = i + 1 := IntWalk.i64_in _ (by omega)
      obtain ⟨i2, hi2⟩ : ∃ i2, i2 = i + 1 := ⟨_, rfl⟩
      rw [e1, ← hi2, hH]
      refine ⟨(i2, v2), ⟨by simp; omega, by simp; omega, ?_⟩, by simp; omega, ?_⟩
      · simp only
        rw [hv2, hv, hv1, hL1, hs, show i2.toNat = i.toNat + 1 by omega, esumF, Int.toNat_of_nonneg h0, hk1, hn1, hb1]
      · cbv
        cases full <;> simp
    · rename_i h
      simp only [hH, decide_eq_false_iff_not] at h
      have hi : i = m := by omega
      cbv
      exact fin_i ⟨v, by rw [hv, hi], rfl, rfl⟩
end Go.Proofs.Ytabmdohibkkflaa.AM

namespace Go.Proofs.Ytabmdohibkkflaa.AM
open Go
set_option maxRecDepth 100000
/-- slices.Backward over what waits -/
theorem back_tri (m k : Int) (wn : Ix → Int) (ws : Ix → Str) :
    TriS Try.prog 59 [.sl 0 0 m 2 false] [(0, .ar k [.i .i64 wn, .s ws] 93)] (fun x σ => x = .fn (.func 78) [.pt 100 0] ∧ σ = [(0, .ar k [.i .i64 wn, .s ws] 93), (100, .st [.sl 0 0 m 2 false] 89)]) := by
  refine tri_of TT_ok mixed (OR := OR0) (fn := Try.f59) (c := body Try.f59) (by kernel_rfl) (by kernel_rfl) (by kernel_rfl) (by kernel_rfl) (by simp [Try.f59]) fun H Tri hH hTri => ?_
  cbv
  refine ⟨_, _, ⟨rfl, rfl⟩, ?_⟩
  cbv
/-- what a round of Read is handed -/
def rdS (l : Nat) (rf : LoopState → Option Code → Obj) (st : LoopState) (pe : Option Code) (vs : List Value) (q : Int) (x : Str) (e : Int) (n : Nat) : Sto :=
  [(n, .rw l rf st pe [.pt (n + 1) 0, .pt (n + 2) 0, .pt (n + 3) 0] vs), (n + 1, .st [.i .i64 q] 3), (n + 2, .st [.s x] 9), (n + 3, .st [.i .i64 e] 26)]
/-- what a round of Read does -/
def rdR (l : Nat) (rf : LoopState → Option Code → Obj) (vs : List Value) (q : Int) (wn : Ix → Int) (ws : Ix → Str) (j : Int) (r : V) (σ : Sto) : Prop :=
  (wn [j] = q ∧ r = .b false ∧ σ = rdS l rf .done (some .ret) vs q (ws [j]) 0 0) ∨ (wn [j] ≠ q ∧ r = .b true ∧ σ = rdS l rf .ready none vs q [] 0 0)
theorem read_it (m k q : Int) (wn : Ix → Int) (ws : Ix → Str) (hm : 0 ≤ m ∧ m ≤ 1000000000000) (l : Nat) (rf : LoopState → Option Code → Obj) (vs : List Value) (J : YSp)
    (hJ : ∀ j, 0 ≤ j → j < m → J [.i .i64 j, .ag [.i .i64 (wn [j]), .s (ws [j])]] (rdS l rf .ready none vs q [] 0 0) (rdR l rf vs q wn ws j)) :
    TriIS Try.prog l J 78 [.fn (.yield l) [], .pt 1 0] ([(0, .ar k [.i .i64 wn, .s ws] 93), (1, .st [.sl 0 0 m 2 false] 89)] ++ rdS l rf .ready none vs q [] 0 2) (fun x σ => x = .tu [] ∧
      ((∃ j, (0 ≤ j ∧ j < m) ∧ wn [j] = q ∧ (∀ j', j < j' → j' < m → wn [j'] ≠ q) ∧ σ = [(0, .ar k [.i .i64 wn, .s ws] 93), (1, .st [.sl 0 0 m 2 false] 89)] ++ rdS l rf .done (some .ret) vs q (ws [j]) 0 2) ∨
       ((∀ j', 0 ≤ j' → j' < m → wn [j'] ≠ q) ∧ σ = [(0, .ar k [.i .i64 wn, .s ws] 93), (1, .st [.sl 0 0 m 2 false] 89)] ++ rdS l rf .ready none vs q [] 0 2))) := by
  refine tri_it TT_ok mixed (OR := OR0) (fn := Try.f78) (c := body Try.f78) (by kernel_rfl) (by kernel_rfl) (by kernel_rfl) (by kernel_rfl) (by simp [Try.f78]) fun H Tri Yl hH hTri hYl => ?_
  cbv
  have e0 : IntKind.i64.wrap (m - 1) = m - 1 := IntWalk.i64_in _ (by omega)
  obtain ⟨m1, hm1⟩ : ∃ m1, m1 = m - 1 := ⟨_, rfl⟩
  rw [e0, ← hm1, hH]
  refine ⟨0, Int, fun a => ⟨[(0, .fn (.yield l) []), (1, .pt 1 0), (3, .i .i64 a)], [(0, .ar k [.i .i64 wn, .s ws] 93), (1, .st [.sl 0 0 m 2 false] 89)] ++ rdS l rf .ready none vs q [] 0 2, 200⟩, fun a => -1 ≤ a ∧ a < m ∧ ∀ j', a < j' → j' < m → wn [j'] ≠ q, fun a => (a + 1).toNat, ⟨m1, ⟨by omega, by omega, fun j' h1 h2 => by omega⟩, ?_⟩, ?_⟩
  · cbv
  · rintro a ⟨ha0, ha, hn⟩
    cbv
    split
    · rename_i h
      simp only [hH, decide_eq_true_eq] at h
      cbv
      simp only [hH, Int.zero_add, decide_eq_true h]
      refine ⟨by simp; omega, [2, 3, 4, 5], ⟨⟨rfl, rfl⟩, rfl⟩, _, _, ?_, ?_, _, hYl _ _ _ (hJ a h ha), ?_⟩
      · cbv
      · cbv
      rintro x σ (⟨hj, rfl, rfl⟩ | ⟨hj, rfl, rfl⟩)
      · cbv
        refine ⟨_, _, ⟨rfl, .inl ⟨a, ⟨h, ha⟩, hj, hn, rfl⟩⟩, ?_⟩
        cbv
      · cbv
        have e1 : IntKind.i64.wrap (a - 1) = a - 1 := IntWalk.i64_in _ (by omega)
        obtain ⟨a1, ha1⟩ : ∃ a1, a1 = a - 1 := ⟨_, rfl⟩
        rw [e1, ← ha1, hH]
        refine ⟨a1, ⟨by omega, by omega, fun j' h1 h2 => ?_⟩, by omega, ?_⟩
        · by_cases e : j' = a
          · subst e; exact hj
          · exact hn j' (by omega) h2
        · cbv
    · rename_i h
      simp only [hH, decide_eq_false_iff_not] at h
      cbv
      refine ⟨_, _, ⟨rfl, .inr ⟨fun j' h1 h2 => hn j' (by omega) h2, rfl⟩⟩, ?_⟩
      cbv
/-- what was written last, of what waits -/
def lastW (wn : Ix → Int) (ws : Ix → Str) (q : Int) : Nat → Option Str
  | 0 => none
  | n + 1 => if wn [(n : Int)] = q then some (ws [(n : Int)]) else lastW wn ws q n
theorem lastW_none {wn : Ix → Int} {ws : Ix → Str} {q : Int} : ∀ {n : Nat}, (∀ j : Int, 0 ≤ j → j < n → wn [j] ≠ q) → lastW wn ws q n = none
  | 0, _ => rfl
  | n + 1, h => by rw [lastW, if_neg (h n (by omega) (by omega)), lastW_none fun j h1 h2 => h j h1 (by omega)]
theorem lastW_at {wn : Ix → Int} {ws : Ix → Str} {q j : Int} : ∀ {n : Nat}, 0 ≤ j → j < n → wn [j] = q → (∀ j' : Int, j < j' → j' < n → wn [j'] ≠ q) → lastW wn ws q n = some (ws [j])
  | 0, h0, h1, _, _ => by omega
  | n + 1, h0, h1, h2, h3 => by
    by_cases e : j = n
    · subst e; rw [lastW, if_pos h2]
    · rw [lastW, if_neg (h3 n (by omega) (by omega)), lastW_at h0 (by omega) h2 fun j' a b => h3 j' a (by omega)]
def OR30 : Nat → List (Nat × List Nat)
  | 8 => [(0, []), (1, []), (2, []), (3, []), (4, []), (5, []), (6, []), (7, []), (8, [])]
  | _ => []
theorem read_tri (n m k r w f u q : Int) (pg : Ix → Str) (wn : Ix → Int) (ws : Ix → Str) (hq : 0 ≤ q ∧ q < n) (hm : 0 ≤ m ∧ m ≤ 1000000000000) (hr : 0 ≤ r ∧ r ≤ 1000000000000) :
    TriS Try.prog 30 [.pt 0 0, .i .i64 q] (diskS 0 1 2 n m k r w f u pg wn ws) (fun x σ => x = .tu [.s ((lastW wn ws q m.toNat).getD (pg [q])), .i .i64 0] ∧ σ = diskS 0 1 2 n m k (r + 1) w f u pg wn ws) := by
  refine tri_of2 TT_ok mixed (OR := OR30) (fn := Try.f30) (c := body Try.f30) (by kernel_rfl) (by kernel_rfl) (by kernel_rfl) (by kernel_rfl) (by simp [Try.f30]) fun H Tri TrI hH hTri hTrI => ?_
  cbv
  refine ⟨[0, 1, 2], ⟨⟨rfl, rfl⟩, rfl⟩, _, _, ?_, ?_, _, hTri _ _ _ _ (has_tri n m k r w f u q pg wn ws), ?_⟩
  · cbv
  · cbv
  rintro x σ ⟨b, rfl, hb, rfl⟩
  obtain rfl : b = true := hb.2 hq
  cbv
  have e1 : IntKind.i64.wrap (r + 1) = r + 1 := IntWalk.i64_in _ (by omega)
  obtain ⟨r1, hr1⟩ : ∃ r1, r1 = r + 1 := ⟨_, rfl⟩
  rw [e1, ← hr1, hH]
  refine ⟨[2], ⟨⟨rfl, rfl⟩, rfl⟩, _, _, ?_, ?_, _, hTri _ _ _ _ (back_tri m k wn ws), ?_⟩
  · cbv
  · cbv
  rintro x σ ⟨rfl, rfl⟩
  cbv
  refine ⟨[3, 4, 5], ?_⟩
  cbv
  intro l rf vs
  refine ⟨fun xs σ R => ∃ j, (0 ≤ j ∧ j < m) ∧ xs = [.i .i64 j, .ag [.i .i64 (wn [j]), .s (ws [j])]] ∧ σ = rdS l rf .ready none vs q [] 0 0 ∧ R = rdR l rf vs q wn ws j, ?_, ?_⟩
  · rintro _ _ _ ⟨j, hj, rfl, rfl, rfl⟩
    refine ⟨0, ?_⟩
    cbv
    split
    · rename_i h
      simp only [hH, decide_eq_true_eq] at h
      cbv
      refine ⟨_, _, Or.inl ⟨h, rfl, rfl⟩, ?_⟩
      cbv
    · rename_i h
      simp only [hH, decide_eq_false_iff_not] at h
      cbv
      refine ⟨_, _, Or.inr ⟨h, rfl, rfl⟩, ?_⟩
      cbv
  · cbv
    refine ⟨[2, 223, 143, 100, 101, 102], ⟨⟨rfl, rfl⟩, rfl⟩, _, _, ?_, ?_, _, hTrI _ _ _ _ _ _ (by kernel_rfl) (read_it m k q wn ws hm l rf vs _ fun j h1 h2 => ⟨j, ⟨h1, h2⟩, rfl, rfl, rfl⟩), ?_⟩
    · cbv
    · cbv
    rintro x σ ⟨rfl, ⟨j, hj, h1, h2, rfl⟩ | ⟨h2, rfl⟩⟩
    · cbv
      refine ⟨_, _, ⟨rfl, rfl⟩, ?_⟩
      rw [lastW_at (j := j) hj.1 (by omega) h1 (fun j' a b => h2 j' a (by omega)), Option.getD_some]
      cbv
    · cbv
      refine ⟨by rw [hH]; simp; exact hq, ?_⟩
      simp only [hH, Int.zero_add]
      refine ⟨_, _, ⟨rfl, rfl⟩, ?_⟩
      rw [lastW_none (fun j' a b => h2 j' a (by omega)), Option.getD_none]
      cbv
end Go.Proofs.Ytabmdohibkkflaa.AM

namespace Go.Proofs.Ytabmdohibkkflaa.AM
open Go
set_option maxRecDepth 100000
theorem drop_tri (n m k r w f u : Int) (pg : Ix → Str) (wn : Ix → Int) (ws : Ix → Str) (hm : 0 ≤ m) :
    TriS Try.prog 54 [.pt 0 0] (diskS 0 1 2 n m k r w f u pg wn ws) (fun x σ => ∃ wn' ws', x = .i .i64 m ∧ σ = diskS 0 1 2 n 0 k r w f u pg wn' ws') := by
  refine tri_of TT_ok mixed (OR := OR0) (fn := Try.f54) (c := body Try.f54) (by kernel_rfl) (by kernel_rfl) (by kernel_rfl) (by kernel_rfl) (by simp [Try.f54]) fun H Tri hH hTri => ?_
  cbv
  refine ⟨by rw [hH]; simp [o0]; omega, .i .i64 m, _, ⟨fun ix => bif decide (0 ≤ hd ix ∧ hd ix < 0 + m) then 0 else wn ix, fun ix => bif decide (0 ≤ hd ix ∧ hd ix < 0 + m) then [] else ws ix, rfl, rfl⟩, ?_⟩
  rw [hH, hH]
  cbv
end Go.Proofs.Ytabmdohibkkflaa.AM

namespace Go.Proofs.Ytabmdohibkkflaa.AM
open Go
set_option maxRecDepth 100000
def OR25 : Nat → List (Nat × List Nat)
  | 6 => [(0, []), (1, []), (2, []), (3, []), (4, []), (5, []), (6, []), (7, []), (8, []), (9, [])]
  | _ => []
def flushed (pg : Ix → Str) (wn : Ix → Int) (ws : Ix → Str) : Nat → Ix → Str
  | 0 => pg
  | k + 1 => fun ix => bif decide (hd ix = wn [(k : Int)]) then ws [(k : Int)] else flushed pg wn ws k ix
theorem flush_tri (n m k r w f u : Int) (pg : Ix → Str) (wn : Ix → Int) (ws : Ix → Str) (hu : -1 ≤ u ∧ u ≤ 9223372036854775807) (hm : 0 ≤ m ∧ m ≤ 1000000000000) (hf : 0 ≤ f ∧ f ≤ 1000000000000) (hw : ∀ j, 0 ≤ j → j < m → 0 ≤ wn [j] ∧ wn [j] < n) (hu2 : 0 < u ∨ u = -1) :
    TriS Try.prog 25 [.pt 0 0] (diskS 0 1 2 n m k r w f u pg wn ws) (fun x σ => ∃ u' wn' ws', x = .i .i64 m ∧ u' = (if 0 < u then u - 1 else u) ∧ σ = diskS 0 1 2 n 0 k r w (f + 1) u' (flushed pg wn ws m.toNat) wn' ws') := by
  refine tri_of TT_ok mixed (OR := OR25) (fn := Try.f25) (c := body Try.f25) (by kernel_rfl) (by kernel_rfl) (by kernel_rfl) (by kernel_rfl) (by simp [Try.f25]) fun H Tri hH hTri => ?_
  cbv
  refine ⟨[0, 1, 2], ⟨⟨rfl, rfl⟩, rfl⟩, _, _, ?_, ?_, _, hTri _ _ _ _ (step_tri n m k r w f u pg wn ws hu), ?_⟩
  · cbv
  · cbv
  rintro x σ ⟨b, u', rfl, hb, hu', rfl⟩
  obtain rfl : b = true := hb.2 hu2
  cbv
  refine ⟨0, Int × (Ix → Str), fun a => ⟨[(0, .pt 0 0), (15, .sl 2 0 m 2 false), (16, .i .i64 m), (17, .i .i64 a.1)], diskS 0 1 2 n m k r w f u' a.2 wn ws, 200⟩, fun a => 0 ≤ a.1 ∧ a.1 ≤ m ∧ a.2 = flushed pg wn ws a.1.toNat, fun a => (m - a.1).toNat, ⟨(0, pg), ⟨by simp, by simp; omega, rfl⟩, ?_⟩, ?_⟩
  · cbv
  · rintro ⟨q, pq⟩ ⟨hq0, hq, hpq⟩
    simp only at hq0 hq hpq
    cbv
    split
    · rename_i h
      simp only [hH, decide_eq_true_eq] at h
      cbv
      have e1 : IntKind.i64.wrap (q + 1) = q + 1 := IntWalk.i64_in _ (by omega)
      rw [e1]
      simp only [hH, Int.zero_add, decide_eq_true h]
      obtain ⟨q1, hq1⟩ : ∃ q1, q1 = q + 1 := ⟨_, rfl⟩
      obtain ⟨p1, hp1⟩ : ∃ p1 : Ix → Str, p1 = fun ix => bif decide (hd ix = wn [q]) then ws [q] else pq ix := ⟨_, rfl⟩
      rw [← hq1, ← hp1]
      refine ⟨by simp; omega, by simp; exact hw q hq0 h, (q1, p1), ⟨by simp; omega, by simp; omega, ?_⟩, by simp; omega, ?_⟩
      · simp only
        rw [hp1, show q1.toNat = q.toNat + 1 by omega, flushed, ← hpq, Int.toNat_of_nonneg hq0]
      · cbv
    · rename_i h
      simp only [hH, decide_eq_false_iff_not] at h
      have hqm : q = m := by omega
      cbv
      have ef : IntKind.i64.wrap (f + 1) = f + 1 := IntWalk.i64_in _ (by omega)
      obtain ⟨f1, hf1⟩ : ∃ f1, f1 = f + 1 := ⟨_, rfl⟩
      rw [ef, hH, ← hf1]
      refine ⟨[0, 1, 2], ⟨⟨rfl, rfl⟩, rfl⟩, _, _, ?_, ?_, _, hTri _ _ _ _ (drop_tri n m k r w f1 u' pq wn ws hm.1), ?_⟩
      · cbv
      · cbv
      rintro x σ ⟨wn', ws', rfl, rfl⟩
      cbv
      refine ⟨_, _, ⟨u', wn', ws', rfl, hu', rfl⟩, ?_⟩
      rw [← hqm, ← hpq]
      cbv
end Go.Proofs.Ytabmdohibkkflaa.AM

namespace Go.Proofs.Ytabmdohibkkflaa.AM
open Go
set_option maxRecDepth 100000
/-- a disk's state, without a fuse -/
structure DK where
  n : Int
  m : Int
  k : Int
  r : Int
  w : Int
  f : Int
  pg : Ix → Str
  wn : Ix → Int
  ws : Ix → Str
def DK.S (D : DK) (d op ow : Nat) : Sto := diskS d op ow D.n D.m D.k D.r D.w D.f (-1) D.pg D.wn D.ws
def DK.at (D : DK) (q : Int) : Str := (lastW D.wn D.ws q D.m.toNat).getD (D.pg [q])
def DK.ok (D : DK) (L : Int) : Prop := ((0 ≤ D.n ∧ D.n ≤ 1000) ∧ (0 ≤ D.m ∧ D.m ≤ L)) ∧ ((0 ≤ D.r ∧ D.r ≤ L) ∧ (0 ≤ D.w ∧ D.w ≤ L) ∧ (0 ≤ D.f ∧ D.f ≤ L)) ∧ ∀ j : Int, 0 ≤ j → j < D.m → 0 ≤ D.wn [j] ∧ D.wn [j] < D.n
/-- a journal on a disk -/
def jouS (j d op ow : Nat) (base size tx : Int) (D : DK) : Sto := (j, .st [.pt d 0, .i .i64 base, .i .i64 size, .i .i64 tx] 78) :: D.S d op ow
theorem lastW_congr {wn wn' : Ix → Int} {ws ws' : Ix → Str} {q : Int} : ∀ {m : Nat}, (∀ j : Int, 0 ≤ j → j < m → wn [j] = wn' [j] ∧ ws [j] = ws' [j]) → lastW wn ws q m = lastW wn' ws' q m
  | 0, _ => rfl
  | m + 1, h => by
    obtain ⟨h1, h2⟩ := h m (by omega) (by omega)
    rw [lastW, lastW, h1, h2, lastW_congr (fun j h0 h1 => h j h0 (by omega))]
/-- a write, as a step of the state -/
def DK.wr (D : DK) (q : Int) (s : Str) : DK := { D with m := D.m + 1, k := D.m + 1, w := D.w + 1, wn := fun ix => bif decide (hd ix < D.m) then D.wn ix else q, ws := fun ix => bif decide (hd ix < D.m) then D.ws ix else s }
theorem DK.wr_at (D : DK) (hm : 0 ≤ D.m) (q : Int) (s : Str) (p : Int) : (D.wr q s).at p = if p = q then s else D.at p := by
  have e : (D.wr q s).m.toNat = D.m.toNat + 1 := by show (D.m + 1).toNat = _; omega
  unfold DK.at
  rw [e, lastW]
  have hmm : ((D.m.toNat : Nat) : Int) = D.m := by omega
  have e1 : (D.wr q s).wn [(D.m.toNat : Int)] = q := by simp [DK.wr, AM.hd, hmm]
  have e2 : (D.wr q s).ws [(D.m.toNat : Int)] = s := by simp [DK.wr, AM.hd, hmm]
  rw [e1, e2]
  by_cases h : p = q
  · rw [if_pos h.symm, if_pos h]; rfl
  · rw [if_neg (fun e => h e.symm), if_neg h]
    rw [lastW_congr (wn' := D.wn) (ws' := D.ws) (fun j h0 h1 => by
      have : j < D.m := by omega
      simp [DK.wr, AM.hd, this])]
    rfl
theorem DK.wr_ok {D : DK} {L : Int} (h : D.ok L) {q : Int} (hq : 0 ≤ q ∧ q < D.n) (s : Str) : (D.wr q s).ok (L + 1) := by
  obtain ⟨⟨h1, h2⟩, ⟨h3, h4, h5⟩, h6⟩ := h
  refine ⟨⟨h1, ?_⟩, ⟨?_, ?_, ?_⟩, fun j j0 j1 => ?_⟩
  · show 0 ≤ D.m + 1 ∧ D.m + 1 ≤ L + 1; omega
  · show 0 ≤ D.r ∧ D.r ≤ L + 1; omega
  · show 0 ≤ D.w + 1 ∧ D.w + 1 ≤ L + 1; omega
  · show 0 ≤ D.f ∧ D.f ≤ L + 1; omega
  · show 0 ≤ (bif decide (j < D.m) then D.wn [j] else q) ∧ (bif decide (j < D.m) then D.wn [j] else q) < D.n
    by_cases e : j < D.m
    · rw [decide_eq_true e]; exact h6 j j0 e
    · rw [decide_eq_false e]; exact hq
theorem flushed_at {pg : Ix → Str} {wn : Ix → Int} {ws : Ix → Str} (q : Int) : ∀ m : Nat, flushed pg wn ws m [q] = (lastW wn ws q m).getD (pg [q])
  | 0 => rfl
  | m + 1 => by
    show (bif decide (q = wn [(m : Int)]) then ws [(m : Int)] else flushed pg wn ws m [q]) = (if wn [(m : Int)] = q then some (ws [(m : Int)]) else lastW wn ws q m).getD (pg [q])
    by_cases h : wn [(m : Int)] = q
    · rw [if_pos h, decide_eq_true h.symm]; rfl
    · rw [if_neg h, decide_eq_false (fun e => h e.symm)]
      exact flushed_at q m
def OR49 : Nat → List (Nat × List Nat)
  | 3 => [(0, []), (1, []), (2, []), (3, []), (4, []), (5, []), (6, []), (7, [])]
  | _ => []
theorem jput {D : DK} {L : Int} (hD : D.ok L) (hL : L ≤ 100000000) {base size tx i : Int} (hb : 0 ≤ base + i ∧ base + i < D.n) (hbb : 0 ≤ base ∧ base ≤ 1000) (hi : 0 ≤ i ∧ i ≤ 999) {kind k n cnt sum : Int} {b s : Str} (hs : 0 < s.length ∧ s.length ≤ 244)
    (henc : TriS Try.prog 69 [entV kind tx i k n b cnt sum] [] (fun r σ => ∃ z, z = s ∧ r = .tu [.s z, .i .i64 0] ∧ σ = [])) :
    TriS Try.prog 49 [.pt 0 0, entV kind 0 i k n b cnt sum] (jouS 0 1 2 3 base size tx D) (fun r σ => ∃ D', D' = D.wr (base + i) (sealF 5 (base + i) s) ∧ r = .tu [] ∧ σ = jouS 0 1 2 100 base size tx D') := by
  refine tri_of TT_ok mixed (OR := OR49) (fn := Try.f49) (c := body Try.f49) (by kernel_rfl) (by kernel_rfl) (by kernel_rfl) (by kernel_rfl) (by simp [Try.f49]) fun H Tri hH hTri => ?_
  obtain ⟨n0, m0, k0, r0, w0, f0, pg0, wn0, ws0⟩ := D
  obtain ⟨⟨dn, dm⟩, ⟨dr, dw, df⟩, dwn⟩ := hD
  simp only at dn dm dr dw df dwn hb
  cbv
  refine ⟨[], ⟨⟨rfl, rfl⟩, rfl⟩, _, _, ?_, ?_, _, hTri _ _ _ _ henc, ?_⟩
  · cbv
  · cbv
  rintro x σ ⟨z, rfl, rfl, rfl⟩
  cbv
  have e1 : IntKind.i64.wrap (base + i) = base + i := IntWalk.i64_in _ (by omega)
  obtain ⟨q, hq⟩ : ∃ q, q = base + i := ⟨_, rfl⟩
  rw [e1, ← hq, hH]
  refine ⟨[], ⟨⟨rfl, rfl⟩, rfl⟩, _, _, ?_, ?_, _, hTri _ _ _ _ (page_seal 5 q z (by omega) (by omega) hs.2), ?_⟩
  · cbv
  · cbv
  rintro x σ ⟨y, hy, rfl, rfl⟩
  cbv
  refine ⟨[1, 2, 3], ⟨⟨rfl, rfl⟩, rfl⟩, _, _, ?_, ?_, _, hTri _ _ _ _ (write_tri n0 m0 k0 r0 w0 f0 (-1) q y pg0 wn0 ws0 (by omega) (by omega) (by rw [hy]; exact seal_len _ _ _) (.inr rfl) (by omega) (by omega)), ?_⟩
  · cbv
  · cbv
  rintro x σ ⟨rfl, u', hu', rfl⟩
  obtain rfl : u' = -1 := by rw [hu', if_neg (by omega)]
  obtain ⟨m1, hm1⟩ : ∃ m1, m1 = m0 + 1 := ⟨_, rfl⟩
  obtain ⟨w1, hw1⟩ : ∃ w1, w1 = w0 + 1 := ⟨_, rfl⟩
  obtain ⟨wn1, hwn1⟩ : ∃ wn1 : Ix → Int, wn1 = fun ix => bif decide (hd ix < m0) then wn0 ix else q := ⟨_, rfl⟩
  obtain ⟨ws1, hws1⟩ : ∃ ws1 : Ix → Str, ws1 = fun ix => bif decide (hd ix < m0) then ws0 ix else y := ⟨_, rfl⟩
  rw [← hm1, ← hw1, ← hwn1, ← hws1]
  cbv
  refine ⟨_, _, ⟨⟨n0, m1, m1, r0, w1, f0, pg0, wn1, ws1⟩, by rw [hm1, hw1, hwn1, hws1, hy, hq]; rfl, rfl, rfl⟩, ?_⟩
  cbv
/-- Flush -/
def DK.fl (D : DK) (D' : DK) : Prop := (D'.n = D.n ∧ D'.m = 0) ∧ (D'.r = D.r ∧ D'.w = D.w ∧ D'.f = D.f + 1) ∧ ∀ q, D'.at q = D.at q
theorem DK.fl_ok {D D' : DK} {L : Int} (h : D.ok L) (hf : D.fl D') : D'.ok (L + 1) := by
  obtain ⟨⟨h1, h2⟩, ⟨h3, h4, h5⟩, h6⟩ := h
  obtain ⟨⟨f1, f2⟩, ⟨f3, f4, f5⟩, f6⟩ := hf
  refine ⟨⟨by omega, by omega⟩, ⟨by omega, by omega, by omega⟩, fun j j0 j1 => by omega⟩
theorem jflush {D : DK} {L : Int} (hD : D.ok L) (hL : L ≤ 100000000) : TriS Try.prog 25 [.pt 0 0] (D.S 0 1 2) (fun r σ => ∃ D', D.fl D' ∧ r = .i .i64 D.m ∧ σ = D'.S 0 1 2) := by
  obtain ⟨n0, m0, k0, r0, w0, f0, pg0, wn0, ws0⟩ := D
  obtain ⟨⟨dn, dm⟩, ⟨dr, dw, df⟩, dwn⟩ := hD
  simp only at dn dm dr dw df dwn
  have h := flush_tri n0 m0 k0 r0 w0 f0 (-1) pg0 wn0 ws0 (by omega) (by omega) (by omega) dwn (.inr rfl)
  refine ⟨h.1, fun X g w vs hX hob hvs => (h.2 X g w vs hX hob hvs).mono ?_⟩
  rintro e w' ⟨r, σ', g', v, ⟨u', wn', ws', rfl, hu', rfl⟩, rest⟩
  obtain rfl : u' = -1 := by rw [hu', if_neg (by omega)]
  exact ⟨_, _, g', v, ⟨⟨n0, 0, k0, r0, w0, f0 + 1, flushed pg0 wn0 ws0 m0.toNat, wn', ws'⟩, ⟨⟨rfl, rfl⟩, ⟨rfl, rfl, rfl⟩, fun q => flushed_at q _⟩, rfl, rfl⟩, rest⟩
/-- Read -/
theorem jread {D : DK} {L q : Int} (hD : D.ok L) (hL : L ≤ 100000000) (hq : 0 ≤ q ∧ q < D.n) : TriS Try.prog 30 [.pt 0 0, .i .i64 q] (D.S 0 1 2) (fun r σ => ∃ D' s, D' = { D with r := D.r + 1 } ∧ s = D.at q ∧ r = .tu [.s s, .i .i64 0] ∧ σ = D'.S 0 1 2) := by
  obtain ⟨n0, m0, k0, r0, w0, f0, pg0, wn0, ws0⟩ := D
  obtain ⟨⟨dn, dm⟩, ⟨dr, dw, df⟩, dwn⟩ := hD
  simp only at dn dm dr dw df dwn hq
  have h := read_tri n0 m0 k0 r0 w0 f0 (-1) q pg0 wn0 ws0 hq (by omega) (by omega)
  refine ⟨h.1, fun X g w vs hX hob hvs => (h.2 X g w vs hX hob hvs).mono ?_⟩
  rintro e w' ⟨r, σ', g', v, ⟨rfl, rfl⟩, rest⟩
  exact ⟨_, _, g', v, ⟨_, _, rfl, rfl, rfl, rfl⟩, rest⟩
end Go.Proofs.Ytabmdohibkkflaa.AM

namespace Go.Proofs.Ytabmdohibkkflaa.AM
open Go
set_option maxRecDepth 100000
def OR51 : Nat → List (Nat × List Nat)
  | 1 => [(0, []), (1, []), (2, []), (3, []), (4, []), (5, []), (6, []), (7, []), (8, []), (9, []), (10, []), (11, []), (12, []), (13, []), (14, [13]), (15, [])]
  | 3 => [(0, []), (1, []), (2, []), (3, []), (4, []), (5, []), (6, []), (7, []), (8, []), (9, []), (10, []), (11, []), (12, []), (13, []), (14, []), (15, []), (16, []), (17, [])]
  | 6 => [(0, []), (1, []), (2, []), (3, []), (4, []), (5, []), (6, []), (7, []), (8, []), (9, []), (10, []), (11, []), (12, []), (13, []), (14, []), (15, []), (16, []), (17, []), (18, [13, 14, 15, 16, 17]), (19, [])]
  | _ => []
theorem jget_blank {D : DK} {L : Int} (hD : D.ok L) (hL : L ≤ 100000000) {base size tx i : Int} (hb : 0 ≤ base + i ∧ base + i < D.n) (hbb : 0 ≤ base ∧ base ≤ 1000) (hi : 0 ≤ i ∧ i ≤ 999) (hc : D.at (base + i) = blankF) :
    TriS Try.prog 51 [.pt 0 0, .i .i64 i] (jouS 0 1 2 3 base size tx D) (fun r σ => ∃ D', D' = { D with r := D.r + 1 } ∧ r = .tu [entV 0 0 0 0 0 [] 0 0, .b false] ∧ σ = jouS 0 1 2 3 base size tx D') := by
  refine tri_of TT_ok mixed (OR := OR51) (fn := Try.f51) (c := body Try.f51) (by kernel_rfl) (by kernel_rfl) (by kernel_rfl) (by kernel_rfl) (by simp [Try.f51]) fun H Tri hH hTri => ?_
  have hrd := jread hD hL hb
  obtain ⟨n0, m0, k0, r0, w0, f0, pg0, wn0, ws0⟩ := D
  obtain ⟨c, hcc⟩ : ∃ c, c = DK.at ⟨n0, m0, k0, r0, w0, f0, pg0, wn0, ws0⟩ (base + i) := ⟨_, rfl⟩
  have hob := open_blank
  rw [hc] at hcc
  obtain ⟨z, hz⟩ : ∃ z, z = blankF := ⟨_, rfl⟩
  rw [← hz] at hob hc hcc
  have e1 : IntKind.i64.wrap (base + i) = base + i := IntWalk.i64_in _ (by omega)
  obtain ⟨q, hq⟩ : ∃ q, q = base + i := ⟨_, rfl⟩
  rw [hc] at hrd
  rw [← hq] at hrd e1
  cbv
  rw [show H Int (IntKind.i64.wrap (base + i)) = q from by rw [hH, ← hq, e1]]
  refine ⟨[1, 2, 3], ⟨⟨rfl, rfl⟩, rfl⟩, _, _, ?_, ?_, _, hTri _ _ _ _ hrd, ?_⟩
  · cbv
  · cbv
  rintro x σ ⟨⟨n1, m1, k1, r1, w1, f1, pg1, wn1, ws1⟩, s, hD', rfl, rfl, rfl⟩
  cbv
  refine ⟨[], ⟨⟨rfl, rfl⟩, rfl⟩, _, _, ?_, ?_, _, hTri _ _ _ _ hob, ?_⟩
  · cbv
  · cbv
  rintro x σ ⟨rfl, rfl⟩
  cbv
  split
  case h_1 => rename_i h; exact absurd h (by rw [hH]; simp)
  cbv
  split
  case h_2 => rename_i h; exact absurd h (by rw [hH]; simp)
  cbv
  refine ⟨_, _, ⟨⟨n1, m1, k1, r1, w1, f1, pg1, wn1, ws1⟩, hD', rfl, rfl⟩, ?_⟩
  cbv
theorem jget_seal {D : DK} {L : Int} (hD : D.ok L) (hL : L ≤ 100000000) {base size tx i : Int} (hb : 0 ≤ base + i ∧ base + i < D.n) (hbb : 0 ≤ base ∧ base ≤ 1000) (hi : 0 ≤ i ∧ i ≤ 999) {bs : Str} (hbs : 0 < bs.length ∧ bs.length ≤ 244) (hc : D.at (base + i) = sealF 5 (base + i) bs) {kind tx' k n cnt sum : Int} {b : Str}
    (hdec : TriS Try.prog 74 [.s bs] [] (fun r σ => r = .tu [entV kind tx' i k n b cnt sum, .i .i64 0] ∧ σ = [])) :
    TriS Try.prog 51 [.pt 0 0, .i .i64 i] (jouS 0 1 2 3 base size tx D) (fun r σ => ∃ D' v, D' = { D with r := D.r + 1 } ∧ (v = true ↔ tx' = tx) ∧ r = .tu [entV kind tx' i k n b cnt sum, .b v] ∧ σ = jouS 0 1 2 3 base size tx D') := by
  refine tri_of TT_ok mixed (OR := OR51) (fn := Try.f51) (c := body Try.f51) (by kernel_rfl) (by kernel_rfl) (by kernel_rfl) (by kernel_rfl) (by simp [Try.f51]) fun H Tri hH hTri => ?_
  have hrd := jread hD hL hb
  have hn1 : D.n ≤ 1000 := hD.1.1.2
  obtain ⟨n0, m0, k0, r0, w0, f0, pg0, wn0, ws0⟩ := D
  simp only at hn1
  have e1 : IntKind.i64.wrap (base + i) = base + i := IntWalk.i64_in _ (by omega)
  have hos := open_seal 5 (base + i) bs (by omega) (by simp only at hb; omega) hbs
  obtain ⟨q, hq⟩ : ∃ q, q = base + i := ⟨_, rfl⟩
  rw [hc] at hrd
  rw [← hq] at hrd e1 hos
  obtain ⟨z, hz⟩ : ∃ z, z = sealF 5 q bs := ⟨_, rfl⟩
  rw [← hz] at hos hrd
  cbv
  rw [show H Int (IntKind.i64.wrap (base + i)) = q from by rw [hH, ← hq, e1]]
  refine ⟨[1, 2, 3], ⟨⟨rfl, rfl⟩, rfl⟩, _, _, ?_, ?_, _, hTri _ _ _ _ hrd, ?_⟩
  · cbv
  · cbv
  rintro x σ ⟨⟨n1, m1, k1, r1, w1, f1, pg1, wn1, ws1⟩, s, hD', rfl, rfl, rfl⟩
  cbv
  refine ⟨[], ⟨⟨rfl, rfl⟩, rfl⟩, _, _, ?_, ?_, _, hTri _ _ _ _ hos, ?_⟩
  · cbv
  · cbv
  rintro x σ ⟨rfl, rfl⟩
  cbv
  split
  case h_1 => rename_i h; exact absurd h (by rw [hH]; simp)
  cbv
  split
  case h_1 => rename_i h; exact absurd h (by rw [hH]; simp)
  cbv
  rw [show H Int (IntKind.i64.wrap (base + i)) = q from by rw [hH, ← hq, e1]]
  split
  case h_1 => rename_i h; exact absurd h (by rw [hH]; simp)
  cbv
  refine ⟨[], ⟨⟨rfl, rfl⟩, rfl⟩, _, _, ?_, ?_, _, hTri _ _ _ _ hdec, ?_⟩
  · cbv
  · cbv
  rintro x σ ⟨rfl, rfl⟩
  cbv
  split
  case h_2 => rename_i h; exact absurd h (by rw [hH]; simp)
  cbv
  split
  · rename_i ht
    simp only [hH, decide_eq_true_eq] at ht
    cbv
    refine ⟨_, _, ⟨⟨n1, m1, k1, r1, w1, f1, pg1, wn1, ws1⟩, true, hD', by simp [ht], rfl, rfl⟩, ?_⟩
    cbv
    simp [hH]
  · rename_i ht
    simp only [hH, decide_eq_false_iff_not] at ht
    cbv
    refine ⟨_, _, ⟨⟨n1, m1, k1, r1, w1, f1, pg1, wn1, ws1⟩, false, hD', by simp [ht], rfl, rfl⟩, ?_⟩
    cbv
end Go.Proofs.Ytabmdohibkkflaa.AM

namespace Go.Proofs.Ytabmdohibkkflaa.AM
open Go
set_option maxRecDepth 100000
theorem jstaged (k n : Int) (b : Str) : TriS Try.prog 48 [.ag [.i .i64 k, .i .i64 n, .s b]] [] (fun r σ => ∃ v : Bool, (v = true ↔ okP k n b) ∧ r = .b v ∧ σ = []) := by
  refine tri_of TT_ok mixed (OR := OR0) (fn := Try.f48) (c := body Try.f48) (by kernel_rfl) (by kernel_rfl) (by kernel_rfl) (by kernel_rfl) (by simp [Try.f48]) fun H Tri hH hTri => ?_
  have hc := check_stage 1 0 k n b (by omega) (by omega)
  obtain ⟨Q, hQ⟩ : ∃ Q : Prop, Q = okP k n b := ⟨_, rfl⟩
  rw [← hQ] at hc ⊢
  cbv
  refine ⟨[], ⟨⟨rfl, rfl⟩, rfl⟩, _, _, ?_, ?_, _, hTri _ _ _ _ hc, ?_⟩
  · cbv
  · cbv
  rintro x σ ⟨e, he, rfl, rfl⟩
  cbv
  rw [hH]
  exact fin_b ⟨decide (e = 0), by rw [decide_eq_true_eq]; exact he, rfl, rfl⟩
theorem jstagedN (k n : Int) (b : Str) : TriS Try.prog 47 [.ag [.i .i64 k, .i .i64 n, .s b]] [] (fun r σ => ∃ v : Bool, (v = true ↔ ¬ okP k n b) ∧ r = .b v ∧ σ = []) := by
  refine tri_of TT_ok mixed (OR := OR0) (fn := Try.f47) (c := body Try.f47) (by kernel_rfl) (by kernel_rfl) (by kernel_rfl) (by kernel_rfl) (by simp [Try.f47]) fun H Tri hH hTri => ?_
  have hc := jstaged k n b
  obtain ⟨Q, hQ⟩ : ∃ Q : Prop, Q = okP k n b := ⟨_, rfl⟩
  rw [← hQ] at hc ⊢
  cbv
  refine ⟨[], ⟨⟨rfl, rfl⟩, rfl⟩, _, _, ?_, ?_, _, hTri _ _ _ _ hc, ?_⟩
  · cbv
  · cbv
  rintro x σ ⟨v, hv, rfl, rfl⟩
  cases v with
  | true =>
    cbv
    exact fin_b ⟨false, by simp at hv ⊢; exact hv, rfl, rfl⟩
  | false =>
    cbv
    exact fin_b ⟨true, by simp at hv ⊢; exact hv, rfl, rfl⟩
theorem jindex (m : Int) (pk pn : Ix → Int) (pb : Ix → Str) (full : Bool) (hm : 0 ≤ m ∧ m ≤ 1000000000) : TriS Try.prog 67 [.l m [.i .i64 pk, .i .i64 pn, .s pb] full, .fn (.func 47) []] []
    (fun r σ => ∃ v : Int, ((0 ≤ v ∧ v < m ∧ ¬ okP (pk [v]) (pn [v]) (pb [v])) ∨ (v = -1 ∧ ∀ j : Int, 0 ≤ j → j < m → okP (pk [j]) (pn [j]) (pb [j]))) ∧ r = .i .i64 v ∧ σ = []) := by
  refine tri_of TT_ok mixed (OR := OR0) (fn := Try.f67) (c := body Try.f67) (by kernel_rfl) (by kernel_rfl) (by kernel_rfl) (by kernel_rfl) (by simp [Try.f67]) fun H Tri hH hTri => ?_
  cbv
  obtain ⟨Q, hQ⟩ : ∃ Q : Int → Int → Str → Prop, Q = okP := ⟨_, rfl⟩
  have hst : ∀ k n b, Tri 47 [.ag [.i .i64 k, .i .i64 n, .s b]] [] (fun r σ => ∃ v : Bool, (v = true ↔ ¬ Q k n b) ∧ r = .b v ∧ σ = []) := fun k n b => by rw [hQ]; exact hTri _ _ _ _ (jstagedN k n b)
  rw [← hQ]
  refine ⟨0, Int, fun a => ⟨[(0, .l m [.i .i64 pk, .i .i64 pn, .s pb] full), (1, .fn (.func 47) []), (7, .i .i64 m), (8, .i .i64 a)], [], 200⟩, fun a => 0 ≤ a ∧ a ≤ m ∧ ∀ j : Int, 0 ≤ j → j < a → Q (pk [j]) (pn [j]) (pb [j]), fun a => (m - a).toNat, ⟨0, ⟨by omega, by omega, fun j h0 h1 => by omega⟩, ?_⟩, ?_⟩
  · cbv
    cases full <;> simp
  · rintro i ⟨h0, h1, hv⟩
    cbv
    split
    · rename_i h
      simp only [hH, decide_eq_true_eq] at h
      cbv
      simp only [hH, decide_eq_true h]
      refine ⟨by simp; omega, [], ⟨⟨rfl, rfl⟩, rfl⟩, _, _, ?_, ?_, _, hst (pk [i]) (pn [i]) (pb [i]), ?_⟩
      · cbv
      · cbv
      rintro x σ ⟨v, hv2, rfl, rfl⟩
      cases v with
      | true =>
        cbv
        exact fin_i ⟨i, .inl ⟨h0, h, hv2.1 rfl⟩, rfl, rfl⟩
      | false =>
        cbv
        have e1 : IntKind.i64.wrap (i + 1) = i + 1 := IntWalk.i64_in _ (by omega)
        obtain ⟨i2, hi2⟩ : ∃ i2, i2 = i + 1 := ⟨_, rfl⟩
        rw [e1, ← hi2]
        refine ⟨i2, ⟨by omega, by omega, fun j j0 j1 => ?_⟩, by omega, ?_⟩
        · by_cases e : j = i
          · subst e; exact Classical.byContradiction fun hn => by have := hv2.2 hn; cases this
          · exact hv j j0 (by omega)
        · cbv
          rw [hH]
          cases full <;> simp
    · rename_i h
      simp only [hH, decide_eq_false_iff_not] at h
      cbv
      exact fin_i ⟨-1, .inr ⟨rfl, fun j j0 j1 => hv j j0 (by omega)⟩, rfl, rfl⟩
theorem jcontains (m : Int) (pk pn : Ix → Int) (pb : Ix → Str) (full : Bool) (hm : 0 ≤ m ∧ m ≤ 1000000000) : TriS Try.prog 46 [.l m [.i .i64 pk, .i .i64 pn, .s pb] full, .fn (.func 47) []] []
    (fun r σ => ∃ v : Bool, (v = false ↔ ∀ j : Int, 0 ≤ j → j < m → okP (pk [j]) (pn [j]) (pb [j])) ∧ r = .b v ∧ σ = []) := by
  refine tri_of TT_ok mixed (OR := OR0) (fn := Try.f46) (c := body Try.f46) (by kernel_rfl) (by kernel_rfl) (by kernel_rfl) (by kernel_rfl) (by simp [Try.f46]) fun H Tri hH hTri => ?_
  have hc := jindex m pk pn pb full hm
  obtain ⟨Q, hQ⟩ : ∃ Q : Int → Int → Str → Prop, Q = okP := ⟨_, rfl⟩
  rw [← hQ] at hc ⊢
  cbv
  refine ⟨[], ⟨⟨rfl, rfl⟩, rfl⟩, _, _, ?_, ?_, _, hTri _ _ _ _ hc, ?_⟩
  · cbv
  · cbv
  rintro x σ ⟨v, hv, rfl, rfl⟩
  cbv
  rw [hH]
  refine fin_b ⟨decide (0 ≤ v), ?_, rfl, rfl⟩
  rw [decide_eq_false_iff_not]
  rcases hv with ⟨h0, h1, h2⟩ | ⟨rfl, h⟩
  · exact ⟨fun h => absurd h0 h, fun h => absurd (h v h0 h1) h2⟩
  · exact ⟨fun _ => h, fun _ => by omega⟩
theorem jroom (base size tx : Int) (D : DK) (hs : 2 ≤ size ∧ size ≤ 999) : TriS Try.prog 21 [.pt 0 0] (jouS 0 1 2 3 base size tx D) (fun r σ => ∃ v, v = size - 1 ∧ r = .i .i64 v ∧ σ = jouS 0 1 2 3 base size tx D) := by
  refine tri_of TT_ok mixed (OR := OR0) (fn := Try.f21) (c := body Try.f21) (by kernel_rfl) (by kernel_rfl) (by kernel_rfl) (by kernel_rfl) (by simp [Try.f21]) fun H Tri hH hTri => ?_
  obtain ⟨n0, m0, k0, r0, w0, f0, pg0, wn0, ws0⟩ := D
  cbv
  have e1 : IntKind.i64.wrap (size - 1) = size - 1 := IntWalk.i64_in _ (by omega)
  obtain ⟨v, hv⟩ : ∃ v, v = size - 1 := ⟨_, rfl⟩
  rw [e1, ← hv, hH]
  refine ⟨_, _, ⟨v, rfl, rfl, rfl⟩, ?_⟩
  cbv
end Go.Proofs.Ytabmdohibkkflaa.AM

namespace Go.Proofs.Ytabmdohibkkflaa.AM
open Go
set_option maxRecDepth 100000
def OR44 : Nat → List (Nat × List Nat)
  | 9 => [(0, []), (1, []), (2, []), (3, []), (4, []), (5, []), (6, []), (7, [0]), (8, []), (9, [])]
  | _ => []
theorem mul_tri (n : Nat) (hn : n < 1000000000) : TriS Try.prog 65 [.i .u64 1, .i .u64 n] [] (fun r σ => r = .tu [.i .u64 0, .i .u64 n] ∧ σ = []) := by
  refine tri_plain (vs0 := [.int .u64 1, .int .u64 n]) (v := .tuple #[.int .u64 0, .int .u64 n]) (by kernel_rfl) (fun g w ow vs h => ?_) (fun _ _ _ => ⟨_, rfl, rfl, rfl, trivial⟩) rfl (fun w => ?_)
  · match vs, h with
    | [a, b], h => obtain rfl : a = _ := h.1; obtain rfl : b = _ := h.2.1; rfl
  · have := Try.bits_Mul 1 n (by omega) (by omega) w
    refine this.mono ?_
    rintro e w' ⟨rfl, rfl⟩
    have e1 : ((1 * n / 18446744073709551616 : Nat) : Int) = 0 := by omega
    have e2 : ((1 * n % 18446744073709551616 : Nat) : Int) = n := by omega
    rw [e1, e2]
    exact ⟨rfl, ⟨rfl, rfl, rfl, Nat.le_refl _, fun _ _ => rfl⟩⟩
/-- one text, over and over -/
theorem repeat_list (n : Int) (c : Ix → Str) (full : Bool) (hn : 1 ≤ n ∧ n ≤ 1000) : TriS Try.prog 44 [.l 1 [.s c] full, .i .i64 n] [] (fun r σ => ∃ c' : Ix → Str, (∀ j : Int, 0 ≤ j → j < n → c' [j] = c [0]) ∧ r = .sl 100 0 n 1 false ∧ σ = [(100, .ar n [.s c'] 9)]) := by
  refine tri_of TT_ok mixed (OR := OR44) (fn := Try.f44) (c := body Try.f44) (by kernel_rfl) (by kernel_rfl) (by kernel_rfl) (by kernel_rfl) (by simp [Try.f44]) fun H Tri hH hTri => ?_
  obtain ⟨k, hk⟩ := Int.eq_ofNat_of_zero_le (show 0 ≤ n by omega)
  have hmul := mul_tri k (by omega)
  rw [show ((k : Nat) : Int) = n from hk.symm] at hmul
  have e1 : IntKind.u64.wrap n = n := by simp [IntKind.wrap, IntKind.bits, IntKind.signed]; omega
  have e2 : IntKind.i64.wrap n = n := IntWalk.i64_in _ (by omega)
  clear hk
  cbv
  split
  case h_1 => rename_i h; exact absurd h (by rw [hH]; simp; omega)
  cbv
  rw [e1, show H Int (IntKind.u64.wrap 1) = 1 from by rw [hH]; rfl, hH Int n]
  refine ⟨[], ⟨⟨rfl, rfl⟩, rfl⟩, _, _, ?_, ?_, _, hTri _ _ _ _ hmul, ?_⟩
  · cbv
  · cbv
  rintro x σ ⟨rfl, rfl⟩
  cbv
  split
  case h_1 => rename_i hh; exact absurd hh (by rw [hH]; simp; try omega)
  cbv
  split
  case h_1 => rename_i hh; exact absurd hh (by rw [hH]; simp; try omega)
  cbv
  rw [e2, hH Int n]
  refine ⟨by rw [hH]; exact decide_eq_true ⟨by omega, rfl, by show n * 16 ≤ 140737488355328; omega⟩, ?_⟩
  have ec : H Int (cnt2 1 n) = 1 := by rw [hH, cnt2]; split <;> omega
  have ec2 : H Int (0 + cnt2 1 n) = 1 := by rw [hH, cnt2]; split <;> omega
  rw [ec, ec2, show H Int (-0) = 0 from by rw [hH]; rfl]
  have hc0 : ∀ j : Int, 0 ≤ j → j < 1 → (bif decide (0 ≤ hd [j] ∧ hd [j] < 1) then c ((hd [j] + 0) :: [j].tail) else []) = c [0] := fun j j0 j1 => by
    obtain rfl : j = 0 := by omega
    rfl
  obtain ⟨c1, hc1⟩ : ∃ c1, c1 = (fun ix => bif decide (0 ≤ hd ix ∧ hd ix < 1) then c ((hd ix + 0) :: ix.tail) else []) := ⟨_, rfl⟩
  have hc1' : ∀ j : Int, 0 ≤ j → j < 1 → c1 [j] = c [0] := fun j j0 j1 => by rw [hc1]; exact hc0 j j0 j1
  rw [← hc1]
  obtain ⟨z, hz⟩ : ∃ z, z = c [0] := ⟨_, rfl⟩
  rw [← hz] at hc1' ⊢
  clear hc1 hc0
  refine ⟨0, Int × (Ix → Str), fun a => ⟨[(7, .sl 100 0 n 1 false), (8, .i .i64 a.1)], [(100, .ar n [.s a.2] 9)], 200⟩, fun a => (1 ≤ a.1 ∧ a.1 ≤ n) ∧ ∀ j : Int, 0 ≤ j → j < a.1 → a.2 [j] = z, fun a => (n - a.1).toNat, ⟨(1, c1), ⟨⟨by simp, by simp; omega⟩, hc1'⟩, ?_⟩, ?_⟩
  · cbv
  · rintro ⟨i, c2⟩ ⟨⟨h0, h1⟩, h2⟩
    simp only at h0 h1 h2
    have e3 : IntKind.i64.wrap (i + cnt2 i (n - i)) = i + cnt2 i (n - i) := by
      apply IntWalk.i64_in; rw [cnt2]; split <;> omega
    have e4 : i < n → i < i + cnt2 i (n - i) ∧ i + cnt2 i (n - i) ≤ n ∧ 0 ≤ cnt2 i (n - i) ∧ cnt2 i (n - i) ≤ i := fun h => by rw [cnt2]; split <;> omega
    cbv
    split
    · rename_i h
      simp only [hH, decide_eq_true_eq] at h
      cbv
      simp only [hH, decide_eq_true h, show o0 none = 0 from rfl, show o0 (some i) = i from rfl, Int.sub_zero, Int.zero_add]
      obtain ⟨e5, e6, e7, e8⟩ := e4 h
      rw [e3]
      obtain ⟨nd, hnd⟩ : ∃ nd, nd = (n - i) := ⟨_, rfl⟩
      rw [← hnd] at e5 e6 e7 e8 ⊢
      obtain ⟨cc, hcc⟩ : ∃ cc, cc = (cnt2 i nd) := ⟨_, rfl⟩
      rw [← hcc] at e5 e6 e7 e8 ⊢
      obtain ⟨i2, hi2⟩ : ∃ i2, i2 = (i + cc) := ⟨_, rfl⟩
      rw [← hi2] at e5 e6 ⊢
      have hc3a : ∀ j : Int, 0 ≤ j → j < i2 → (bif decide (i ≤ hd [j] ∧ hd [j] < i2) then c2 ((hd ((hd [j] + -i) :: [j].tail) + 0) :: ((hd [j] + -i) :: [j].tail).tail) else c2 [j]) = z := fun j j0 j1 => by
        by_cases hji : i ≤ j
        · rw [show decide (i ≤ hd [j] ∧ hd [j] < i2) = true from decide_eq_true ⟨hji, j1⟩]
          show c2 [j + -i + 0] = z
          exact h2 _ (by omega) (by omega)
        · rw [show decide (i ≤ hd [j] ∧ hd [j] < i2) = false from decide_eq_false (fun e => hji e.1)]
          exact h2 j j0 (by omega)
      obtain ⟨c3, hc3⟩ : ∃ c3, c3 = (fun ix => bif decide (i ≤ hd ix ∧ hd ix < i2) then c2 ((hd ((hd ix + -i) :: ix.tail) + 0) :: ((hd ix + -i) :: ix.tail).tail) else c2 ix) := ⟨_, rfl⟩
      have hc4 : ∀ j : Int, 0 ≤ j → j < i2 → c3 [j] = z := fun j j0 j1 => by rw [hc3]; exact hc3a j j0 j1
      rw [← hc3]
      refine ⟨by simp; omega, by simp; omega, (i2, c3), ⟨⟨by simp only; omega, by simp only; omega⟩, hc4⟩, by simp only; omega, ?_⟩
      cbv
    · rename_i h
      simp only [hH, decide_eq_false_iff_not] at h
      obtain rfl : i = n := by omega
      cbv
      exact ⟨_, _, ⟨c2, h2, rfl, rfl⟩, by cbv⟩
end Go.Proofs.Ytabmdohibkkflaa.AM

namespace Go.Proofs.Ytabmdohibkkflaa.AM
open Go
set_option maxRecDepth 100000
theorem commit_bad (m : Int) (pk pn : Ix → Int) (pb : Ix → Str) (full : Bool) (hm : 0 ≤ m ∧ m ≤ 1000000000) {base size tx : Int} (D : DK) (hs : 2 ≤ size ∧ size ≤ 999)
    (hbad : m = 0 ∨ size - 1 < m ∨ ¬ ∀ j : Int, 0 ≤ j → j < m → okP (pk [j]) (pn [j]) (pb [j])) :
    TriS Try.prog 15 [.pt 0 0, .l m [.i .i64 pk, .i .i64 pn, .s pb] full] (jouS 0 1 2 3 base size tx D) (fun r σ => ∃ e : Int, (e ≠ 0 ∧ (m = 0 → e = 1) ∧ (0 < m → (∀ j : Int, 0 ≤ j → j < m → okP (pk [j]) (pn [j]) (pb [j])) → e = 3)) ∧ r = .i .i64 e ∧ σ = jouS 0 1 2 3 base size tx D) := by
  refine tri_of TT_ok mixed (OR := OR0) (fn := Try.f15) (c := body Try.f15) (by kernel_rfl) (by kernel_rfl) (by kernel_rfl) (by kernel_rfl) (by simp [Try.f15]) fun H Tri hH hTri => ?_
  have hc := jcontains m pk pn pb full hm
  have hr := jroom base size tx D hs
  obtain ⟨Q, hQ⟩ : ∃ Q : Int → Int → Str → Prop, Q = okP := ⟨_, rfl⟩
  rw [← hQ] at hc hbad ⊢
  obtain ⟨n0, m0, k0, r0, w0, f0, pg0, wn0, ws0⟩ := D
  cbv
  split
  · rename_i h
    simp only [hH, decide_eq_true_eq] at h
    cbv
    refine ⟨_, _, ⟨1, ⟨by omega, fun _ => rfl, fun h0 => by omega⟩, rfl, rfl⟩, ?_⟩
    cbv
  · rename_i h
    simp only [hH, decide_eq_false_iff_not] at h
    cbv
    refine ⟨[], ⟨⟨rfl, rfl⟩, rfl⟩, _, _, ?_, ?_, _, hTri _ _ _ _ hc, ?_⟩
    · cbv
    · cbv
    rintro x σ ⟨v, hv, rfl, rfl⟩
    cases v with
    | true =>
      cbv
      refine ⟨_, _, ⟨1, ⟨by omega, fun _ => rfl, fun _ ha => by have := hv.2 ha; cases this⟩, rfl, rfl⟩, ?_⟩
      cbv
    | false =>
      cbv
      refine ⟨[0, 1, 2, 3], ⟨⟨rfl, rfl⟩, rfl⟩, _, _, ?_, ?_, _, hTri _ _ _ _ hr, ?_⟩
      · cbv
      · cbv
      rintro x σ ⟨v, hv2, rfl, rfl⟩
      cbv
      split
      · cbv
        refine ⟨_, _, ⟨3, ⟨by omega, fun h0 => absurd h0 h, fun _ _ => rfl⟩, rfl, rfl⟩, ?_⟩
        cbv
      · rename_i h2
        simp only [hH, decide_eq_false_iff_not] at h2
        have h2 : ¬ v < m := h2
        exfalso
        rcases hbad with h3 | h3 | h3
        · exact h h3
        · omega
        · exact h3 (hv.1 rfl)
/-- what a commit leaves -/
def comF (base tx m : Int) (pk pn : Ix → Int) (pb : Ix → Str) (at0 : Int → Str) (q : Int) : Str :=
  if base ≤ q ∧ q < base + m then sealF 5 q (stageF tx (q - base) (pk [q - base]) (pn [q - base]) (pb [q - base]))
  else if q = base + m then sealF 5 q (commitF tx m (esumF pk pn pb m.toNat)) else at0 q
theorem commit_ok (m : Int) (pk pn : Ix → Int) (pb : Ix → Str) (full : Bool) {base size tx L : Int} {D : DK} (hD : D.ok L) (hL : L ≤ 10000000) (hs : 2 ≤ size ∧ size ≤ 999) (ht : 1 ≤ tx ∧ tx ≤ 4294967295) (hb : 0 ≤ base ∧ base + size ≤ D.n) (hm : 0 < m ∧ m ≤ size - 1) (hp : ∀ j : Int, 0 ≤ j → j < m → okP (pk [j]) (pn [j]) (pb [j])) :
    TriS Try.prog 15 [.pt 0 0, .l m [.i .i64 pk, .i .i64 pn, .s pb] full] (jouS 0 1 2 3 base size tx D) (fun r σ => ∃ D', (D'.ok (L + 2000) ∧ D'.n = D.n ∧ ∀ q, D'.at q = comF base tx m pk pn pb D.at q) ∧ r = .i .i64 0 ∧ σ = jouS 0 1 2 100 base size tx D') := by
  refine tri_of TT_ok mixed (OR := OR0) (fn := Try.f15) (c := body Try.f15) (by kernel_rfl) (by kernel_rfl) (by kernel_rfl) (by kernel_rfl) (by simp [Try.f15]) fun H Tri hH hTri => ?_
  have hc := jcontains m pk pn pb full (by omega)
  have hr := jroom base size tx D hs
  have hsum := entry_sum m pk pn pb full (by omega) hp
  have hn1000 : D.n ≤ 1000 := hD.1.1.2
  have hput : ∀ (i : Int) (D2 : DK), 0 ≤ i → i < m → D2.ok (L + i) → D2.n = D.n → TriS Try.prog 49 [.pt 0 0, entV 1 0 i (pk [i]) (pn [i]) (pb [i]) 0 0] (jouS 0 1 2 3 base size tx D2) (fun r σ => ∃ D', D' = D2.wr (base + i) (sealF 5 (base + i) (stageF tx i (pk [i]) (pn [i]) (pb [i]))) ∧ r = .tu [] ∧ σ = jouS 0 1 2 100 base size tx D') := fun i D2 h0 h1 h2 h3 => by
    obtain ⟨-, -, hbl, -⟩ := hp i h0 h1
    exact jput h2 (by omega) (by omega) (by omega) (by omega) (by rw [stage_len]; omega) (encode_stage tx i (pk [i]) (pn [i]) (pb [i]) ht (by omega) (hp i h0 h1))
  have hputc : ∀ (D2 : DK) (L2 : Int), D2.ok L2 → L2 ≤ 100000000 → D2.n = D.n → ∀ v, v = esumF pk pn pb m.toNat → TriS Try.prog 49 [.pt 0 0, entV 2 0 m 0 0 [] m v] (jouS 0 1 2 3 base size tx D2) (fun r σ => ∃ D', D' = D2.wr (base + m) (sealF 5 (base + m) (commitF tx m (esumF pk pn pb m.toNat))) ∧ r = .tu [] ∧ σ = jouS 0 1 2 100 base size tx D') := fun D2 L2 h2 h4 h3 v hv => by
    rw [hv]
    refine jput h2 h4 (by omega) (by omega) (by omega) ?_ (encode_commit tx m _ ht (by omega) (esumF_in pk pn pb m.toNat))
    rw [commitF, bytesOf_length]; decide
  have hall : Tri 46 [.l m [.i .i64 pk, .i .i64 pn, .s pb] full, .fn (.func 47) []] [] (fun r σ => r = .b false ∧ σ = []) := by
    refine hTri _ _ _ _ ⟨hc.1, fun X g w vs hX hob hvs => (hc.2 X g w vs hX hob hvs).mono ?_⟩
    rintro e w' ⟨r, σ', g', v, ⟨v0, hv0, rfl, rfl⟩, rest⟩
    exact ⟨_, _, g', v, ⟨by rw [hv0.2 hp], rfl⟩, rest⟩
  obtain ⟨E, hE⟩ : ∃ E : Int, E = esumF pk pn pb m.toNat := ⟨_, rfl⟩
  rw [← hE] at hsum
  clear hc
  obtain ⟨RR, hRR⟩ : ∃ RR : V → Sto → Prop, RR = (fun r σ => ∃ D', (D'.ok (L + 2000) ∧ D'.n = D.n ∧ ∀ q, D'.at q = comF base tx m pk pn pb D.at q) ∧ r = .i .i64 0 ∧ σ = jouS 0 1 2 100 base size tx D') := ⟨_, rfl⟩
  rw [← hRR]
  obtain ⟨D0, hD0⟩ : ∃ D0, D0 = D := ⟨_, rfl⟩
  rw [← hD0] at hr ⊢
  obtain ⟨n0, m0, k0, r0, w0, f0, pg0, wn0, ws0⟩ := D0
  cbv
  split
  case h_1 => rename_i h; simp only [hH, decide_eq_true_eq] at h; omega
  cbv
  refine ⟨[], ⟨⟨rfl, rfl⟩, rfl⟩, _, _, ?_, ?_, _, hall, ?_⟩
  · cbv
  · cbv
  rintro x σ ⟨rfl, rfl⟩
  cbv
  refine ⟨[0, 1, 2, 3], ⟨⟨rfl, rfl⟩, rfl⟩, _, _, ?_, ?_, _, hTri _ _ _ _ hr, ?_⟩
  · cbv
  · cbv
  rintro x σ ⟨v, hv2, rfl, rfl⟩
  cbv
  split
  case h_1 => rename_i h; simp only [hH, decide_eq_true_eq] at h; have h : v < m := h; omega
  cbv
  refine ⟨0, Int × DK, fun a => ⟨[(0, .pt 0 0), (1, .l m [.i .i64 pk, .i .i64 pn, .s pb] full), (25, .l m [.i .i64 pk, .i .i64 pn, .s pb] full), (26, .i .i64 m), (27, .i .i64 a.1)], jouS 0 1 2 100 base size tx a.2, 300⟩, fun a => (0 ≤ a.1 ∧ a.1 ≤ m) ∧ (a.2.ok (L + a.1) ∧ a.2.n = D.n) ∧ ∀ q, a.2.at q = if base ≤ q ∧ q < base + a.1 then sealF 5 q (stageF tx (q - base) (pk [q - base]) (pn [q - base]) (pb [q - base])) else D.at q, fun a => (m - a.1).toNat, ⟨(0, ⟨n0, m0, k0, r0, w0, f0, pg0, wn0, ws0⟩), ?_, ?_⟩, ?_⟩
  · rw [hD0]
    exact ⟨⟨by simp, by simp; omega⟩, ⟨by simpa using hD, rfl⟩, fun q => by rw [if_neg (by simp)]⟩
  · cbv
    cases full <;> simp
  · rintro ⟨i, D2⟩ ⟨⟨h0, h1⟩, ⟨h2, h3⟩, h4⟩
    simp only at h0 h1 h2 h3 h4
    by_cases h : i < m
    · have hpi := hput i D2 h0 h h2 h3
      have hwr : ∀ D3, D3 = D2.wr (base + i) (sealF 5 (base + i) (stageF tx i (pk [i]) (pn [i]) (pb [i]))) → (D3.ok (L + (i + 1)) ∧ D3.n = D.n) ∧ ∀ q, D3.at q = if base ≤ q ∧ q < base + (i + 1) then sealF 5 q (stageF tx (q - base) (pk [q - base]) (pn [q - base]) (pb [q - base])) else D.at q := fun D3 e => by
        rw [e]
        refine ⟨⟨by rw [← Int.add_assoc]; exact DK.wr_ok h2 (by omega) _, h3⟩, fun q => ?_⟩
        rw [DK.wr_at _ h2.1.2.1, h4]
        by_cases e1 : q = base + i
        · rw [if_pos e1, if_pos (by omega), e1, show base + i - base = i by omega]
        · rw [if_neg e1]
          by_cases e2 : base ≤ q ∧ q < base + i
          · rw [if_pos e2, if_pos (by omega)]
          · rw [if_neg e2, if_neg (by omega)]
      obtain ⟨n1, m1, k1, r1, w1, f1, pg1, wn1, ws1⟩ := D2
      cbv
      split
      case h_2 => rename_i hh; exact absurd hh (by rw [hH]; simp; omega)
      cbv
      simp only [hH, decide_eq_true h]
      obtain ⟨kk, hkk⟩ : ∃ kk, kk = pk [i] := ⟨_, rfl⟩
      obtain ⟨nn, hnn⟩ : ∃ nn, nn = pn [i] := ⟨_, rfl⟩
      obtain ⟨bb, hbb⟩ : ∃ bb, bb = pb [i] := ⟨_, rfl⟩
      rw [← hkk, ← hnn, ← hbb] at hpi ⊢
      refine ⟨by simp; omega, [0, 1, 2, 100], ⟨⟨rfl, rfl⟩, rfl⟩, _, _, ?_, ?_, _, hTri _ _ _ _ hpi, ?_⟩
      · cbv
      · cbv
      rintro x σ ⟨D3, hD3, rfl, rfl⟩
      rw [hkk, hnn, hbb] at hD3
      have hD4 := hwr D3 hD3
      clear hD3
      obtain ⟨n2, m2, k2, r2, w2, f2, pg2, wn2, ws2⟩ := D3
      cbv
      have e1 : IntKind.i64.wrap (i + 1) = i + 1 := IntWalk.i64_in _ (by omega)
      obtain ⟨i2, hi2⟩ : ∃ i2, i2 = i + 1 := ⟨_, rfl⟩
      rw [e1, ← hi2, hH]
      refine ⟨(i2, ⟨n2, m2, k2, r2, w2, f2, pg2, wn2, ws2⟩), ⟨⟨by simp; omega, by simp; omega⟩, by rw [hi2]; exact hD4.1, by rw [hi2]; exact hD4.2⟩, by simp; omega, ?_⟩
      cbv
      cases full <;> simp
    · have hi : i = m := by omega
      subst hi
      have hfl := jflush h2 (by omega)
      have hflo : ∀ D3, D2.fl D3 → D3.ok (L + i + 1) ∧ D3.n = D.n ∧ ∀ q, D3.at q = D2.at q := fun D3 e => ⟨DK.fl_ok h2 e, e.1.1.trans h3, e.2.2⟩
      obtain ⟨n1, m1, k1, r1, w1, f1, pg1, wn1, ws1⟩ := D2
      cbv
      split
      case h_1 => rename_i hh; exact absurd hh (by rw [hH]; simp)
      cbv
      refine ⟨[1, 2, 100], ⟨⟨rfl, rfl⟩, rfl⟩, _, _, ?_, ?_, _, hTri _ _ _ _ hfl, ?_⟩
      · cbv
      · cbv
      rintro x σ ⟨D3, hD3, rfl, rfl⟩
      obtain ⟨g1, g2, g3⟩ := hflo D3 hD3
      clear hD3
      have hpc := hputc D3 _ g1 (by omega) g2
      have hwr : ∀ D4, D4 = D3.wr (base + i) (sealF 5 (base + i) (commitF tx i (esumF pk pn pb i.toNat))) → (D4.ok (L + i + 1 + 1) ∧ D4.n = D.n) ∧ ∀ q, D4.at q = comF base tx i pk pn pb D.at q := fun D4 e => by
        rw [e]
        refine ⟨⟨DK.wr_ok g1 (by omega) _, g2⟩, fun q => ?_⟩
        rw [DK.wr_at _ g1.1.2.1, g3, h4, comF]
        by_cases e1 : q = base + i
        · rw [if_pos e1, if_neg (by omega), if_pos e1, e1]
        · rw [if_neg e1, if_neg e1]
      obtain ⟨n2, m2, k2, r2, w2, f2, pg2, wn2, ws2⟩ := D3
      cbv
      refine ⟨[], ⟨⟨rfl, rfl⟩, rfl⟩, _, _, ?_, ?_, _, hTri _ _ _ _ hsum, ?_⟩
      · cbv
      · cbv
      rintro x σ ⟨v1, hv1, rfl, rfl⟩
      cbv
      refine ⟨[0, 1, 2, 100], ⟨⟨rfl, rfl⟩, rfl⟩, _, _, ?_, ?_, _, hTri _ _ _ _ (hpc v1 (hv1.trans hE)), ?_⟩
      · cbv
      · cbv
      rintro x σ ⟨D4, hD4, rfl, rfl⟩
      obtain ⟨⟨o1, o2⟩, o3⟩ := hwr D4 hD4
      clear hD4
      have hfl2 := jflush o1 (by omega)
      have hflo2 : ∀ D5, D4.fl D5 → D5.ok (L + 2000) ∧ D5.n = D.n ∧ ∀ q, D5.at q = comF base tx i pk pn pb D.at q := fun D5 e => by
        obtain ⟨⟨q1, q2⟩, ⟨q3, q4, q5⟩, q6⟩ := DK.fl_ok o1 e
        refine ⟨⟨⟨q1, by omega⟩, ⟨by omega, by omega, by omega⟩, q6⟩, e.1.1.trans o2, fun q => (e.2.2 q).trans (o3 q)⟩
      obtain ⟨n3, m3, k3, r3, w3, f3, pg3, wn3, ws3⟩ := D4
      cbv
      refine ⟨[1, 2, 440], ⟨⟨rfl, rfl⟩, rfl⟩, _, _, ?_, ?_, _, hTri _ _ _ _ hfl2, ?_⟩
      · cbv
      · cbv
      rintro x σ ⟨D5, hD5, rfl, rfl⟩
      have hfin := hflo2 D5 hD5
      clear hD5 hflo2
      obtain ⟨n4, m4, k4, r4, w4, f4, pg4, wn4, ws4⟩ := D5
      cbv
      refine ⟨.i .i64 0, jouS 0 1 2 100 base size tx ⟨n4, m4, k4, r4, w4, f4, pg4, wn4, ws4⟩, by rw [hRR]; exact ⟨_, hfin, rfl, rfl⟩, ?_⟩
      cbv
end Go.Proofs.Ytabmdohibkkflaa.AM

namespace Go.Proofs.Ytabmdohibkkflaa.AM
open Go
set_option maxRecDepth 100000
abbrev nilp : V := .v (.pointer none)
theorem nil20 : TriS Try.prog 20 [nilp] [] (fun x σ => x = .i .i64 0 ∧ σ = []) := by
  refine tri_of TT_ok mixed (OR := OR0) (fn := Try.f20) (c := body Try.f20) (by kernel_rfl) (by kernel_rfl) (by kernel_rfl) (by kernel_rfl) (by simp [Try.f20]) fun H Tri hH hTri => ?_
  cbv
  exact ⟨_, _, ⟨rfl, rfl⟩, by cbv⟩
theorem nil21 : TriS Try.prog 21 [nilp] [] (fun x σ => x = .i .i64 0 ∧ σ = []) := by
  refine tri_of TT_ok mixed (OR := OR0) (fn := Try.f21) (c := body Try.f21) (by kernel_rfl) (by kernel_rfl) (by kernel_rfl) (by kernel_rfl) (by simp [Try.f21]) fun H Tri hH hTri => ?_
  cbv
  exact ⟨_, _, ⟨rfl, rfl⟩, by cbv⟩
theorem nil16 : TriS Try.prog 16 [nilp] [] (fun x σ => x = .i .i64 1 ∧ σ = []) := by
  refine tri_of TT_ok mixed (OR := OR0) (fn := Try.f16) (c := body Try.f16) (by kernel_rfl) (by kernel_rfl) (by kernel_rfl) (by kernel_rfl) (by simp [Try.f16]) fun H Tri hH hTri => ?_
  cbv
  exact ⟨_, _, ⟨rfl, rfl⟩, by cbv⟩
theorem nil19 : TriS Try.prog 19 [nilp] [] (fun x σ => x = .i .i64 1 ∧ σ = []) := by
  refine tri_of TT_ok mixed (OR := OR0) (fn := Try.f19) (c := body Try.f19) (by kernel_rfl) (by kernel_rfl) (by kernel_rfl) (by kernel_rfl) (by simp [Try.f19]) fun H Tri hH hTri => ?_
  cbv
  exact ⟨_, _, ⟨rfl, rfl⟩, by cbv⟩
def OR17 : Nat → List (Nat × List Nat)
  | 11 => [(0, []), (1, []), (2, []), (3, []), (4, []), (5, []), (6, []), (7, []), (8, []), (9, []), (10, []), (11, []), (12, []), (13, []), (14, []), (15, []), (16, []), (17, [14, 15]), (18, []), (19, []), (20, [])]
  | _ => []
theorem nil17 : TriS Try.prog 17 [nilp] [] (fun x σ => x = .tu [.l 0 [] true, .b false] ∧ σ = []) := by
  refine tri_of TT_ok mixed (OR := OR17) (fn := Try.f17) (c := body Try.f17) (by kernel_rfl) (by kernel_rfl) (by kernel_rfl) (by kernel_rfl) (by simp [Try.f17]) fun H Tri hH hTri => ?_
  cbv
  exact ⟨_, _, ⟨rfl, rfl⟩, by cbv⟩
theorem nil14 (a b c : Int) : TriS Try.prog 14 [nilp, .i .i64 a, .i .i64 b, .i .i64 c] [] (fun x σ => x = .tu [nilp, .i .i64 1] ∧ σ = []) := by
  refine tri_of TT_ok mixed (OR := OR0) (fn := Try.f14) (c := body Try.f14) (by kernel_rfl) (by kernel_rfl) (by kernel_rfl) (by kernel_rfl) (by simp [Try.f14]) fun H Tri hH hTri => ?_
  cbv
  exact ⟨_, _, ⟨rfl, rfl⟩, by cbv⟩
theorem nil15 (n : Int) (a b : Ix → Int) (c : Ix → Str) (ff : Bool) : TriS Try.prog 15 [nilp, .l n [.i .i64 a, .i .i64 b, .s c] ff] [] (fun x σ => x = .i .i64 1 ∧ σ = []) := by
  refine tri_of TT_ok mixed (OR := OR0) (fn := Try.f15) (c := body Try.f15) (by kernel_rfl) (by kernel_rfl) (by kernel_rfl) (by kernel_rfl) (by simp [Try.f15]) fun H Tri hH hTri => ?_
  cbv
  exact ⟨_, _, ⟨rfl, rfl⟩, by cbv⟩
end Go.Proofs.Ytabmdohibkkflaa.AM

namespace Go.Proofs.Ytabmdohibkkflaa.AM
open Go
set_option maxRecDepth 100000
/-- Scan of a journal without a whole transaction: its first page is blank, or another's -/
theorem scan_none {base size tx L : Int} {D : DK} (hs : 2 ≤ size ∧ size ≤ 999) {E : V}
    (hget : TriS Try.prog 51 [.pt 0 0, .i .i64 0] (jouS 0 1 2 3 base size tx D) (fun r σ => ∃ D', (D'.ok L ∧ D'.n = D.n ∧ ∀ q, D'.at q = D.at q) ∧ r = .tu [E, .b false] ∧ σ = jouS 0 1 2 3 base size tx D')) (hE : ∃ a b c d e f g h, E = entV a b c d e f g h) :
    TriS Try.prog 17 [.pt 0 0] (jouS 0 1 2 3 base size tx D) (fun r σ => ∃ D', (D'.ok L ∧ D'.n = D.n ∧ ∀ q, D'.at q = D.at q) ∧ r = .tu [.l 0 [] true, .b false] ∧ σ = jouS 0 1 2 3 base size tx D') := by
  refine tri_of TT_ok mixed (OR := OR17) (fn := Try.f17) (c := body Try.f17) (by kernel_rfl) (by kernel_rfl) (by kernel_rfl) (by kernel_rfl) (by simp [Try.f17]) fun H Tri hH hTri => ?_
  obtain ⟨a, b, c, d, e, f, g, h, rfl⟩ := hE
  obtain ⟨F, hF⟩ : ∃ F : DK → Prop, F = fun D' => D'.ok L ∧ D'.n = D.n ∧ ∀ q, D'.at q = D.at q := ⟨_, rfl⟩
  have hget' : Tri 51 [.pt 0 0, .i .i64 0] (jouS 0 1 2 3 base size tx D) (fun r σ => ∃ D', F D' ∧ r = .tu [entV a b c d e f g h, .b false] ∧ σ = jouS 0 1 2 3 base size tx D') := by rw [hF]; exact hTri _ _ _ _ hget
  have hRR : (fun (r : V) (σ : Sto) => ∃ D' : DK, (D'.ok L ∧ D'.n = D.n ∧ ∀ q, D'.at q = D.at q) ∧ r = .tu [.l 0 [] true, .b false] ∧ σ = jouS 0 1 2 3 base size tx D') = (fun (r : V) (σ : Sto) => ∃ D' : DK, F D' ∧ r = .tu [.l 0 [] true, .b false] ∧ σ = jouS 0 1 2 3 base size tx D') := by rw [hF]
  rw [hRR]
  clear hRR hget hF
  obtain ⟨n0, m0, k0, r0, w0, f0, pg0, wn0, ws0⟩ := D
  cbv
  refine ⟨2, ?_⟩
  cbv
  split
  case h_2 => rename_i h; exact absurd h (by rw [hH]; simp; omega)
  cbv
  refine ⟨[0, 1, 2, 3], ⟨⟨rfl, rfl⟩, rfl⟩, _, _, ?_, ?_, _, hget', ?_⟩
  · cbv
  · cbv
  rintro x σ ⟨D3, hD3, rfl, rfl⟩
  obtain ⟨n2, m2, k2, r2, w2, f2, pg2, wn2, ws2⟩ := D3
  cbv
  refine ⟨_, _, ⟨⟨n2, m2, k2, r2, w2, f2, pg2, wn2, ws2⟩, hD3, rfl, rfl⟩, ?_⟩
  cbv
/-- Scan of an aborted transaction -/
theorem scan_abort {base size tx L : Int} {D : DK} (hs : 2 ≤ size ∧ size ≤ 999)
    (hget : TriS Try.prog 51 [.pt 0 0, .i .i64 0] (jouS 0 1 2 3 base size tx D) (fun r σ => ∃ D', (D'.ok L ∧ D'.n = D.n ∧ ∀ q, D'.at q = D.at q) ∧ r = .tu [entV 3 tx 0 0 0 [] 0 0, .b true] ∧ σ = jouS 0 1 2 3 base size tx D')) :
    TriS Try.prog 17 [.pt 0 0] (jouS 0 1 2 3 base size tx D) (fun r σ => ∃ D', (D'.ok L ∧ D'.n = D.n ∧ ∀ q, D'.at q = D.at q) ∧ r = .tu [.l 0 [] true, .b false] ∧ σ = jouS 0 1 2 3 base size tx D') := by
  refine tri_of TT_ok mixed (OR := OR17) (fn := Try.f17) (c := body Try.f17) (by kernel_rfl) (by kernel_rfl) (by kernel_rfl) (by kernel_rfl) (by simp [Try.f17]) fun H Tri hH hTri => ?_
  obtain ⟨F, hF⟩ : ∃ F : DK → Prop, F = fun D' => D'.ok L ∧ D'.n = D.n ∧ ∀ q, D'.at q = D.at q := ⟨_, rfl⟩
  have hget' : Tri 51 [.pt 0 0, .i .i64 0] (jouS 0 1 2 3 base size tx D) (fun r σ => ∃ D', F D' ∧ r = .tu [entV 3 tx 0 0 0 [] 0 0, .b true] ∧ σ = jouS 0 1 2 3 base size tx D') := by rw [hF]; exact hTri _ _ _ _ hget
  have hRR : (fun (r : V) (σ : Sto) => ∃ D' : DK, (D'.ok L ∧ D'.n = D.n ∧ ∀ q, D'.at q = D.at q) ∧ r = .tu [.l 0 [] true, .b false] ∧ σ = jouS 0 1 2 3 base size tx D') = (fun (r : V) (σ : Sto) => ∃ D' : DK, F D' ∧ r = .tu [.l 0 [] true, .b false] ∧ σ = jouS 0 1 2 3 base size tx D') := by rw [hF]
  rw [hRR]
  clear hRR hget hF
  obtain ⟨n0, m0, k0, r0, w0, f0, pg0, wn0, ws0⟩ := D
  cbv
  refine ⟨2, ?_⟩
  cbv
  split
  case h_2 => rename_i h; exact absurd h (by rw [hH]; simp; omega)
  cbv
  refine ⟨[0, 1, 2, 3], ⟨⟨rfl, rfl⟩, rfl⟩, _, _, ?_, ?_, _, hget', ?_⟩
  · cbv
  · cbv
  rintro x σ ⟨D3, hD3, rfl, rfl⟩
  obtain ⟨n2, m2, k2, r2, w2, f2, pg2, wn2, ws2⟩ := D3
  cbv
  split
  case h_1 => rename_i h; exact absurd h (by rw [hH]; simp)
  cbv
  split
  case h_1 => rename_i h; exact absurd h (by rw [hH]; simp)
  cbv
  refine ⟨_, _, ⟨⟨n2, m2, k2, r2, w2, f2, pg2, wn2, ws2⟩, hD3, rfl, rfl⟩, ?_⟩
  cbv
/-- what stands on the disk behind a commit -/
def comAt (D : DK) (base tx m : Int) (pk pn : Ix → Int) (pb : Ix → Str) : Prop :=
  (∀ i : Int, 0 ≤ i → i < m → D.at (base + i) = sealF 5 (base + i) (stageF tx i (pk [i]) (pn [i]) (pb [i]))) ∧ D.at (base + m) = sealF 5 (base + m) (commitF tx m (esumF pk pn pb m.toNat))
theorem comAt_congr {D D' : DK} {base tx m : Int} {pk pn : Ix → Int} {pb : Ix → Str} (h : comAt D base tx m pk pn pb) (he : ∀ q, D'.at q = D.at q) : comAt D' base tx m pk pn pb :=
  ⟨fun i h0 h1 => (he _).trans (h.1 i h0 h1), (he _).trans h.2⟩
theorem comAt_of {D D' : DK} {base tx m : Int} {pk pn : Ix → Int} {pb : Ix → Str} (h : ∀ q, D'.at q = comF base tx m pk pn pb D.at q) (hm : 0 ≤ m) : comAt D' base tx m pk pn pb := by
  refine ⟨fun i h0 h1 => ?_, ?_⟩
  · rw [h, comF, if_pos (by omega), show base + i - base = i by omega]
  · rw [h, comF, if_neg (by omega), if_pos rfl]
theorem DK.ok_mono {D : DK} {L L' : Int} (h : D.ok L) (hl : L ≤ L') : D.ok L' := by
  obtain ⟨⟨h1, h2⟩, ⟨h3, h4, h5⟩, h6⟩ := h
  exact ⟨⟨h1, by omega⟩, ⟨by omega, by omega, by omega⟩, h6⟩
theorem scan_some {m : Int} {pk pn : Ix → Int} {pb : Ix → Str} {base size tx L : Int} {D : DK} (hD : D.ok L) (hL : L ≤ 10000000) (hs : 2 ≤ size ∧ size ≤ 999) (ht : 1 ≤ tx ∧ tx ≤ 4294967295) (hb : 0 ≤ base ∧ base + size ≤ D.n) (hm : 0 < m ∧ m ≤ size - 1) (hp : ∀ j : Int, 0 ≤ j → j < m → okP (pk [j]) (pn [j]) (pb [j])) (hc : comAt D base tx m pk pn pb) :
    TriS Try.prog 17 [.pt 0 0] (jouS 0 1 2 3 base size tx D) (fun r σ => ∃ D' pk' pn' pb', (D'.ok (L + 2000) ∧ D'.n = D.n ∧ ∀ q, D'.at q = D.at q) ∧ (∀ j : Int, 0 ≤ j → j < m → pk' [j] = pk [j] ∧ pn' [j] = pn [j] ∧ pb' [j] = pb [j]) ∧ r = .tu [.sl 101 0 m 3 false, .b true] ∧ σ = jouS 0 1 2 3 base size tx D' ++ [(101, .ar m [.i .i64 pk', .i .i64 pn', .s pb'] 75)]) := by
  refine tri_of TT_ok mixed (OR := OR17) (fn := Try.f17) (c := body Try.f17) (by kernel_rfl) (by kernel_rfl) (by kernel_rfl) (by kernel_rfl) (by simp [Try.f17]) fun H Tri hH hTri => ?_
  have hn1000 : D.n ≤ 1000 := hD.1.1.2
  have hst : ∀ (D2 : DK), DK → True := fun _ _ => trivial
  have hrd : ∀ {D2 : DK} {L2 : Int}, D2.ok L2 → ({ D2 with r := D2.r + 1 } : DK).ok (L2 + 1) ∧ ∀ q, ({ D2 with r := D2.r + 1 } : DK).at q = D2.at q := fun {D2 L2} h => by
    obtain ⟨⟨h1, h2⟩, ⟨h3, h4, h5⟩, h6⟩ := h
    refine ⟨⟨⟨h1, ?_⟩, ⟨?_, ?_, ?_⟩, h6⟩, fun q => rfl⟩
    · show 0 ≤ D2.m ∧ D2.m ≤ L2 + 1; omega
    · show 0 ≤ D2.r + 1 ∧ D2.r + 1 ≤ L2 + 1; omega
    · show 0 ≤ D2.w ∧ D2.w ≤ L2 + 1; omega
    · show 0 ≤ D2.f ∧ D2.f ≤ L2 + 1; omega
  have hgs : ∀ (D2 : DK) (i : Int), 0 ≤ i → i < m → D2.ok (L + i) → D2.n = D.n → (∀ q, D2.at q = D.at q) → TriS Try.prog 51 [.pt 0 0, .i .i64 i] (jouS 0 1 2 3 base size tx D2) (fun r σ => ∃ D' v, D' = { D2 with r := D2.r + 1 } ∧ (v = true ↔ tx = tx) ∧ r = .tu [entV 1 tx i (pk [i]) (pn [i]) (pb [i]) 0 0, .b v] ∧ σ = jouS 0 1 2 3 base size tx D') := fun D2 i h0 h1 h2 h3 h4 => by
    obtain ⟨-, -, hbl, -⟩ := hp i h0 h1
    exact jget_seal h2 (by omega) (by omega) (by omega) (by omega) (by rw [stage_len]; omega) ((h4 _).trans (hc.1 i h0 h1)) (decode_stage tx i (pk [i]) (pn [i]) (pb [i]) ht (by omega) (hp i h0 h1))
  have hgc : ∀ (D2 : DK), D2.ok (L + m) → D2.n = D.n → (∀ q, D2.at q = D.at q) → TriS Try.prog 51 [.pt 0 0, .i .i64 m] (jouS 0 1 2 3 base size tx D2) (fun r σ => ∃ D' v, D' = { D2 with r := D2.r + 1 } ∧ (v = true ↔ tx = tx) ∧ r = .tu [entV 2 tx m 0 0 [] m (esumF pk pn pb m.toNat), .b v] ∧ σ = jouS 0 1 2 3 base size tx D') := fun D2 h2 h3 h4 => by
    refine jget_seal h2 (by omega) (by omega) (by omega) (by omega) ?_ ((h4 _).trans hc.2) (decode_commit tx m _ ht (by omega) (esumF_in pk pn pb m.toNat))
    rw [commitF, bytesOf_length]; decide
  obtain ⟨E, hE⟩ : ∃ E : Int, E = esumF pk pn pb m.toNat := ⟨_, rfl⟩
  rw [← hE] at hgc
  obtain ⟨RR, hRR⟩ : ∃ RR : V → Sto → Prop, RR = (fun r σ => ∃ D' pk' pn' pb', (D'.ok (L + 2000) ∧ D'.n = D.n ∧ ∀ q, D'.at q = D.at q) ∧ (∀ j : Int, 0 ≤ j → j < m → pk' [j] = pk [j] ∧ pn' [j] = pn [j] ∧ pb' [j] = pb [j]) ∧ r = .tu [.sl 101 0 m 3 false, .b true] ∧ σ = jouS 0 1 2 3 base size tx D' ++ [(101, .ar m [.i .i64 pk', .i .i64 pn', .s pb'] 75)]) := ⟨_, rfl⟩
  rw [← hRR]
  obtain ⟨D0, hD0⟩ : ∃ D0, D0 = D := ⟨_, rfl⟩
  rw [← hD0]
  obtain ⟨n0, m0, k0, r0, w0, f0, pg0, wn0, ws0⟩ := D0
  cbv
  refine ⟨0, Int × DK × (Ix → Int) × (Ix → Int) × (Ix → Str), fun a => ⟨[(0, .pt 0 0), (4, .sl 101 0 a.1 3 false), (13, .i .i64 size), (14, .i .i64 a.1)], jouS 0 1 2 3 base size tx a.2.1 ++ [(101, .ar a.1 [.i .i64 a.2.2.1, .i .i64 a.2.2.2.1, .s a.2.2.2.2] 75)], 300⟩, fun a => (0 ≤ a.1 ∧ a.1 ≤ m) ∧ (a.2.1.ok (L + a.1) ∧ a.2.1.n = D.n ∧ ∀ q, a.2.1.at q = D.at q) ∧ ∀ j : Int, 0 ≤ j → j < a.1 → a.2.2.1 [j] = pk [j] ∧ a.2.2.2.1 [j] = pn [j] ∧ a.2.2.2.2 [j] = pb [j], fun a => (m - a.1).toNat + 1, ⟨(0, ⟨n0, m0, k0, r0, w0, f0, pg0, wn0, ws0⟩, pk, pn, pb), ?_, ?_⟩, ?_⟩
  · rw [hD0]
    exact ⟨⟨by simp, by simp; omega⟩, ⟨by simpa using hD, rfl, fun q => rfl⟩, fun j h0 h1 => ⟨rfl, rfl, rfl⟩⟩
  · cbv
  · rintro ⟨i, D2, pk2, pn2, pb2⟩ ⟨⟨h0, h1⟩, ⟨h2, h3, h4⟩, h5⟩
    simp only at h0 h1 h2 h3 h4 h5
    by_cases h : i < m
    · have hgi := hgs D2 i h0 h h2 h3 h4
      have hfa : ∀ D3, D3 = ({ D2 with r := D2.r + 1 } : DK) → D3.ok (L + (i + 1)) ∧ D3.n = D.n ∧ ∀ q, D3.at q = D.at q := fun D3 e => by
        rw [e]
        obtain ⟨q1, q2⟩ := hrd h2
        exact ⟨by rw [← Int.add_assoc]; exact q1, h3, fun q => (q2 q).trans (h4 q)⟩
      obtain ⟨n1, m1, k1, r1, w1, f1, pg1, wn1, ws1⟩ := D2
      obtain ⟨kk, hkk⟩ : ∃ kk, kk = pk [i] := ⟨_, rfl⟩
      obtain ⟨nn, hnn⟩ : ∃ nn, nn = pn [i] := ⟨_, rfl⟩
      obtain ⟨bb, hbb⟩ : ∃ bb, bb = pb [i] := ⟨_, rfl⟩
      rw [← hkk, ← hnn, ← hbb] at hgi
      cbv
      split
      case h_2 => rename_i hh; exact absurd hh (by rw [hH]; simp; omega)
      cbv
      refine ⟨[0, 1, 2, 3], ⟨⟨rfl, rfl⟩, rfl⟩, _, _, ?_, ?_, _, hTri _ _ _ _ hgi, ?_⟩
      · cbv
      · cbv
      rintro x σ ⟨D3, v, hD3, hv, rfl, rfl⟩
      obtain rfl : v = true := hv.2 rfl
      have hfa3 := hfa D3 hD3
      clear hD3
      obtain ⟨n2, m2, k2, r2, w2, f2, pg2, wn2, ws2⟩ := D3
      cbv
      split
      case h_2 => rename_i hh; exact absurd hh (by rw [hH]; simp)
      cbv
      obtain ⟨i2, hi2⟩ : ∃ i2, i2 = i + 1 := ⟨_, rfl⟩
      have e1 : IntKind.i64.wrap (i + 1) = i2 := by rw [hi2]; exact IntWalk.i64_in _ (by omega)
      have hc3 : ∀ j : Int, 0 ≤ j → j < i2 → (bif decide (hd [j] < i) then pk2 [j] else kk) = pk [j] ∧ (bif decide (hd [j] < i) then pn2 [j] else nn) = pn [j] ∧ (bif decide (hd [j] < i) then pb2 [j] else bb) = pb [j] := fun j j0 j1 => by
        by_cases hji : j < i
        · rw [show decide (hd [j] < i) = true from decide_eq_true hji]; exact h5 j j0 hji
        · rw [show decide (hd [j] < i) = false from decide_eq_false hji, show j = i by omega]; exact ⟨hkk, hnn, hbb⟩
      obtain ⟨pk3, hk3⟩ : ∃ pk3 : Ix → Int, pk3 = fun ix => bif decide (hd ix < i) then pk2 ix else kk := ⟨_, rfl⟩
      obtain ⟨pn3, hn3⟩ : ∃ pn3 : Ix → Int, pn3 = fun ix => bif decide (hd ix < i) then pn2 ix else nn := ⟨_, rfl⟩
      obtain ⟨pb3, hb3⟩ : ∃ pb3 : Ix → Str, pb3 = fun ix => bif decide (hd ix < i) then pb2 ix else bb := ⟨_, rfl⟩
      have hc4 : ∀ j : Int, 0 ≤ j → j < i2 → pk3 [j] = pk [j] ∧ pn3 [j] = pn [j] ∧ pb3 [j] = pb [j] := fun j j0 j1 => by
        rw [hk3, hn3, hb3]; exact hc3 j j0 j1
      rw [e1, ← hi2, ← hk3, ← hn3, ← hb3]
      refine ⟨by rw [hH]; rfl, by rw [hH]; simp; omega, ?_⟩
      rw [hH Int i2]
      rw [← hi2] at hfa3
      refine ⟨(i2, ⟨n2, m2, k2, r2, w2, f2, pg2, wn2, ws2⟩, pk3, pn3, pb3), ⟨⟨by simp only; omega, by simp only; omega⟩, hfa3, hc4⟩, by simp only; omega, ?_⟩
      cbv
    · obtain rfl : i = m := by omega
      have hgi := hgc D2 h2 h3 h4
      have hfa : ∀ D3, D3 = ({ D2 with r := D2.r + 1 } : DK) → D3.ok (L + 2000) ∧ D3.n = D.n ∧ ∀ q, D3.at q = D.at q := fun D3 e => by
        rw [e]
        obtain ⟨q1, q2⟩ := hrd h2
        exact ⟨DK.ok_mono q1 (by omega), h3, fun q => (q2 q).trans (h4 q)⟩
      have hsum : ∀ (a b : Ix → Int) (c : Ix → Str), (∀ j : Int, 0 ≤ j → j < i → a [j] = pk [j] ∧ b [j] = pn [j] ∧ c [j] = pb [j]) → TriS Try.prog 50 [.l i [.i .i64 a, .i .i64 b, .s c] false] [] (fun r σ => ∃ v, v = E ∧ r = .i .u32 v ∧ σ = []) := fun a b c ha => by
        have := entry_sum i a b c false (by omega) (fun j j0 j1 => by obtain ⟨q1, q2, q3⟩ := ha j j0 j1; rw [q1, q2, q3]; exact hp j j0 j1)
        rwa [show esumF a b c i.toNat = E by rw [hE]; exact esumF_congr fun j j0 j1 => ha j j0 (by omega)] at this
      have h6 : ∀ j : Int, 0 ≤ j → j < i → pk2 [j + 0] = pk [j] ∧ pn2 [j + 0] = pn [j] ∧ pb2 [j + 0] = pb [j] := fun j j0 j1 => by rw [Int.add_zero]; exact h5 j j0 j1
      obtain ⟨n1, m1, k1, r1, w1, f1, pg1, wn1, ws1⟩ := D2
      cbv
      split
      case h_2 => rename_i hh; exact absurd hh (by rw [hH]; simp; omega)
      cbv
      refine ⟨[0, 1, 2, 3], ⟨⟨rfl, rfl⟩, rfl⟩, _, _, ?_, ?_, _, hTri _ _ _ _ hgi, ?_⟩
      · cbv
      · cbv
      rintro x σ ⟨D3, v, hD3, hv, rfl, rfl⟩
      obtain rfl : v = true := hv.2 rfl
      have hfa3 := hfa D3 hD3
      clear hD3
      obtain ⟨n2, m2, k2, r2, w2, f2, pg2, wn2, ws2⟩ := D3
      cbv
      split
      case h_1 => rename_i hh; exact absurd hh (by rw [hH]; simp)
      cbv
      split
      case h_2 => rename_i hh; exact absurd hh (by rw [hH]; simp)
      cbv
      split
      case h_2 => rename_i hh; exact absurd hh (by rw [hH]; simp; omega)
      cbv
      split
      case h_2 => rename_i hh; exact absurd hh (by rw [hH]; simp)
      cbv
      refine ⟨[], ⟨⟨rfl, rfl⟩, rfl⟩, _, _, ?_, ?_, _, hTri _ _ _ _ (hsum (fun ix => pk2 ((hd ix + 0) :: ix.tail)) (fun ix => pn2 ((hd ix + 0) :: ix.tail)) (fun ix => pb2 ((hd ix + 0) :: ix.tail)) h6), ?_⟩
      · cbv
      · cbv
      rintro x σ ⟨E2, hE2, rfl, rfl⟩
      cbv
      split
      case h_2 => rename_i hh; exact absurd hh (by rw [hH]; simp; omega)
      cbv
      refine ⟨.tu [.sl 101 0 i 3 false, .b true], jouS 0 1 2 3 base size tx ⟨n2, m2, k2, r2, w2, f2, pg2, wn2, ws2⟩ ++ [(101, .ar i [.i .i64 pk2, .i .i64 pn2, .s pb2] 75)], ?_, ?_⟩
      · rw [hRR]; exact ⟨_, pk2, pn2, pb2, hfa3, fun j j0 j1 => h5 j j0 j1, rfl, rfl⟩
      cbv
end Go.Proofs.Ytabmdohibkkflaa.AM

namespace Go.Proofs.Ytabmdohibkkflaa.AM
open Go
set_option maxRecDepth 100000
def OR18 : Nat → List (Nat × List Nat)
  | 6 => [(0, []), (1, []), (2, []), (3, []), (4, []), (5, []), (6, []), (7, []), (8, [])]
  | _ => []
theorem pages_tri (n n' : Int) (a b : Ix → Int) (c : Ix → Str) (a' b' : Ix → Int) (c' : Ix → Str) (f f' : Bool) (hn : 0 ≤ n ∧ n ≤ 1000000000) (hn' : 0 ≤ n') :
    TriS Try.prog 18 [.l n [.i .i64 a, .i .i64 b, .s c] f, .l n' [.i .i64 a', .i .i64 b', .s c'] f'] [] (fun r σ => ∃ t : Bool, (t = true ↔ n = n' ∧ ∀ j : Int, 0 ≤ j → j < n → a [j] = a' [j] ∧ b [j] = b' [j] ∧ c [j] = c' [j]) ∧ r = .b t ∧ σ = []) := by
  refine tri_of TT_ok mixed (OR := OR18) (fn := Try.f18) (c := body Try.f18) (by kernel_rfl) (by kernel_rfl) (by kernel_rfl) (by kernel_rfl) (by simp [Try.f18]) fun H Tri hH hTri => ?_
  cbv
  split
  case h_1 =>
    rename_i h
    have h : ¬ n = n' := by rw [hH] at h; simpa using h
    cbv
    exact fin_b ⟨false, by simp only [Bool.false_eq_true, false_iff]; exact fun e => h e.1, rfl, rfl⟩
  rename_i h
  obtain rfl : n = n' := by rw [hH] at h; simpa using h
  cbv
  refine ⟨0, Int, fun i => ⟨[(0, .l n [.i .i64 a, .i .i64 b, .s c] f), (1, .l n [.i .i64 a', .i .i64 b', .s c'] f'), (5, .i .i64 i)], [], 200⟩, fun i => 0 ≤ i ∧ i ≤ n ∧ ∀ j : Int, 0 ≤ j → j < i → a [j] = a' [j] ∧ b [j] = b' [j] ∧ c [j] = c' [j], fun i => (n - i).toNat, ⟨0, ⟨by omega, by omega, fun j _ _ => by omega⟩, ?_⟩, ?_⟩
  · cbv
    cases f <;> cases f' <;> simp
  · rintro i ⟨h0, h1, h2⟩
    cbv
    split
    · rename_i h
      simp only [hH, decide_eq_true_eq] at h
      cbv
      simp only [hH, decide_eq_true h]
      refine ⟨by simp; omega, by simp; omega, ?_⟩
      by_cases he : a [i] = a' [i] ∧ b [i] = b' [i] ∧ c [i] = c' [i]
      · simp only [decide_eq_true he.1, decide_eq_true he.2.1, decide_eq_true he.2.2]
        cbv
        have e1 : IntKind.i64.wrap (i + 1) = i + 1 := IntWalk.i64_in _ (by omega)
        obtain ⟨i2, hi2⟩ : ∃ i2, i2 = i + 1 := ⟨_, rfl⟩
        rw [e1, ← hi2]
        refine ⟨i2, ⟨by omega, by omega, fun j j0 j1 => ?_⟩, by omega, ?_⟩
        · by_cases e : j = i
          · subst e; exact he
          · exact h2 j j0 (by omega)
        · cbv
          cases f <;> cases f' <;> simp [hH]
      · have hend : ∃ t : Bool, (t = true ↔ True ∧ ∀ j : Int, 0 ≤ j → j < n → a [j] = a' [j] ∧ b [j] = b' [j] ∧ c [j] = c' [j]) ∧ V.b false = .b t ∧ ([] : Sto) = [] := ⟨false, by simp only [Bool.false_eq_true, false_iff]; exact fun e => he (e.2 i h0 h), rfl, rfl⟩
        by_cases p1 : a [i] = a' [i]
        · by_cases p2 : b [i] = b' [i]
          · have p3 : ¬ c [i] = c' [i] := fun e => he ⟨p1, p2, e⟩
            simp only [decide_eq_true p1, decide_eq_true p2, decide_eq_false p3]
            cbv
            exact fin_b hend
          · simp only [decide_eq_true p1, decide_eq_false p2]
            cbv
            exact fin_b hend
        · simp only [decide_eq_false p1]
          cbv
          exact fin_b hend
    · rename_i h
      simp only [hH, decide_eq_false_iff_not] at h
      cbv
      exact fin_b ⟨true, by simp; exact fun j j0 j1 => h2 j j0 (by omega), rfl, rfl⟩
end Go.Proofs.Ytabmdohibkkflaa.AM

namespace Go.Proofs.Ytabmdohibkkflaa.AM
open Go
set_option maxRecDepth 100000
theorem jtx (base size tx : Int) (D : DK) : TriS Try.prog 20 [.pt 0 0] (jouS 0 1 2 3 base size tx D) (fun r σ => ∃ v, v = tx ∧ r = .i .i64 v ∧ σ = jouS 0 1 2 3 base size tx D) := by
  refine tri_of TT_ok mixed (OR := OR0) (fn := Try.f20) (c := body Try.f20) (by kernel_rfl) (by kernel_rfl) (by kernel_rfl) (by kernel_rfl) (by simp [Try.f20]) fun H Tri hH hTri => ?_
  obtain ⟨n0, m0, k0, r0, w0, f0, pg0, wn0, ws0⟩ := D
  cbv
  refine ⟨_, _, ⟨_, rfl, rfl, rfl⟩, ?_⟩
  cbv
theorem jnext (base size tx : Int) (D : DK) (ht : 1 ≤ tx ∧ tx < 4294967295) : TriS Try.prog 16 [.pt 0 0] (jouS 0 1 2 3 base size tx D) (fun r σ => ∃ t, t = tx + 1 ∧ r = .i .i64 0 ∧ σ = jouS 0 1 2 3 base size t D) := by
  refine tri_of TT_ok mixed (OR := OR0) (fn := Try.f16) (c := body Try.f16) (by kernel_rfl) (by kernel_rfl) (by kernel_rfl) (by kernel_rfl) (by simp [Try.f16]) fun H Tri hH hTri => ?_
  obtain ⟨n0, m0, k0, r0, w0, f0, pg0, wn0, ws0⟩ := D
  have e1 : IntKind.i64.wrap (tx + 1) = tx + 1 := IntWalk.i64_in _ (by omega)
  cbv
  split
  case h_1 => rename_i h; exact absurd h (by rw [hH]; simp; omega)
  cbv
  obtain ⟨t2, ht2⟩ : ∃ t2, t2 = tx + 1 := ⟨_, rfl⟩
  rw [e1, ← ht2, hH Int]
  refine ⟨_, _, ⟨_, rfl, rfl, rfl⟩, ?_⟩
  cbv
theorem jnext_bad (base size tx : Int) (D : DK) (ht : tx = 4294967295) : TriS Try.prog 16 [.pt 0 0] (jouS 0 1 2 3 base size tx D) (fun r σ => r = .i .i64 1 ∧ σ = jouS 0 1 2 3 base size tx D) := by
  refine tri_of TT_ok mixed (OR := OR0) (fn := Try.f16) (c := body Try.f16) (by kernel_rfl) (by kernel_rfl) (by kernel_rfl) (by kernel_rfl) (by simp [Try.f16]) fun H Tri hH hTri => ?_
  obtain ⟨n0, m0, k0, r0, w0, f0, pg0, wn0, ws0⟩ := D
  cbv
  split
  case h_2 => rename_i h; exact absurd h (by rw [hH]; simp; omega)
  cbv
  refine ⟨_, _, ⟨rfl, rfl⟩, ?_⟩
  cbv
end Go.Proofs.Ytabmdohibkkflaa.AM

namespace Go.Proofs.Ytabmdohibkkflaa.AM
open Go
set_option maxRecDepth 100000
theorem size_tri (n m k r w f u : Int) (pg : Ix → Str) (wn : Ix → Int) (ws : Ix → Str) :
    TriS Try.prog 41 [.pt 0 0] (diskS 0 1 2 n m k r w f u pg wn ws) (fun x σ => x = .i .i64 n ∧ σ = diskS 0 1 2 n m k r w f u pg wn ws) := by
  refine tri_of TT_ok mixed (OR := OR0) (fn := Try.f41) (c := body Try.f41) (by kernel_rfl) (by kernel_rfl) (by kernel_rfl) (by kernel_rfl) (by simp [Try.f41]) fun H Tri hH hTri => ?_
  cbv
  refine ⟨_, _, ⟨rfl, rfl⟩, ?_⟩
  cbv
def OR37 : Nat → List (Nat × List Nat)
  | 3 => [(0, []), (1, []), (2, []), (3, []), (4, []), (5, []), (6, []), (7, []), (8, []), (9, []), (10, []), (11, []), (12, [4, 5, 6, 7, 8, 9, 10, 11]), (13, [8, 9, 10, 11]), (14, [])]
  | _ => []
theorem counts_tri (n m k r w f u : Int) (pg : Ix → Str) (wn : Ix → Int) (ws : Ix → Str) :
    TriS Try.prog 37 [.pt 0 0] (diskS 0 1 2 n m k r w f u pg wn ws) (fun x σ => x = .tu [.i .i64 r, .i .i64 w, .i .i64 f] ∧ σ = diskS 0 1 2 n m k r w f u pg wn ws) := by
  refine tri_of TT_ok mixed (OR := OR37) (fn := Try.f37) (c := body Try.f37) (by kernel_rfl) (by kernel_rfl) (by kernel_rfl) (by kernel_rfl) (by simp [Try.f37]) fun H Tri hH hTri => ?_
  cbv
  refine ⟨_, _, ⟨rfl, rfl⟩, ?_⟩
  cbv
theorem fuse_tri (n m k r w f u t : Int) (pg : Ix → Str) (wn : Ix → Int) (ws : Ix → Str) :
    TriS Try.prog 35 [.pt 0 0, .i .i64 t] (diskS 0 1 2 n m k r w f u pg wn ws) (fun x σ => ∃ u', u' = max t (-1) ∧ x = .tu [] ∧ σ = diskS 0 1 2 n m k r w f u' pg wn ws) := by
  refine tri_of TT_ok mixed (OR := OR0) (fn := Try.f35) (c := body Try.f35) (by kernel_rfl) (by kernel_rfl) (by kernel_rfl) (by kernel_rfl) (by simp [Try.f35]) fun H Tri hH hTri => ?_
  cbv
  obtain ⟨u', hu'⟩ : ∃ u', u' = (if t < -1 then -1 else t) := ⟨_, rfl⟩
  rw [hH, ← hu']
  refine ⟨_, _, ⟨u', by rw [hu']; split <;> omega, rfl, rfl⟩, ?_⟩
  cbv
end Go.Proofs.Ytabmdohibkkflaa.AM

namespace Go.Proofs.Ytabmdohibkkflaa.AM
open Go
set_option maxRecDepth 100000
/-- which places a journal takes -/
def jplace (n base size tx : Int) : Prop := (2 ≤ size ∧ size ≤ 999) ∧ (0 ≤ base ∧ base ≤ n - size) ∧ 1 ≤ tx ∧ tx ≤ 4294967295
theorem jnew {base size tx L : Int} {D : DK} (hD : D.ok L) (h : jplace D.n base size tx) :
    TriS Try.prog 14 [.pt 0 0, .i .i64 base, .i .i64 size, .i .i64 tx] (D.S 0 1 2) (fun r σ => r = .tu [.pt 100 0, .i .i64 0] ∧ σ = jouS 100 0 1 2 base size tx D) := by
  refine tri_of TT_ok mixed (OR := OR0) (fn := Try.f14) (c := body Try.f14) (by kernel_rfl) (by kernel_rfl) (by kernel_rfl) (by kernel_rfl) (by simp [Try.f14]) fun H Tri hH hTri => ?_
  have hsz := size_tri D.n D.m D.k D.r D.w D.f (-1) D.pg D.wn D.ws
  obtain ⟨⟨h1, h2⟩, ⟨h3, h4⟩, h5, h6⟩ := h
  have hn := hD.1.1
  obtain ⟨n0, m0, k0, r0, w0, f0, pg0, wn0, ws0⟩ := D
  simp only at h4 hn hsz
  have e1 : IntKind.i64.wrap (n0 - size) = n0 - size := IntWalk.i64_in _ (by omega)
  cbv
  split
  case h_1 => rename_i h; exact absurd h (by rw [hH]; simp; omega)
  cbv
  split
  case h_1 => rename_i h; exact absurd h (by rw [hH]; simp; omega)
  cbv
  split
  case h_1 => rename_i h; exact absurd h (by rw [hH]; simp; omega)
  cbv
  refine ⟨[0, 1, 2], ⟨⟨rfl, rfl⟩, rfl⟩, _, _, ?_, ?_, _, hTri _ _ _ _ hsz, ?_⟩
  · cbv
  · cbv
  rintro x σ ⟨rfl, rfl⟩
  obtain ⟨q, hq⟩ : ∃ q, q = n0 - size := ⟨_, rfl⟩
  cbv
  rw [e1, ← hq]
  split
  case h_1 => rename_i h; exact absurd h (by rw [hH, hH]; simp; omega)
  cbv
  split
  case h_1 => rename_i h; exact absurd h (by rw [hH]; simp; omega)
  cbv
  split
  case h_1 => rename_i h; exact absurd h (by rw [hH]; simp; omega)
  cbv
  refine ⟨_, _, ⟨rfl, rfl⟩, ?_⟩
  cbv
theorem jnew_bad {base size tx L : Int} {D : DK} (hD : D.ok L) (h : ¬ jplace D.n base size tx) :
    TriS Try.prog 14 [.pt 0 0, .i .i64 base, .i .i64 size, .i .i64 tx] (D.S 0 1 2) (fun r σ => r = .tu [nilp, .i .i64 1] ∧ σ = D.S 0 1 2) := by
  refine tri_of TT_ok mixed (OR := OR0) (fn := Try.f14) (c := body Try.f14) (by kernel_rfl) (by kernel_rfl) (by kernel_rfl) (by kernel_rfl) (by simp [Try.f14]) fun H Tri hH hTri => ?_
  have hsz := size_tri D.n D.m D.k D.r D.w D.f (-1) D.pg D.wn D.ws
  have hn := hD.1.1
  obtain ⟨n0, m0, k0, r0, w0, f0, pg0, wn0, ws0⟩ := D
  simp only [jplace] at h hn hsz
  cbv
  split
  · cbv
    exact ⟨_, _, ⟨rfl, rfl⟩, by cbv⟩
  rename_i h1
  have h1 : ¬ size < 2 := by rw [hH] at h1; simpa using h1
  cbv
  split
  · cbv
    exact ⟨_, _, ⟨rfl, rfl⟩, by cbv⟩
  rename_i h2
  have h2 : ¬ 999 < size := by rw [hH] at h2; simpa using h2
  cbv
  split
  · cbv
    exact ⟨_, _, ⟨rfl, rfl⟩, by cbv⟩
  rename_i h3
  have h3 : ¬ base < 0 := by rw [hH] at h3; simpa using h3
  have e1 : IntKind.i64.wrap (n0 - size) = n0 - size := IntWalk.i64_in _ (by omega)
  cbv
  refine ⟨[0, 1, 2], ⟨⟨rfl, rfl⟩, rfl⟩, _, _, ?_, ?_, _, hTri _ _ _ _ hsz, ?_⟩
  · cbv
  · cbv
  rintro x σ ⟨rfl, rfl⟩
  obtain ⟨q, hq⟩ : ∃ q, q = n0 - size := ⟨_, rfl⟩
  cbv
  rw [e1, ← hq]
  split
  · cbv
    exact ⟨_, _, ⟨rfl, rfl⟩, by cbv⟩
  rename_i h4
  have h4 : ¬ q < base := by rw [hH, hH] at h4; simpa using h4
  cbv
  split
  · cbv
    exact ⟨_, _, ⟨rfl, rfl⟩, by cbv⟩
  rename_i h5
  have h5 : ¬ tx < 1 := by rw [hH] at h5; simpa using h5
  cbv
  split
  · cbv
    exact ⟨_, _, ⟨rfl, rfl⟩, by cbv⟩
  rename_i h6
  have h6 : ¬ 4294967295 < tx := by rw [hH] at h6; simpa using h6
  exact absurd ⟨⟨by omega, by omega⟩, ⟨by omega, by omega⟩, by omega, by omega⟩ h
end Go.Proofs.Ytabmdohibkkflaa.AM

namespace Go.Proofs.Ytabmdohibkkflaa.AM
open Go
set_option maxRecDepth 100000
theorem TriS.mono {P : Program} {f : FuncId} {xs : List V} {σ : Sto} {R R' : V → Sto → Prop} (h : TriS P f xs σ R) (hR : ∀ r σ', R r σ' → R' r σ') : TriS P f xs σ R' :=
  ⟨h.1, fun X g w vs hX hob hvs => (h.2 X g w vs hX hob hvs).mono (by
    rintro e w' ⟨r, σ', g', v, h1, rest⟩
    exact ⟨r, σ', g', v, hR r σ' h1, rest⟩)⟩
theorem badlen (s : Str) : TriS Try.prog 64 [.s s] [] (fun r σ => ∃ v : Bool, (v = true ↔ s.length ≠ 256) ∧ r = .b v ∧ σ = []) := by
  refine tri_of TT_ok mixed (OR := OR0) (fn := Try.f64) (c := body Try.f64) (by kernel_rfl) (by kernel_rfl) (by kernel_rfl) (by kernel_rfl) (by simp [Try.f64]) fun H Tri hH hTri => ?_
  obtain ⟨L, hL⟩ : ∃ L : Int, L = NatCast.natCast s.length := ⟨_, rfl⟩
  cbv
  rw [← hL, hH, hH]
  have h := castN hL
  refine fin_b ⟨decide ¬ L = 256, ?_, rfl, rfl⟩
  rw [decide_eq_true_iff]
  omega
theorem sindex (m : Int) (c : Ix → Str) (full : Bool) (hm : 0 ≤ m ∧ m ≤ 1000000000) : TriS Try.prog 79 [.l m [.s c] full, .fn (.func 64) []] []
    (fun r σ => ∃ v : Int, ((0 ≤ v ∧ v < m ∧ (c [v]).length ≠ 256) ∨ (v = -1 ∧ ∀ j : Int, 0 ≤ j → j < m → (c [j]).length = 256)) ∧ r = .i .i64 v ∧ σ = []) := by
  refine tri_of TT_ok mixed (OR := OR0) (fn := Try.f79) (c := body Try.f79) (by kernel_rfl) (by kernel_rfl) (by kernel_rfl) (by kernel_rfl) (by simp [Try.f79]) fun H Tri hH hTri => ?_
  cbv
  obtain ⟨Q, hQ⟩ : ∃ Q : Str → Prop, Q = fun s => s.length = 256 := ⟨_, rfl⟩
  have hst : ∀ s, Tri 64 [.s s] [] (fun r σ => ∃ v : Bool, (v = true ↔ ¬ Q s) ∧ r = .b v ∧ σ = []) := fun s => by rw [hQ]; exact hTri _ _ _ _ (badlen s)
  rw [show (fun (r : V) (σ : Sto) => ∃ v : Int, ((0 ≤ v ∧ v < m ∧ (c [v]).length ≠ 256) ∨ (v = -1 ∧ ∀ j : Int, 0 ≤ j → j < m → (c [j]).length = 256)) ∧ r = .i .i64 v ∧ σ = []) = (fun (r : V) (σ : Sto) => ∃ v : Int, ((0 ≤ v ∧ v < m ∧ ¬ Q (c [v])) ∨ (v = -1 ∧ ∀ j : Int, 0 ≤ j → j < m → Q (c [j]))) ∧ r = .i .i64 v ∧ σ = []) by rw [hQ]]
  clear hQ
  refine ⟨0, Int, fun a => ⟨[(0, .l m [.s c] full), (1, .fn (.func 64) []), (7, .i .i64 m), (8, .i .i64 a)], [], 200⟩, fun a => 0 ≤ a ∧ a ≤ m ∧ ∀ j : Int, 0 ≤ j → j < a → Q (c [j]), fun a => (m - a).toNat, ⟨0, ⟨by omega, by omega, fun j h0 h1 => by omega⟩, ?_⟩, ?_⟩
  · cbv
    cases full <;> simp
  · rintro i ⟨h0, h1, hv⟩
    cbv
    split
    · rename_i h
      simp only [hH, decide_eq_true_eq] at h
      cbv
      simp only [hH, decide_eq_true h]
      refine ⟨by simp; omega, [], ⟨⟨rfl, rfl⟩, rfl⟩, _, _, ?_, ?_, _, hst (c [i]), ?_⟩
      · cbv
      · cbv
      rintro x σ ⟨v, hv2, rfl, rfl⟩
      cases v with
      | true =>
        cbv
        exact fin_i ⟨i, .inl ⟨h0, h, hv2.1 rfl⟩, rfl, rfl⟩
      | false =>
        cbv
        have e1 : IntKind.i64.wrap (i + 1) = i + 1 := IntWalk.i64_in _ (by omega)
        obtain ⟨i2, hi2⟩ : ∃ i2, i2 = i + 1 := ⟨_, rfl⟩
        rw [e1, ← hi2]
        refine ⟨i2, ⟨by omega, by omega, fun j j0 j1 => ?_⟩, by omega, ?_⟩
        · by_cases e : j = i
          · subst e; exact Classical.byContradiction fun hn => by have := hv2.2 hn; cases this
          · exact hv j j0 (by omega)
        · cbv
          rw [hH]
          cases full <;> simp
    · rename_i h
      simp only [hH, decide_eq_false_iff_not] at h
      cbv
      exact fin_i ⟨-1, .inr ⟨rfl, fun j j0 j1 => hv j j0 (by omega)⟩, rfl, rfl⟩
theorem scontains (m : Int) (c : Ix → Str) (full : Bool) (hm : 0 ≤ m ∧ m ≤ 1000000000) : TriS Try.prog 63 [.l m [.s c] full, .fn (.func 64) []] []
    (fun r σ => ∃ v : Bool, (v = false ↔ ∀ j : Int, 0 ≤ j → j < m → (c [j]).length = 256) ∧ r = .b v ∧ σ = []) := by
  refine tri_of TT_ok mixed (OR := OR0) (fn := Try.f63) (c := body Try.f63) (by kernel_rfl) (by kernel_rfl) (by kernel_rfl) (by kernel_rfl) (by simp [Try.f63]) fun H Tri hH hTri => ?_
  have hc := sindex m c full hm
  obtain ⟨Q, hQ⟩ : ∃ Q : Int → Prop, Q = fun v => ((0 ≤ v ∧ v < m ∧ (c [v]).length ≠ 256) ∨ (v = -1 ∧ ∀ j : Int, 0 ≤ j → j < m → (c [j]).length = 256)) := ⟨_, rfl⟩
  have hc : Tri 79 [.l m [.s c] full, .fn (.func 64) []] [] (fun r σ => ∃ v : Int, Q v ∧ r = .i .i64 v ∧ σ = []) := by rw [hQ]; exact hTri _ _ _ _ hc
  obtain ⟨W, hW⟩ : ∃ W : Prop, W = ∀ j : Int, 0 ≤ j → j < m → (c [j]).length = 256 := ⟨_, rfl⟩
  have hQW : ∀ v, Q v → (¬ 0 ≤ v ↔ W) := fun v hv => by
    rw [hW]; rw [hQ] at hv
    rcases hv with ⟨h0, h1, h2⟩ | ⟨rfl, h⟩
    · exact ⟨fun h => absurd h0 h, fun h => absurd (h v h0 h1) h2⟩
    · exact ⟨fun _ => h, fun _ => by omega⟩
  rw [← hW]
  clear hQ hW
  cbv
  refine ⟨[], ⟨⟨rfl, rfl⟩, rfl⟩, _, _, ?_, ?_, _, hc, ?_⟩
  · cbv
  · cbv
  rintro x σ ⟨v, hv, rfl, rfl⟩
  cbv
  rw [hH]
  refine fin_b ⟨decide (0 ≤ v), ?_, rfl, rfl⟩
  rw [decide_eq_false_iff_not]
  exact hQW v hv
theorem sclone (m : Int) (c : Ix → Str) (hm : 1 ≤ m ∧ m ≤ 1000000000) : TriS Try.prog 58 [.l m [.s c] false] []
    (fun r σ => r = .sl 100 0 m 1 false ∧ σ = [(100, .ar m [.s c] 9)]) := by
  refine tri_of TT_ok mixed (OR := OR0) (fn := Try.f58) (c := body Try.f58) (by kernel_rfl) (by kernel_rfl) (by kernel_rfl) (by kernel_rfl) (by simp [Try.f58]) fun H Tri hH hTri => ?_
  cbv
  intro b hb
  obtain rfl : b = false := by cases b with | true => have := hb rfl; omega | false => rfl
  cbv
  refine ⟨by rw [hH]; simp, by rw [hH]; exact decide_eq_true (by show (0 + m) * 16 ≤ 140737488355328; omega), ?_⟩
  rw [Int.zero_add, hH]
  refine ⟨_, _, ⟨rfl, rfl⟩, ?_⟩
  cbv
/-- a disk as it is new -/
def DK.new (n : Int) (c : Ix → Str) : DK := ⟨n, 0, 0, 0, 0, 0, c, fun _ => 0, fun _ => []⟩
theorem DK.new_ok {n : Int} {c : Ix → Str} (h : 1 ≤ n ∧ n ≤ 1000) : (DK.new n c).ok 0 := by
  refine ⟨⟨⟨?_, ?_⟩, ?_⟩, ⟨?_, ?_, ?_⟩, fun j h0 h1 => ?_⟩ <;> simp only [DK.new] at * <;> omega
theorem DK.new_at {n : Int} {c : Ix → Str} (q : Int) : (DK.new n c).at q = c [q] := rfl
theorem disk_of (n : Int) (c : Ix → Str) (hn : 1 ≤ n ∧ n ≤ 1000) (hc : ∀ j : Int, 0 ≤ j → j < n → (c [j]).length = 256) : TriS Try.prog 42 [.l n [.s c] false] []
    (fun r σ => r = .tu [.pt 100 0, .i .i64 0] ∧ σ = (DK.new n c).S 100 101 102) := by
  refine tri_of TT_ok mixed (OR := OR0) (fn := Try.f42) (c := body Try.f42) (by kernel_rfl) (by kernel_rfl) (by kernel_rfl) (by kernel_rfl) (by simp [Try.f42]) fun H Tri hH hTri => ?_
  have hcl := sclone n c (by omega)
  have hct : Tri 63 [.l n [.s c] false, .fn (.func 64) []] [] (fun r σ => r = .b false ∧ σ = []) := by
    have h := scontains n c false (by omega)
    refine hTri _ _ _ _ ⟨h.1, fun X g w vs hX hob hvs => (h.2 X g w vs hX hob hvs).mono ?_⟩
    rintro e w' ⟨r, σ', g', v, ⟨v0, hv0, rfl, rfl⟩, rest⟩
    exact ⟨_, _, g', v, ⟨by rw [hv0.2 hc], rfl⟩, rest⟩
  cbv
  split
  case h_1 => rename_i hh; exact absurd hh (by rw [hH]; simp; try omega)
  cbv
  split
  case h_1 => rename_i hh; exact absurd hh (by rw [hH]; simp; try omega)
  cbv
  refine ⟨[], ⟨⟨rfl, rfl⟩, rfl⟩, _, _, ?_, ?_, _, hct, ?_⟩
  · cbv
  · cbv
  rintro x σ ⟨rfl, rfl⟩
  cbv
  refine ⟨[], ⟨⟨rfl, rfl⟩, rfl⟩, _, _, ?_, ?_, _, hTri _ _ _ _ hcl, ?_⟩
  · cbv
  · cbv
  rintro x σ ⟨rfl, rfl⟩
  cbv
  refine ⟨_, _, ⟨rfl, rfl⟩, ?_⟩
  cbv
theorem disk_of_bad (n : Int) (c : Ix → Str) (hn : 0 ≤ n ∧ n ≤ 1000000000) (hc : ¬ (1 ≤ n ∧ n ≤ 1000 ∧ ∀ j : Int, 0 ≤ j → j < n → (c [j]).length = 256)) : TriS Try.prog 42 [.l n [.s c] false] []
    (fun r σ => r = .tu [nilp, .i .i64 1] ∧ σ = []) := by
  refine tri_of TT_ok mixed (OR := OR0) (fn := Try.f42) (c := body Try.f42) (by kernel_rfl) (by kernel_rfl) (by kernel_rfl) (by kernel_rfl) (by simp [Try.f42]) fun H Tri hH hTri => ?_
  have hct : 1 ≤ n → n ≤ 1000 → Tri 63 [.l n [.s c] false, .fn (.func 64) []] [] (fun r σ => r = .b true ∧ σ = []) := fun a1 a2 => by
    have h := scontains n c false (by omega)
    refine hTri _ _ _ _ ⟨h.1, fun X g w vs hX hob hvs => (h.2 X g w vs hX hob hvs).mono ?_⟩
    rintro e w' ⟨r, σ', g', v, ⟨v0, hv0, rfl, rfl⟩, rest⟩
    refine ⟨_, _, g', v, ⟨?_, rfl⟩, rest⟩
    cases v0 with
    | true => rfl
    | false => exact absurd ⟨a1, a2, hv0.1 rfl⟩ hc
  clear hc
  cbv
  split
  · cbv
    exact ⟨_, _, ⟨rfl, rfl⟩, by cbv⟩
  rename_i h1
  have h1 : ¬ n < 1 := by rw [hH] at h1; simpa using h1
  cbv
  split
  · cbv
    exact ⟨_, _, ⟨rfl, rfl⟩, by cbv⟩
  rename_i h2
  have h2 : ¬ 1000 < n := by rw [hH] at h2; simpa using h2
  have hct := hct (by omega) (by omega)
  cbv
  refine ⟨[], ⟨⟨rfl, rfl⟩, rfl⟩, _, _, ?_, ?_, _, hct, ?_⟩
  · cbv
  · cbv
  rintro x σ ⟨rfl, rfl⟩
  cbv
  exact ⟨_, _, ⟨rfl, rfl⟩, by cbv⟩
def blankC : Ix → Str := fun _ => blankF
theorem blankF_length : blankF.length = 256 := by simp [blankF]
theorem disk_new (n : Int) (hn : 1 ≤ n ∧ n ≤ 1000) : TriS Try.prog 13 [.i .i64 n] []
    (fun r σ => ∃ c : Ix → Str, (∀ j : Int, 0 ≤ j → j < n → c [j] = blankF) ∧ r = .tu [.pt 100 0, .i .i64 0] ∧ σ = (DK.new n c).S 100 101 102) := by
  refine tri_of TT_ok mixed (OR := OR0) (fn := Try.f13) (c := body Try.f13) (by kernel_rfl) (by kernel_rfl) (by kernel_rfl) (by kernel_rfl) (by simp [Try.f13]) fun H Tri hH hTri => ?_
  obtain ⟨z, hz⟩ : ∃ z, z = blankF := ⟨_, rfl⟩
  have hb := blank_tri
  rw [← hz] at hb ⊢
  have hz2 : z.length = 256 := by rw [hz]; exact blankF_length
  have hrep : ∀ c : Ix → Str, c [0] = z → TriS Try.prog 44 [.l 1 [.s c] true, .i .i64 n] [] (fun r σ => ∃ c' : Ix → Str, (∀ j : Int, 0 ≤ j → j < n → c' [j] = z) ∧ r = .sl 100 0 n 1 false ∧ σ = [(100, .ar n [.s c'] 9)]) := fun c h => by
    have := repeat_list n c true hn
    rwa [h] at this
  have hof : ∀ c : Ix → Str, (∀ j : Int, 0 ≤ j → j < n → c [j] = z) → TriS Try.prog 42 [.l n [.s c] false] [] (fun r σ => ∃ c : Ix → Str, (∀ j : Int, 0 ≤ j → j < n → c [j] = z) ∧ r = .tu [.pt 100 0, .i .i64 0] ∧ σ = (DK.new n c).S 100 101 102) := fun c h => by
    refine (disk_of n c hn (fun j h0 h1 => by rw [h j h0 h1]; exact hz2)).mono ?_
    rintro r σ ⟨rfl, rfl⟩
    exact ⟨c, h, rfl, rfl⟩
  clear hz hz2
  cbv
  split
  case h_1 => rename_i hh; exact absurd hh (by rw [hH]; simp; try omega)
  cbv
  split
  case h_1 => rename_i hh; exact absurd hh (by rw [hH]; simp; try omega)
  cbv
  refine ⟨[], ⟨⟨rfl, rfl⟩, rfl⟩, _, _, ?_, ?_, _, hTri _ _ _ _ hb, ?_⟩
  · cbv
  · cbv
  rintro x σ ⟨z', rfl, rfl, rfl⟩
  cbv
  have hrep := hrep (fun _ => z') rfl
  refine ⟨[], ⟨⟨rfl, rfl⟩, rfl⟩, _, _, ?_, ?_, _, hTri _ _ _ _ hrep, ?_⟩
  · cbv
  · cbv
  rintro x σ ⟨c', hc', rfl, rfl⟩
  cbv
  have hof := hof (fun ix => c' ((hd ix + 0) :: ix.tail)) (fun j h0 h1 => by show c' [j + 0] = z'; rw [Int.add_zero]; exact hc' j h0 h1)
  refine ⟨[], ⟨⟨rfl, rfl⟩, rfl⟩, _, _, ?_, ?_, _, hTri _ _ _ _ hof, ?_⟩
  · cbv
  · cbv
  rintro x σ ⟨c2, hc2, rfl, rfl⟩
  cbv
  refine ⟨_, _, ⟨c2, hc2, rfl, rfl⟩, ?_⟩
  cbv
theorem disk_new_bad (n : Int) (hn : ¬ (1 ≤ n ∧ n ≤ 1000)) : TriS Try.prog 13 [.i .i64 n] []
    (fun r σ => r = .tu [nilp, .i .i64 1] ∧ σ = []) := by
  refine tri_of TT_ok mixed (OR := OR0) (fn := Try.f13) (c := body Try.f13) (by kernel_rfl) (by kernel_rfl) (by kernel_rfl) (by kernel_rfl) (by simp [Try.f13]) fun H Tri hH hTri => ?_
  cbv
  split
  · cbv
    exact ⟨_, _, ⟨rfl, rfl⟩, by cbv⟩
  rename_i h1
  have h1 : ¬ n < 1 := by rw [hH] at h1; simpa using h1
  cbv
  split
  · cbv
    exact ⟨_, _, ⟨rfl, rfl⟩, by cbv⟩
  rename_i h2
  have h2 : ¬ 1000 < n := by rw [hH] at h2; simpa using h2
  omega
end Go.Proofs.Ytabmdohibkkflaa.AM

namespace Go.Proofs.Ytabmdohibkkflaa.AM
open Go
set_option maxRecDepth 100000
theorem DK.rd {D : DK} {L : Int} (h : D.ok L) : ({ D with r := D.r + 1 } : DK).ok (L + 1) ∧ ∀ q, ({ D with r := D.r + 1 } : DK).at q = D.at q := by
  obtain ⟨⟨h1, h2⟩, ⟨h3, h4, h5⟩, h6⟩ := h
  refine ⟨⟨⟨h1, ?_⟩, ⟨?_, ?_, ?_⟩, h6⟩, fun q => rfl⟩
  · show 0 ≤ D.m ∧ D.m ≤ L + 1; omega
  · show 0 ≤ D.r + 1 ∧ D.r + 1 ≤ L + 1; omega
  · show 0 ≤ D.w ∧ D.w ≤ L + 1; omega
  · show 0 ≤ D.f ∧ D.f ≤ L + 1; omega
/-- Scan where the first page is blank -/
theorem scan_blank {D : DK} {L : Int} (hD : D.ok L) (hL : L ≤ 10000000) {base size tx : Int} (hs : 2 ≤ size ∧ size ≤ 999) (hb : 0 ≤ base ∧ base < D.n) (hc : D.at base = blankF) :
    TriS Try.prog 17 [.pt 0 0] (jouS 0 1 2 3 base size tx D) (fun r σ => ∃ D', (D'.ok (L + 1) ∧ D'.n = D.n ∧ ∀ q, D'.at q = D.at q) ∧ r = .tu [.l 0 [] true, .b false] ∧ σ = jouS 0 1 2 3 base size tx D') := by
  have hn := hD.1.1.2
  refine scan_none (E := entV 0 0 0 0 0 [] 0 0) hs ((jget_blank hD (by omega) (i := 0) (by omega) (by omega) (by omega) (by rw [Int.add_zero]; exact hc)).mono ?_) ⟨_, _, _, _, _, _, _, _, rfl⟩
  rintro r σ ⟨D', rfl, rfl, rfl⟩
  exact ⟨_, ⟨(DK.rd hD).1, rfl, fun q => rfl⟩, rfl, rfl⟩
/-- Scan where the first page is another transaction's -/
theorem scan_other {D : DK} {L : Int} (hD : D.ok L) (hL : L ≤ 10000000) {base size tx : Int} (hs : 2 ≤ size ∧ size ≤ 999) (hb : 0 ≤ base ∧ base < D.n) {bs : Str} (hbs : 0 < bs.length ∧ bs.length ≤ 244) (hc : D.at base = sealF 5 base bs) {kind tx' k n cnt sum : Int} {b : Str}
    (hdec : TriS Try.prog 74 [.s bs] [] (fun r σ => r = .tu [entV kind tx' 0 k n b cnt sum, .i .i64 0] ∧ σ = [])) (hne : tx' ≠ tx) :
    TriS Try.prog 17 [.pt 0 0] (jouS 0 1 2 3 base size tx D) (fun r σ => ∃ D', (D'.ok (L + 1) ∧ D'.n = D.n ∧ ∀ q, D'.at q = D.at q) ∧ r = .tu [.l 0 [] true, .b false] ∧ σ = jouS 0 1 2 3 base size tx D') := by
  have hn := hD.1.1.2
  refine scan_none (E := entV kind tx' 0 k n b cnt sum) hs ((jget_seal hD (by omega) (i := 0) (by omega) (by omega) (by omega) hbs (by rw [Int.add_zero]; exact hc) hdec).mono ?_) ⟨_, _, _, _, _, _, _, _, rfl⟩
  rintro r σ ⟨D', v, rfl, hv, rfl, rfl⟩
  obtain rfl : v = false := by cases v with | true => exact absurd (hv.1 rfl) hne | false => rfl
  exact ⟨_, ⟨(DK.rd hD).1, rfl, fun q => rfl⟩, rfl, rfl⟩
/-- Scan where the first page is that of an Abort of this transaction -/
theorem scan_aborted {D : DK} {L : Int} (hD : D.ok L) (hL : L ≤ 10000000) {base size tx : Int} (hs : 2 ≤ size ∧ size ≤ 999) (hb : 0 ≤ base ∧ base < D.n) (ht : 1 ≤ tx ∧ tx ≤ 4294967295) (hc : D.at base = sealF 5 base (abortF tx)) :
    TriS Try.prog 17 [.pt 0 0] (jouS 0 1 2 3 base size tx D) (fun r σ => ∃ D', (D'.ok (L + 1) ∧ D'.n = D.n ∧ ∀ q, D'.at q = D.at q) ∧ r = .tu [.l 0 [] true, .b false] ∧ σ = jouS 0 1 2 3 base size tx D') := by
  have hn := hD.1.1.2
  refine scan_abort hs ((jget_seal hD (by omega) (i := 0) (by omega) (by omega) (by omega) (by rw [abortF, bytesOf_length]; decide) (by rw [Int.add_zero]; exact hc) (decode_abort tx ht)).mono ?_)
  rintro r σ ⟨D', v, rfl, hv, rfl, rfl⟩
  obtain rfl : v = true := hv.2 rfl
  exact ⟨_, ⟨(DK.rd hD).1, rfl, fun q => rfl⟩, rfl, rfl⟩
end Go.Proofs.Ytabmdohibkkflaa.AM

namespace Go.Proofs.Ytabmdohibkkflaa.AM
open Go
set_option maxRecDepth 100000
theorem jabort {D : DK} {L : Int} (hD : D.ok L) (hL : L ≤ 10000000) {base size tx : Int} (hb : 0 ≤ base ∧ base < D.n) (ht : 1 ≤ tx ∧ tx ≤ 4294967295) :
    TriS Try.prog 19 [.pt 0 0] (jouS 0 1 2 3 base size tx D) (fun r σ => ∃ D', (D'.ok (L + 2) ∧ D'.n = D.n ∧ ∀ q, D'.at q = if q = base then sealF 5 base (abortF tx) else D.at q) ∧ r = .i .i64 0 ∧ σ = jouS 0 1 2 100 base size tx D') := by
  refine tri_of TT_ok mixed (OR := OR0) (fn := Try.f19) (c := body Try.f19) (by kernel_rfl) (by kernel_rfl) (by kernel_rfl) (by kernel_rfl) (by simp [Try.f19]) fun H Tri hH hTri => ?_
  have hn := hD.1.1.2
  have hp : Tri 49 [.pt 0 0, entV 3 0 0 0 0 [] 0 0] (jouS 0 1 2 3 base size tx D) (fun r σ => ∃ D', (D'.ok (L + 1) ∧ D'.n = D.n ∧ ∀ q, D'.at q = if q = base then sealF 5 base (abortF tx) else D.at q) ∧ r = .tu [] ∧ σ = jouS 0 1 2 100 base size tx D') := by
    refine hTri _ _ _ _ ((jput hD (by omega) (i := 0) (by omega) (by omega) (by omega) (by rw [abortF, bytesOf_length]; decide) (encode_abort tx ht)).mono ?_)
    rintro r σ ⟨D', rfl, rfl, rfl⟩
    refine ⟨_, ⟨DK.wr_ok hD (by omega) _, rfl, fun q => ?_⟩, rfl, rfl⟩
    rw [DK.wr_at _ hD.1.2.1, Int.add_zero]
  obtain ⟨F, hF⟩ : ∃ F : DK → Prop, F = fun D' => D'.ok (L + 1) ∧ D'.n = D.n ∧ ∀ q, D'.at q = if q = base then sealF 5 base (abortF tx) else D.at q := ⟨_, rfl⟩
  obtain ⟨F2, hF2⟩ : ∃ F : DK → Prop, F = fun D' => D'.ok (L + 2) ∧ D'.n = D.n ∧ ∀ q, D'.at q = if q = base then sealF 5 base (abortF tx) else D.at q := ⟨_, rfl⟩
  have hp : Tri 49 [.pt 0 0, entV 3 0 0 0 0 [] 0 0] (jouS 0 1 2 3 base size tx D) (fun r σ => ∃ D', F D' ∧ r = .tu [] ∧ σ = jouS 0 1 2 100 base size tx D') := by rw [hF]; exact hp
  rw [show (fun (r : V) (σ : Sto) => ∃ D' : DK, (D'.ok (L + 2) ∧ D'.n = D.n ∧ ∀ q, D'.at q = if q = base then sealF 5 base (abortF tx) else D.at q) ∧ r = .i .i64 0 ∧ σ = jouS 0 1 2 100 base size tx D') = (fun (r : V) (σ : Sto) => ∃ D' : DK, F2 D' ∧ r = .i .i64 0 ∧ σ = jouS 0 1 2 100 base size tx D') by rw [hF2]]
  have hfl : ∀ D2, F D2 → Tri 25 [.pt 0 0] (D2.S 0 1 2) (fun r σ => ∃ D', F2 D' ∧ r = .i .i64 D2.m ∧ σ = D'.S 0 1 2) := fun D2 h2 => by
    rw [hF] at h2
    obtain ⟨a1, a2, a3⟩ := h2
    refine hTri _ _ _ _ ((jflush a1 (by omega)).mono ?_)
    rintro r σ ⟨D', hf, rfl, rfl⟩
    refine ⟨D', ?_, rfl, rfl⟩
    rw [hF2]
    have := DK.fl_ok a1 hf
    obtain ⟨⟨f1, f2⟩, f3, f4⟩ := hf
    exact ⟨by rw [show L + 2 = L + 1 + 1 by omega]; exact this, f1.trans a2, fun q => (f4 q).trans (a3 q)⟩
  clear hF hF2
  obtain ⟨n0, m0, k0, r0, w0, f0, pg0, wn0, ws0⟩ := D
  cbv
  refine ⟨[0, 1, 2, 3], ⟨⟨rfl, rfl⟩, rfl⟩, _, _, ?_, ?_, _, hp, ?_⟩
  · cbv
  · cbv
  rintro x σ ⟨D2, hD2, rfl, rfl⟩
  have hfl := hfl D2 hD2
  obtain ⟨n1, m1, k1, r1, w1, f1, pg1, wn1, ws1⟩ := D2
  cbv
  refine ⟨[1, 2, 200], ⟨⟨rfl, rfl⟩, rfl⟩, _, _, ?_, ?_, _, hfl, ?_⟩
  · cbv
  · cbv
  rintro x σ ⟨D3, hD3, rfl, rfl⟩
  obtain ⟨n2, m2, k2, r2, w2, f2, pg2, wn2, ws2⟩ := D3
  cbv
  refine ⟨_, _, ⟨⟨n2, m2, k2, r2, w2, f2, pg2, wn2, ws2⟩, hD3, rfl, rfl⟩, ?_⟩
  cbv
end Go.Proofs.Ytabmdohibkkflaa.AM

namespace Go.Proofs.Ytabmdohibkkflaa.AM
open Go
set_option maxRecDepth 100000
/-- a disk of n pages that shows f -/
structure DA (n L : Int) (f : Int → Str) (D : DK) : Prop where
  ok : D.ok L
  sz : D.n = n
  get : ∀ q, 0 ≤ q → q < n → D.at q = f q
theorem DA.of {n L : Int} {f : Int → Str} {D D' : DK} (h : DA n L f D) {L' : Int} (h1 : D'.ok L') (h2 : D'.n = D.n) (h3 : ∀ q, D'.at q = D.at q) : DA n L' f D' :=
  ⟨h1, h2.trans h.sz, fun q a b => (h3 q).trans (h.get q a b)⟩
theorem newA (n : Int) (f : Int → Str) (hn : 1 ≤ n ∧ n ≤ 1000) (hf : ∀ q, 0 ≤ q → q < n → f q = blankF) : TriS Try.prog 13 [.i .i64 n] []
    (fun r σ => ∃ D : DK, DA n 0 f D ∧ r = .tu [.pt 100 0, .i .i64 0] ∧ σ = D.S 100 101 102) := by
  refine (disk_new n hn).mono ?_
  rintro r σ ⟨c, hc, rfl, rfl⟩
  exact ⟨DK.new n c, ⟨DK.new_ok hn, rfl, fun q h0 h1 => by rw [DK.new_at, hf q h0 h1]; exact hc q h0 h1⟩, rfl, rfl⟩
section
variable {n L base size tx : Int} {f : Int → Str} {D : DK}
theorem jnewA (hD : DA n L f D) (h : jplace n base size tx) :
    TriS Try.prog 14 [.pt 0 0, .i .i64 base, .i .i64 size, .i .i64 tx] (D.S 0 1 2) (fun r σ => r = .tu [.pt 100 0, .i .i64 0] ∧ σ = jouS 100 0 1 2 base size tx D) :=
  jnew hD.ok (by rw [hD.sz]; exact h)
theorem jnewA_bad (hD : DA n L f D) (h : ¬ jplace n base size tx) :
    TriS Try.prog 14 [.pt 0 0, .i .i64 base, .i .i64 size, .i .i64 tx] (D.S 0 1 2) (fun r σ => r = .tu [nilp, .i .i64 1] ∧ σ = D.S 0 1 2) :=
  jnew_bad hD.ok (by rw [hD.sz]; exact h)
theorem scanA_blank (hD : DA n L f D) (hj : jplace n base size tx) (hL : L ≤ 10000000) (L' : Int) (hL' : L' = L + 1) (hc : f base = blankF) :
    TriS Try.prog 17 [.pt 0 0] (jouS 0 1 2 3 base size tx D) (fun r σ => ∃ D', DA n L' f D' ∧ r = .tu [.l 0 [] true, .b false] ∧ σ = jouS 0 1 2 3 base size tx D') := by
  obtain ⟨h1, h2, h3, h4⟩ := hj
  have hn := hD.sz
  refine (scan_blank hD.ok hL h1 (by omega) ((hD.get base (by omega) (by omega)).trans hc)).mono ?_
  rintro r σ ⟨D', ⟨a, b, c⟩, rfl, rfl⟩
  exact ⟨D', hD.of (by rw [hL']; exact a) b c, rfl, rfl⟩
theorem scanA_other (hD : DA n L f D) (hj : jplace n base size tx) (hL : L ≤ 10000000) (L' : Int) (hL' : L' = L + 1) {bs : Str} (hbs : 0 < bs.length ∧ bs.length ≤ 244) (hc : f base = sealF 5 base bs) {kind tx' k k' cnt sum : Int} {b : Str}
    (hdec : TriS Try.prog 74 [.s bs] [] (fun r σ => r = .tu [entV kind tx' 0 k k' b cnt sum, .i .i64 0] ∧ σ = [])) (hne : tx' ≠ tx) :
    TriS Try.prog 17 [.pt 0 0] (jouS 0 1 2 3 base size tx D) (fun r σ => ∃ D', DA n L' f D' ∧ r = .tu [.l 0 [] true, .b false] ∧ σ = jouS 0 1 2 3 base size tx D') := by
  obtain ⟨h1, h2, h3, h4⟩ := hj
  have hn := hD.sz
  refine (scan_other hD.ok hL h1 (by omega) hbs ((hD.get base (by omega) (by omega)).trans hc) hdec hne).mono ?_
  rintro r σ ⟨D', ⟨a, b, c⟩, rfl, rfl⟩
  exact ⟨D', hD.of (by rw [hL']; exact a) b c, rfl, rfl⟩
theorem scanA_aborted (hD : DA n L f D) (hj : jplace n base size tx) (hL : L ≤ 10000000) (L' : Int) (hL' : L' = L + 1) (hc : f base = sealF 5 base (abortF tx)) :
    TriS Try.prog 17 [.pt 0 0] (jouS 0 1 2 3 base size tx D) (fun r σ => ∃ D', DA n L' f D' ∧ r = .tu [.l 0 [] true, .b false] ∧ σ = jouS 0 1 2 3 base size tx D') := by
  obtain ⟨h1, h2, h3, h4⟩ := hj
  have hn := hD.sz
  refine (scan_aborted hD.ok hL h1 (by omega) (by omega) ((hD.get base (by omega) (by omega)).trans hc)).mono ?_
  rintro r σ ⟨D', ⟨a, b, c⟩, rfl, rfl⟩
  exact ⟨D', hD.of (by rw [hL']; exact a) b c, rfl, rfl⟩
/-- what is to be seen behind a commit -/
def comA (f : Int → Str) (base tx m : Int) (pk pn : Ix → Int) (pb : Ix → Str) : Prop :=
  (∀ i : Int, 0 ≤ i → i < m → f (base + i) = sealF 5 (base + i) (stageF tx i (pk [i]) (pn [i]) (pb [i]))) ∧ f (base + m) = sealF 5 (base + m) (commitF tx m (esumF pk pn pb m.toNat))
theorem comA_comF {f : Int → Str} {base tx m : Int} {pk pn : Ix → Int} {pb : Ix → Str} (hm : 0 ≤ m) : comA (comF base tx m pk pn pb f) base tx m pk pn pb := by
  refine ⟨fun i h0 h1 => ?_, ?_⟩
  · rw [comF, if_pos (by omega), show base + i - base = i by omega]
  · rw [comF, if_neg (by omega), if_pos rfl]
theorem comA_first {f : Int → Str} {base tx m : Int} {pk pn : Ix → Int} {pb : Ix → Str} (h : comA f base tx m pk pn pb) (hm : 0 < m) : f base = sealF 5 base (stageF tx 0 (pk [0]) (pn [0]) (pb [0])) := by
  have := h.1 0 (by omega) hm
  rwa [Int.add_zero] at this
theorem comF_congr {f : Int → Str} {base tx m : Int} {pk pn pk' pn' : Ix → Int} {pb pb' : Ix → Str} (hm : 0 ≤ m) (h : ∀ j : Int, 0 ≤ j → j < m → pk [j] = pk' [j] ∧ pn [j] = pn' [j] ∧ pb [j] = pb' [j]) : comF base tx m pk pn pb f = comF base tx m pk' pn' pb' f := by
  funext q
  rw [comF, comF, esumF_congr (fun j h0 h1 => h j h0 (by omega))]
  split
  · rename_i hq
    obtain ⟨a, b, c⟩ := h (q - base) (by omega) (by omega)
    rw [a, b, c]
  · rfl
theorem commitA {m : Int} (pk pn : Ix → Int) (pb : Ix → Str) (full : Bool) (hD : DA n L f D) (hj : jplace n base size tx) (hL : L ≤ 10000000) (L' : Int) (hL' : L' = L + 2000) (hm : 0 < m ∧ m ≤ size - 1) (hp : ∀ j : Int, 0 ≤ j → j < m → okP (pk [j]) (pn [j]) (pb [j])) (f' : Int → Str) (hf' : f' = comF base tx m pk pn pb f) :
    TriS Try.prog 15 [.pt 0 0, .l m [.i .i64 pk, .i .i64 pn, .s pb] full] (jouS 0 1 2 3 base size tx D) (fun r σ => ∃ D', DA n L' f' D' ∧ r = .i .i64 0 ∧ σ = jouS 0 1 2 100 base size tx D') := by
  obtain ⟨h1, h2, h3, h4⟩ := hj
  have hn := hD.sz
  refine (commit_ok m pk pn pb full hD.ok hL h1 (by omega) (by omega) hm hp).mono ?_
  rintro r σ ⟨D', ⟨a, b, c⟩, rfl, rfl⟩
  refine ⟨D', ⟨by rw [hL']; exact a, b.trans hn, fun q q0 q1 => ?_⟩, rfl, rfl⟩
  rw [c, hf', comF, comF]
  split
  · rfl
  · split
    · rfl
    · exact hD.get q q0 q1
theorem scanA_some {m : Int} {pk pn : Ix → Int} {pb : Ix → Str} (hD : DA n L f D) (hj : jplace n base size tx) (hL : L ≤ 10000000) (L' : Int) (hL' : L' = L + 2000) (hm : 0 < m ∧ m ≤ size - 1) (hp : ∀ j : Int, 0 ≤ j → j < m → okP (pk [j]) (pn [j]) (pb [j])) (hc : comA f base tx m pk pn pb) :
    TriS Try.prog 17 [.pt 0 0] (jouS 0 1 2 3 base size tx D) (fun r σ => ∃ D' pk' pn' pb', DA n L' f D' ∧ (∀ j : Int, 0 ≤ j → j < m → pk' [j] = pk [j] ∧ pn' [j] = pn [j] ∧ pb' [j] = pb [j]) ∧ r = .tu [.sl 101 0 m 3 false, .b true] ∧ σ = jouS 0 1 2 3 base size tx D' ++ [(101, .ar m [.i .i64 pk', .i .i64 pn', .s pb'] 75)]) := by
  obtain ⟨h1, h2, h3, h4⟩ := hj
  have hn := hD.sz
  refine (scan_some hD.ok hL h1 (by omega) (by omega) hm hp (pk := pk) (pn := pn) (pb := pb) ⟨fun i h0 h1 => ?_, ?_⟩).mono ?_
  · exact (hD.get _ (by omega) (by omega)).trans (hc.1 i h0 h1)
  · exact (hD.get _ (by omega) (by omega)).trans hc.2
  rintro r σ ⟨D', pk', pn', pb', ⟨a, b, c⟩, h5, rfl, rfl⟩
  exact ⟨D', pk', pn', pb', hD.of (by rw [hL']; exact a) b c, h5, rfl, rfl⟩
theorem abortA (hD : DA n L f D) (hj : jplace n base size tx) (hL : L ≤ 10000000) (L' : Int) (hL' : L' = L + 2) (f' : Int → Str) (hf' : f' = fun q => if q = base then sealF 5 base (abortF tx) else f q) :
    TriS Try.prog 19 [.pt 0 0] (jouS 0 1 2 3 base size tx D) (fun r σ => ∃ D', DA n L' f' D' ∧ r = .i .i64 0 ∧ σ = jouS 0 1 2 100 base size tx D') := by
  obtain ⟨h1, h2, h3, h4⟩ := hj
  have hn := hD.sz
  refine (jabort hD.ok hL (by omega) (by omega)).mono ?_
  rintro r σ ⟨D', ⟨a, b, c⟩, rfl, rfl⟩
  refine ⟨D', ⟨by rw [hL']; exact a, b.trans hn, fun q q0 q1 => ?_⟩, rfl, rfl⟩
  rw [c, hf']
  show _ = if q = base then sealF 5 base (abortF tx) else f q
  split
  · rfl
  · exact hD.get q q0 q1
theorem commit_nil (D : DK) : TriS Try.prog 15 [.pt 0 0, .l 0 [] true] (jouS 0 1 2 3 base size tx D) (fun r σ => r = .i .i64 1 ∧ σ = jouS 0 1 2 3 base size tx D) := by
  refine tri_of TT_ok mixed (OR := OR0) (fn := Try.f15) (c := body Try.f15) (by kernel_rfl) (by kernel_rfl) (by kernel_rfl) (by kernel_rfl) (by simp [Try.f15]) fun H Tri hH hTri => ?_
  obtain ⟨n0, m0, k0, r0, w0, f0, pg0, wn0, ws0⟩ := D
  cbv
  split
  case h_2 => rename_i hh; exact absurd hh (by rw [hH]; simp; try omega)
  cbv
  exact ⟨_, _, ⟨rfl, rfl⟩, by cbv⟩
end
end Go.Proofs.Ytabmdohibkkflaa.AM

namespace Go.Proofs.Ytabmdohibkkflaa.AM
open Go
set_option maxRecDepth 100000
def OR12 : Nat → List (Nat × List Nat)
  | 10 => [(0, []), (1, []), (2, []), (3, []), (4, []), (5, []), (6, []), (7, []), (8, []), (9, []), (10, []), (11, []), (12, []), (13, [0]), (14, []), (15, [])]
  | _ => []
def liveK : Ix → Int := fun ix => if hd ix = 0 then 2 else 3
def liveN : Ix → Int := fun ix => if hd ix = 0 then 1 else 2
def liveB : Ix → Str := fun ix => if hd ix = 0 then [97] else [98]
abbrev two {α : Type} (x y z : α) : Ix → α := fun ix => bif decide (hd ix = ((1 : Nat) : Int)) then y else bif decide (hd ix = ((0 : Nat) : Int)) then x else z
theorem two_at {α : Type} (x y z : α) {j : Int} (h : 0 ≤ j ∧ j < 2) : (j = 0 ∧ two x y z [j] = x) ∨ (j = 1 ∧ two x y z [j] = y) := by
  rcases (show j = 0 ∨ j = 1 by omega) with rfl | rfl
  · exact .inl ⟨rfl, rfl⟩
  · exact .inr ⟨rfl, rfl⟩
abbrev four {α : Type} (x z : α) : Ix → α := fun ix => bif decide (hd ix = ((3 : Nat) : Int)) then x else bif decide (hd ix = ((2 : Nat) : Int)) then x else bif decide (hd ix = ((1 : Nat) : Int)) then x else bif decide (hd ix = ((0 : Nat) : Int)) then x else z
theorem live07 : TriS Try.prog 12 [] [] (fun r σ => r = .b true ∧ σ = []) := by
  refine tri_of TT_ok mixed (OR := OR12) (fn := Try.f12) (c := body Try.f12) (by kernel_rfl) (by kernel_rfl) (by kernel_rfl) (by kernel_rfl) (by simp [Try.f12]) fun H Tri hH hTri => ?_
  obtain ⟨f0, hf0⟩ : ∃ f : Int → Str, f = fun _ => blankF := ⟨_, rfl⟩
  obtain ⟨f1, hf1⟩ : ∃ f : Int → Str, f = comF 4 1 2 liveK liveN liveB f0 := ⟨_, rfl⟩
  have hok : ∀ j : Int, 0 ≤ j → j < 2 → okP (liveK [j]) (liveN [j]) (liveB [j]) := fun j h0 h1 => by
    rcases (show j = 0 ∨ j = 1 by omega) with rfl | rfl
    · exact ⟨by decide, by decide, by decide, by decide⟩
    · exact ⟨by decide, by decide, by decide, by decide⟩
  have hj1 : jplace 10 4 4 1 := ⟨by omega, by omega, by omega⟩
  have hj2 : ¬ jplace 10 7 4 1 := fun h => by have := h.2.1; omega
  have hj3 : jplace 10 4 4 2 := ⟨by omega, by omega, by omega⟩
  have c1 := newA 10 f0 (by omega) (fun q _ _ => by rw [hf0])
  have c2 : ∀ D, DA 10 0 f0 D → Tri 14 [.pt 0 0, .i .i64 4, .i .i64 4, .i .i64 1] (D.S 0 1 2) (fun r σ => r = .tu [.pt 100 0, .i .i64 0] ∧ σ = jouS 100 0 1 2 4 4 1 D) := fun D h => hTri _ _ _ _ (jnewA h hj1)
  have c3 : ∀ D, DA 10 0 f0 D → Tri 14 [.pt 0 0, .i .i64 7, .i .i64 4, .i .i64 1] (D.S 0 1 2) (fun r σ => r = .tu [nilp, .i .i64 1] ∧ σ = D.S 0 1 2) := fun D h => hTri _ _ _ _ (jnewA_bad h hj2)
  have c4 : ∀ D, DA 10 0 f0 D → Tri 17 [.pt 0 0] (jouS 0 1 2 3 4 4 1 D) (fun r σ => ∃ D', DA 10 1 f0 D' ∧ r = .tu [.l 0 [] true, .b false] ∧ σ = jouS 0 1 2 3 4 4 1 D') := fun D h => hTri _ _ _ _ (scanA_blank h hj1 (by omega) 1 rfl (by rw [hf0]))
  have c5 : ∀ D a b c, DA 10 1 f0 D → (∀ j : Int, 0 ≤ j → j < 2 → a [j] = liveK [j] ∧ b [j] = liveN [j] ∧ c [j] = liveB [j]) → Tri 15 [.pt 0 0, .l 2 [.i .i64 a, .i .i64 b, .s c] true] (jouS 0 1 2 3 4 4 1 D) (fun r σ => ∃ D', DA 10 2001 f1 D' ∧ r = .i .i64 0 ∧ σ = jouS 0 1 2 100 4 4 1 D') := fun D a b c h ha => hTri _ _ _ _ (commitA a b c true h hj1 (by omega) 2001 rfl (by omega) (fun j h0 h1 => by obtain ⟨e1, e2, e3⟩ := ha j h0 h1; rw [e1, e2, e3]; exact hok j h0 h1) f1 (by rw [hf1, comF_congr (by omega) ha]))
  have c6 : ∀ D, DA 10 2001 f1 D → Tri 17 [.pt 0 0] (jouS 0 1 2 3 4 4 1 D) (fun r σ => ∃ D' pk' pn' pb', DA 10 4001 f1 D' ∧ (∀ j : Int, 0 ≤ j → j < 2 → pk' [j] = liveK [j] ∧ pn' [j] = liveN [j] ∧ pb' [j] = liveB [j]) ∧ r = .tu [.sl 101 0 2 3 false, .b true] ∧ σ = jouS 0 1 2 3 4 4 1 D' ++ [(101, .ar 2 [.i .i64 pk', .i .i64 pn', .s pb'] 75)]) := fun D h => hTri _ _ _ _ (scanA_some h hj1 (by omega) 4001 rfl (by omega) hok (by rw [hf1]; exact comA_comF (by omega)))
  have c7 : ∀ (D : DK) a b c, (∀ j : Int, 0 ≤ j → j < 4 → okP (a [j]) (b [j]) (c [j])) → Tri 15 [.pt 0 0, .l 4 [.i .i64 a, .i .i64 b, .s c] true] (jouS 0 1 2 3 4 4 1 D) (fun r σ => r = .i .i64 3 ∧ σ = jouS 0 1 2 3 4 4 1 D) := fun D a b c ha => hTri _ _ _ _ ((commit_bad 4 a b c true (by omega) D (by omega) (.inr (.inl (by omega)))).mono (by
    rintro r σ ⟨e, ⟨-, -, h3⟩, rfl, rfl⟩
    rw [h3 (by omega) ha]
    exact ⟨rfl, rfl⟩))
  have c8 : ∀ D : DK, Tri 15 [.pt 0 0, .l 0 [] true] (jouS 0 1 2 3 4 4 1 D) (fun r σ => r = .i .i64 1 ∧ σ = jouS 0 1 2 3 4 4 1 D) := fun D => hTri _ _ _ _ (commit_nil D)
  have c9 : ∀ D : DK, Tri 16 [.pt 0 0] (jouS 0 1 2 3 4 4 1 D) (fun r σ => r = .i .i64 0 ∧ σ = jouS 0 1 2 3 4 4 2 D) := fun D => hTri _ _ _ _ ((jnext 4 4 1 D (by omega)).mono (by
    rintro r σ ⟨t, rfl, rfl, rfl⟩
    exact ⟨rfl, rfl⟩))
  have c10 : ∀ D, DA 10 4001 f1 D → Tri 17 [.pt 0 0] (jouS 0 1 2 3 4 4 2 D) (fun r σ => ∃ D', DA 10 4002 f1 D' ∧ r = .tu [.l 0 [] true, .b false] ∧ σ = jouS 0 1 2 3 4 4 2 D') := fun D h => hTri _ _ _ _ (scanA_other h hj3 (by omega) 4002 rfl (by rw [stage_len]; decide) (by rw [hf1]; exact comA_first (comA_comF (by omega)) (by omega)) (decode_stage 1 0 _ _ _ (by omega) (by omega) (hok 0 (by omega) (by omega))) (by omega))
  have c11 : ∀ D : DK, Tri 20 [.pt 0 0] (jouS 0 1 2 3 4 4 2 D) (fun r σ => ∃ v, v = 2 ∧ r = .i .i64 v ∧ σ = jouS 0 1 2 3 4 4 2 D) := fun D => hTri _ _ _ _ (jtx 4 4 2 D)
  have c12 : ∀ D : DK, Tri 21 [.pt 0 0] (jouS 0 1 2 3 4 4 2 D) (fun r σ => r = .i .i64 3 ∧ σ = jouS 0 1 2 3 4 4 2 D) := fun D => hTri _ _ _ _ ((jroom 4 4 2 D (by omega)).mono (by
    rintro r σ ⟨t, rfl, rfl, rfl⟩
    exact ⟨rfl, rfl⟩))
  have c13 : ∀ (a b : Ix → Int) (c : Ix → Str) (a' b' : Ix → Int) (c' : Ix → Str) (f f' : Bool), (∀ j : Int, 0 ≤ j → j < 2 → a [j] = a' [j] ∧ b [j] = b' [j] ∧ c [j] = c' [j]) → Tri 18 [.l 2 [.i .i64 a, .i .i64 b, .s c] f, .l 2 [.i .i64 a', .i .i64 b', .s c'] f'] [] (fun r σ => r = .b true ∧ σ = []) := fun a b c a' b' c' f f' h => hTri _ _ _ _ ((pages_tri 2 2 a b c a' b' c' f f' (by omega) (by omega)).mono (by
    rintro r σ ⟨t, ht, rfl, rfl⟩
    rw [ht.2 ⟨rfl, h⟩]
    exact ⟨rfl, rfl⟩))
  clear hf0 hf1
  have h4 : ∀ j : Int, 0 ≤ j → j < 4 → okP (four 2 0 [j]) (four 1 0 [j]) (four [97] [] [j]) := fun j h0 h1 => by
    have hok0 := hok 0 (by omega) (by omega)
    rcases (show j = 0 ∨ j = 1 ∨ j = 2 ∨ j = 3 by omega) with rfl | rfl | rfl | rfl <;> exact hok0
  have c7 := fun D => c7 D _ _ _ h4
  have hl : ∀ j : Int, 0 ≤ j → j < 2 → two 2 3 0 [j] = liveK [j] ∧ two 1 2 0 [j] = liveN [j] ∧ two [97] [98] [] [j] = liveB [j] := fun j h0 h1 => by
    rcases (show j = 0 ∨ j = 1 by omega) with rfl | rfl
    · exact ⟨rfl, rfl, rfl⟩
    · exact ⟨rfl, rfl, rfl⟩
  have c5 := fun D h => c5 D _ _ _ h hl
  cbv
  refine ⟨[], ⟨⟨rfl, rfl⟩, rfl⟩, _, _, ?_, ?_, _, hTri _ _ _ _ c1, ?_⟩
  · cbv
  · cbv
  rintro x σ ⟨D1, hD1, rfl, rfl⟩
  have c2 := c2 D1 hD1
  have c3 := c3 D1 hD1
  have c4 := c4 D1 hD1
  obtain ⟨n1, m1, k1, r1, w1, g1, pg1, wn1, ws1⟩ := D1
  cbv
  refine ⟨[200, 201, 202], ⟨⟨rfl, rfl⟩, rfl⟩, _, _, ?_, ?_, _, c2, ?_⟩
  · cbv
  · cbv
  rintro x σ ⟨rfl, rfl⟩
  cbv
  refine ⟨[200, 201, 202], ⟨⟨rfl, rfl⟩, rfl⟩, _, _, ?_, ?_, _, c3, ?_⟩
  · cbv
  · cbv
  rintro x σ ⟨rfl, rfl⟩
  cbv
  split
  case h_1 => rename_i hh; exact absurd hh (by rw [hH]; simp; try omega)
  cbv
  split
  case h_1 => rename_i hh; exact absurd hh (by rw [hH]; simp; try omega)
  cbv
  refine ⟨[220, 200, 201, 202], ⟨⟨rfl, rfl⟩, rfl⟩, _, _, ?_, ?_, _, c4, ?_⟩
  · cbv
  · cbv
  rintro x σ ⟨D2, hD2, rfl, rfl⟩
  have c5 := c5 D2 hD2
  obtain ⟨n2, m2, k2, r2, w2, g2, pg2, wn2, ws2⟩ := D2
  cbv
  refine ⟨[220, 200, 201, 202], ⟨⟨rfl, rfl⟩, rfl⟩, _, _, ?_, ?_, _, c5, ?_⟩
  · cbv
  · cbv
  rintro x σ ⟨D3, hD3, rfl, rfl⟩
  have c6 := c6 D3 hD3
  obtain ⟨n3, m3, k3, r3, w3, g3, pg3, wn3, ws3⟩ := D3
  cbv
  refine ⟨[220, 200, 201, 280], ⟨⟨rfl, rfl⟩, rfl⟩, _, _, ?_, ?_, _, c6, ?_⟩
  · cbv
  · cbv
  rintro x σ ⟨D4, pk', pn', pb', hD4, hp', rfl, rfl⟩
  have c7 := c7 D4
  have c8 := c8 D4
  have c9 := c9 D4
  have c10 := c10 D4 hD4
  obtain ⟨n4, m4, k4, r4, w4, g4, pg4, wn4, ws4⟩ := D4
  cbv
  have q0 : H Bool (decide ((0 : Int) ≤ 0 ∧ (0 : Int) < Int.ofNat 2)) = true := by rw [hH]; decide
  refine ⟨q0, q0, q0, q0, ?_⟩
  rw [show (bif decide (hd [0] = ((1 : Nat) : Int)) then (3 : Int) else bif decide (hd [0] = ((0 : Nat) : Int)) then 2 else 0) = 2 from rfl, show (bif decide (hd [0] = ((1 : Nat) : Int)) then (2 : Int) else bif decide (hd [0] = ((0 : Nat) : Int)) then 1 else 0) = 1 from rfl, show (bif decide (hd [0] = ((1 : Nat) : Int)) then ([98] : List UInt8) else bif decide (hd [0] = ((0 : Nat) : Int)) then [97] else []) = [97] from rfl, hH Int 2, hH Int 1, hH (List UInt8) [97]]
  refine ⟨[220, 200, 201, 280], ⟨⟨rfl, rfl⟩, rfl⟩, _, _, ?_, ?_, _, c7, ?_⟩
  · cbv
  · cbv
  rintro x σ ⟨rfl, rfl⟩
  cbv
  refine ⟨[220, 200, 201, 280], ⟨⟨rfl, rfl⟩, rfl⟩, _, _, ?_, ?_, _, c8, ?_⟩
  · cbv
  · cbv
  rintro x σ ⟨rfl, rfl⟩
  cbv
  refine ⟨[220, 200, 201, 280], ⟨⟨rfl, rfl⟩, rfl⟩, _, _, ?_, ?_, _, c9, ?_⟩
  · cbv
  · cbv
  rintro x σ ⟨rfl, rfl⟩
  cbv
  refine ⟨[220, 200, 201, 280], ⟨⟨rfl, rfl⟩, rfl⟩, _, _, ?_, ?_, _, c10, ?_⟩
  · cbv
  · cbv
  rintro x σ ⟨D5, hD5, rfl, rfl⟩
  have c11 := c11 D5
  have c12 := c12 D5
  obtain ⟨n5, m5, k5, r5, w5, g5, pg5, wn5, ws5⟩ := D5
  cbv
  split
  case h_2 => rename_i hh; exact absurd hh (by rw [hH]; simp; try omega)
  cbv
  have c13 := c13 (fun ix => pk' ((hd ix + 0) :: ix.tail)) (fun ix => pn' ((hd ix + 0) :: ix.tail)) (fun ix => pb' ((hd ix + 0) :: ix.tail)) (two 2 3 0) (two 1 2 0) (two [97] [98] []) false true (fun j h0 h1 => by
    obtain ⟨e1, e2, e3⟩ := hp' j h0 h1
    obtain ⟨g1, g2, g3⟩ := hl j h0 h1
    show pk' [j + 0] = _ ∧ pn' [j + 0] = _ ∧ pb' [j + 0] = _
    rw [Int.add_zero, e1, e2, e3]
    exact ⟨g1.symm, g2.symm, g3.symm⟩)
  refine ⟨[], ⟨⟨rfl, rfl⟩, rfl⟩, _, _, ?_, ?_, _, c13, ?_⟩
  · cbv
  · cbv
  rintro x σ ⟨rfl, rfl⟩
  cbv
  split
  case h_2 => rename_i hh; exact absurd hh (by rw [hH]; simp; try omega)
  cbv
  split
  case h_2 => rename_i hh; exact absurd hh (by rw [hH]; simp; try omega)
  cbv
  split
  case h_2 => rename_i hh; exact absurd hh (by rw [hH]; simp; try omega)
  cbv
  refine ⟨[220, 200, 201, 280], ⟨⟨rfl, rfl⟩, rfl⟩, _, _, ?_, ?_, _, c11, ?_⟩
  · cbv
  · cbv
  rintro x σ ⟨v, hv, rfl, rfl⟩
  cbv
  split
  case h_2 => rename_i hh; exact absurd hh (by rw [hH]; simp; try omega)
  cbv
  refine ⟨[220, 200, 201, 280], ⟨⟨rfl, rfl⟩, rfl⟩, _, _, ?_, ?_, _, c12, ?_⟩
  · cbv
  · cbv
  rintro x σ ⟨rfl, rfl⟩
  cbv
  rw [show H Bool (decide ((3 : Int) = 3)) = true from by rw [hH]; rfl]
  exact fin_b ⟨rfl, rfl⟩
end Go.Proofs.Ytabmdohibkkflaa.AM

namespace Go.Proofs.Ytabmdohibkkflaa.AM
open Go
set_option maxRecDepth 100000
theorem few_tri (n : Int) (a b : Ix → Int) (c : Ix → Str) (h0 : 0 ≤ n) :
    TriS Try.prog 11 [.l n [.i .i64 a, .i .i64 b, .s c] false] [] (fun x σ => ∃ t : Bool, x = .b t ∧ (t = true ↔ n ≤ 30 ∧ ∀ j, 0 ≤ j → j < n → (c [j]).length ≤ 300) ∧ σ = []) := by
  refine tri_of TT_ok mixed (OR := OR0) (fn := Try.f11) (c := body Try.f11) (by kernel_rfl) (by kernel_rfl) (by kernel_rfl) (by kernel_rfl) (by simp [Try.f11]) fun H Tri hH hTri => ?_
  cbv
  split
  · rename_i h
    simp only [hH, decide_eq_true_eq] at h
    cbv
    refine ⟨.b false, [], ⟨false, rfl, by simp; omega, rfl⟩, ?_⟩
    cbv
  · rename_i h
    simp only [hH, decide_eq_false_iff_not] at h
    cbv
    refine ⟨0, Int, fun q => ⟨[(0, .l n [.i .i64 a, .i .i64 b, .s c] false), (3, .i .i64 q)], [], 200⟩, fun q => 0 ≤ q ∧ q ≤ n ∧ ∀ j, 0 ≤ j → j < q → (c [j]).length ≤ 300, fun q => (n - q).toNat, ⟨0, ⟨by omega, by omega, fun j _ _ => by omega⟩, ?_⟩, ?_⟩
    · cbv
      simp
    · rintro q ⟨hq0, hq, hj⟩
      cbv
      split
      · rename_i h1
        simp only [hH, decide_eq_true_eq] at h1
        cbv
        refine ⟨by rw [hH]; simp; omega, ?_⟩
        split
        · rename_i h2
          simp only [hH, decide_eq_true_eq] at h2
          cbv
          refine ⟨.b false, [], ⟨false, rfl, ?_, rfl⟩, ?_⟩
          · simp; intro _; exact ⟨q, hq0, h1, (Int.ofNat_lt (n := 300)).1 h2⟩
          · cbv
        · rename_i h2
          simp only [hH, decide_eq_false_iff_not] at h2
          cbv
          have e1 : IntKind.i64.wrap (q + 1) = q + 1 := IntWalk.i64_in _ (by omega)
          refine ⟨q + 1, ⟨by omega, by omega, fun j h3 h4 => ?_⟩, by simp only; omega, ?_⟩
          · by_cases e : j = q
            · subst e; exact Nat.le_of_not_lt fun h9 => h2 (Int.ofNat_lt.2 h9)
            · exact hj j h3 (by omega)
          · rw [e1, hH]
            cbv
            simp
      · rename_i h1
        simp only [hH, decide_eq_false_iff_not] at h1
        cbv
        refine ⟨.b true, [], ⟨true, rfl, ?_, rfl⟩, ?_⟩
        · simp; exact ⟨by omega, fun j h3 h4 => hj j h3 (by omega)⟩
        · cbv
end Go.Proofs.Ytabmdohibkkflaa.AM

namespace Go.Proofs.Ytabmdohibkkflaa.AM
open Go
set_option maxRecDepth 100000
/-- pages that came in -/
theorem pages_arg {x : V} (h : VOk (.list [.int .i64, .int .i64, .str]) x) : ∃ n a b c, x = .l n [.i .i64 a, .i .i64 b, .s c] false ∧ 0 ≤ n := by
  obtain ⟨n, cs, rfl, ⟨h0, -⟩, hc⟩ := h
  obtain ⟨_, _, rfl, ⟨a, rfl, -⟩, hc1⟩ := COks_cons hc
  obtain ⟨_, _, rfl, ⟨b, rfl, -⟩, hc2⟩ := COks_cons hc1
  obtain ⟨_, _, rfl, ⟨c, rfl, -⟩, hc3⟩ := COks_cons hc2
  obtain rfl := COks_nil hc3
  exact ⟨n, a, b, c, rfl, h0⟩
theorem int_arg {x : V} (h : VOk (.int .i64) x) : ∃ n, x = .i .i64 n ∧ (-9223372036854775808 ≤ n ∧ n ≤ 9223372036854775807) := by
  obtain ⟨n, rfl, hw⟩ := h
  have e : IntKind.i64.min = -9223372036854775808 := rfl
  exact ⟨n, rfl, by simpa [Lit.wf, IntKind.bits, IntKind.signed, e] using hw⟩
theorem place_arg {x : V} (h : POk (.agg [.int .i64, .int .i64, .int .i64, .int .i64]) x) : ∃ a b c d : Int, x = .ag [.i .i64 a, .i .i64 b, .i .i64 c, .i .i64 d] ∧ ((-9223372036854775808 ≤ a ∧ a ≤ 9223372036854775807) ∧ (-9223372036854775808 ≤ b ∧ b ≤ 9223372036854775807) ∧ (-9223372036854775808 ≤ c ∧ c ≤ 9223372036854775807) ∧ (-9223372036854775808 ≤ d ∧ d ≤ 9223372036854775807)) := by
  obtain ⟨_, rfl, h⟩ := h
  obtain ⟨_, _, rfl, h1, g1⟩ := VOks_cons h
  obtain ⟨_, _, rfl, h2, g2⟩ := VOks_cons g1
  obtain ⟨_, _, rfl, h3, g3⟩ := VOks_cons g2
  obtain ⟨_, _, rfl, h4, g4⟩ := VOks_cons g3
  obtain rfl := VOks_nil g4
  obtain ⟨a, rfl, ha⟩ := int_arg h1
  obtain ⟨b, rfl, hb⟩ := int_arg h2
  obtain ⟨c, rfl, hc⟩ := int_arg h3
  obtain ⟨d, rfl, hd⟩ := int_arg h4
  exact ⟨a, b, c, d, rfl, ha, hb, hc, hd⟩
theorem nil07 (a b c d n : Int) (pk pn : Ix → Int) (pb : Ix → Str) (h0 : 0 ≤ n) : TriS Try.prog 4 [.ag [.i .i64 a, .i .i64 b, .i .i64 c, .i .i64 d], .l n [.i .i64 pk, .i .i64 pn, .s pb] false] [] (fun r _ => r = .b true) := by
  refine tri_of TT_ok mixed (OR := OR0) (fn := Try.f4) (c := body Try.f4) (by kernel_rfl) (by kernel_rfl) (by kernel_rfl) (by kernel_rfl) (by simp [Try.f4]) fun H Tri hH hTri => ?_
  have hf := few_tri n pk pn pb h0
  have c1 := nil14 b c d
  have c2 := nil17
  have c3 := nil15 n pk pn pb false
  have c4 := nil19
  have c5 := nil16
  have c6 := nil20
  have c7 := nil21
  have hl := live07
  cbv
  refine ⟨[], ⟨⟨rfl, rfl⟩, rfl⟩, _, _, ?_, ?_, _, hTri _ _ _ _ hf, ?_⟩
  · cbv
  · cbv
  rintro x σ ⟨t, rfl, -, rfl⟩
  cases t with
  | false =>
    cbv
    refine ⟨[], ⟨⟨rfl, rfl⟩, rfl⟩, _, _, ?_, ?_, _, hTri _ _ _ _ hl, ?_⟩
    · cbv
    · cbv
    rintro x σ ⟨rfl, rfl⟩
    cbv
    exact fin_b rfl
  | true =>
    cbv
    refine ⟨[], ⟨⟨rfl, rfl⟩, rfl⟩, _, _, ?_, ?_, _, hTri _ _ _ _ c1, ?_⟩
    · cbv
    · cbv
    rintro x σ ⟨rfl, rfl⟩
    cbv
    refine ⟨[], ⟨⟨rfl, rfl⟩, rfl⟩, _, _, ?_, ?_, _, hTri _ _ _ _ c2, ?_⟩
    · cbv
    · cbv
    rintro x σ ⟨rfl, rfl⟩
    cbv
    split
    case h_2 => rename_i hh; exact absurd hh (by rw [hH]; simp; try omega)
    cbv
    refine ⟨[], ⟨⟨rfl, rfl⟩, rfl⟩, _, _, ?_, ?_, _, hTri _ _ _ _ c3, ?_⟩
    · cbv
    · cbv
    rintro x σ ⟨rfl, rfl⟩
    cbv
    split
    case h_2 => rename_i hh; exact absurd hh (by rw [hH]; simp; try omega)
    cbv
    refine ⟨[], ⟨⟨rfl, rfl⟩, rfl⟩, _, _, ?_, ?_, _, hTri _ _ _ _ c4, ?_⟩
    · cbv
    · cbv
    rintro x σ ⟨rfl, rfl⟩
    cbv
    split
    case h_2 => rename_i hh; exact absurd hh (by rw [hH]; simp; try omega)
    cbv
    split
    case h_2 => rename_i hh; exact absurd hh (by rw [hH]; simp; try omega)
    cbv
    refine ⟨[], ⟨⟨rfl, rfl⟩, rfl⟩, _, _, ?_, ?_, _, hTri _ _ _ _ c5, ?_⟩
    · cbv
    · cbv
    rintro x σ ⟨rfl, rfl⟩
    cbv
    split
    case h_2 => rename_i hh; exact absurd hh (by rw [hH]; simp; try omega)
    cbv
    refine ⟨[], ⟨⟨rfl, rfl⟩, rfl⟩, _, _, ?_, ?_, _, hTri _ _ _ _ c6, ?_⟩
    · cbv
    · cbv
    rintro x σ ⟨rfl, rfl⟩
    cbv
    split
    case h_2 => rename_i hh; exact absurd hh (by rw [hH]; simp; try omega)
    cbv
    refine ⟨[], ⟨⟨rfl, rfl⟩, rfl⟩, _, _, ?_, ?_, _, hTri _ _ _ _ c7, ?_⟩
    · cbv
    · cbv
    rintro x σ ⟨rfl, rfl⟩
    cbv
    split
    case h_2 => rename_i hh; exact absurd hh (by rw [hH]; simp; try omega)
    cbv
    refine ⟨[], ⟨⟨rfl, rfl⟩, rfl⟩, _, _, ?_, ?_, _, hTri _ _ _ _ hl, ?_⟩
    · cbv
    · cbv
    rintro x σ ⟨rfl, rfl⟩
    cbv
    exact fin_b rfl
end Go.Proofs.Ytabmdohibkkflaa.AM

