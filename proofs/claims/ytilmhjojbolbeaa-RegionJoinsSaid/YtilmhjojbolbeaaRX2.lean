/-
  What functions of the program compute. No condition beside those that each theorem states.
-/
import Derived.Test.YtilmhjojbolbeaaRX1
set_option linter.all false

namespace Go.Proofs.Ytilmhjojbolbeaa.AM
open Go
set_option maxRecDepth 100000
set_option maxHeartbeats 4000000
theorem hits_grow (sz low high : List Int) (a : Nat) : ∀ b, a ≤ b → (hits sz low high a).length ≤ (hits sz low high b).length := by
  intro b hb
  induction b with
  | zero => obtain rfl : a = 0 := by omega
            exact Nat.le_refl _
  | succ b ih =>
    by_cases e : a = b + 1
    · subst e; exact Nat.le_refl _
    · have := ih (by omega)
      cases h : hitB sz low high b with
      | true => rw [hits_hit h]; simp; omega
      | false => rw [hits_skip (p := b) (q := b + 1) (by omega) (fun r h1 h2 => by obtain rfl : r = b := (by omega); exact h)]; exact this
theorem seenT_hits (sz cs low high : List Int) (a : Nat) : ∀ b, a ≤ b → hits sz low high b = hits sz low high a → seenT sz cs low high b = seenT sz cs low high a := by
  intro b hb
  induction b with
  | zero => intro _; obtain rfl : a = 0 := by omega
            rfl
  | succ b ih =>
    intro he
    by_cases e : a = b + 1
    · subst e; rfl
    · cases h : hitB sz low high b with
      | true =>
        rw [hits_hit h] at he
        have h1 := congrArg List.length he
        have h2 := hits_grow sz low high a b (by omega)
        simp at h1; omega
      | false =>
        rw [hits_skip (p := b) (q := b + 1) (by omega) (fun r h1 h2 => by obtain rfl : r = b := (by omega); exact h)] at he
        rw [seenT_miss h]; exact ih (by omega) he
section
variable {d n q q' : Int} {zs cs lo hi : Ix → Int} {S : List Int}
theorem seen_old (hq : 0 ≤ q ∧ q < n) (hqq : q < q') (hh : hitB (rng d zs) (rng d lo) (rng d hi) q.toNat = true) (h6 : hits (rng d zs) (rng d lo) (rng d hi) q'.toNat = hits (rng d zs) (rng d lo) (rng d hi) q.toNat ++ [q.toNat])
    (hS : S = seenT (rng d zs) (rng n cs) (rng d lo) (rng d hi) q.toNat) (hm : cs [q] ∈ S) : S = seenT (rng d zs) (rng n cs) (rng d lo) (rng d hi) q'.toNat := by
  rw [seenT_hits (a := q.toNat + 1) (b := q'.toNat) _ _ _ _ (by omega) (by rw [h6, hits_hit hh]), seenT_old (by rw [rd_rngI hq.1 hq.2, ← hS]; exact hm), hS]
theorem seen_new (hq : 0 ≤ q ∧ q < n) (hqq : q < q') (hh : hitB (rng d zs) (rng d lo) (rng d hi) q.toNat = true) (h6 : hits (rng d zs) (rng d lo) (rng d hi) q'.toNat = hits (rng d zs) (rng d lo) (rng d hi) q.toNat ++ [q.toNat])
    (hS : S = seenT (rng d zs) (rng n cs) (rng d lo) (rng d hi) q.toNat) (hm : ¬ cs [q] ∈ S) {S' : List Int} (hS' : S' = S ++ [cs [q]]) : S' = seenT (rng d zs) (rng n cs) (rng d lo) (rng d hi) q'.toNat := by
  rw [hS', seenT_hits (a := q.toNat + 1) (b := q'.toNat) _ _ _ _ (by omega) (by rw [h6, hits_hit hh]), seenT_new hh (by rw [rd_rngI hq.1 hq.2, ← hS]; exact hm), hS, rd_rngI hq.1 hq.2]
theorem seen_first {p : Int} (h : hits (rng d zs) (rng d lo) (rng d hi) p.toNat = []) : [] = seenT (rng d zs) (rng n cs) (rng d lo) (rng d hi) p.toNat :=
  (seenT_hits (a := 0) (b := p.toNat) _ _ _ _ (Nat.zero_le _) h).symm
end
/-- what a round of Seen is handed -/
def recN (l : Nat) (rf : LoopState → Option Code → Obj) (vs : List Value) (m : Nat) (S : List Int) (x : V) : Sto :=
  [(m, .rw l rf .ready none [.pt (m + 1) 0, .pt (m + 2) 0, .pt (m + 3) 0] vs), (m + 1, .st [.pt 0 0] 24), (m + 2, .st [.mp (m + 4)] 129), (m + 3, .st [x] 22), (m + 4, .ms S)]
section
variable (d n p : Int) (zs cs lo hi : Ix → Int) (f1 f2 : Bool)
/-- what a round of Seen does -/
abbrev recNR (l : Nat) (rf : LoopState → Option Code → Obj) (vs : List Value) (d n q j : Int) (zs cs c : Ix → Int) (S : List Int) (r : V) (σ : Sto) : Prop :=
  (cs [q] ∈ S ∧ r = .b true ∧ σ = slabS 0 1 2 d n zs cs ++ recN l rf vs 3 S (.sl 8 0 j 1 false) ++ [(8, .ar j [.i .i64 c] 3)]) ∨
  (¬ cs [q] ∈ S ∧ ∃ (S' : List Int) (j' : Int) (c' : Ix → Int), S' = S ++ [cs [q]] ∧ j' = j + 1 ∧ rng j' c' = S' ∧ r = .b true ∧ σ = slabS 0 1 2 d n zs cs ++ recN l rf vs 3 S' (.sl 100 0 j' 1 false) ++ [(100, .ar j' [.i .i64 c'] 3)])
theorem seen_it (hw : Wf (rng d zs) (rng n cs)) (hm : mayB (rng d zs) (rng d lo) (rng d hi) = true) (hp : p = placeV (rng d zs) (rng d lo)) (l : Nat) (rf : LoopState → Option Code → Obj) (vs : List Value) (J : YSp)
    (hJ : ∀ (q j : Int) (S : List Int) (c : Ix → Int), 0 ≤ q → q < n → 0 ≤ j → j ≤ q → rng j c = S → J [.i .i64 q] (slabS 0 1 2 d n zs cs ++ recN l rf vs 3 S (.sl 8 0 j 1 false) ++ [(8, .ar j [.i .i64 c] 3)]) (recNR l rf vs d n q j zs cs c S)) :
    TriIS Try.prog l J 84 [.fn (.yield l) [], .pt 3 0, .pt 4 0, .pt 5 0, .pt 6 0] (slabS 0 1 2 d n zs cs ++ itS 3 d p lo hi f1 f2 ++ recN l rf vs 7 [] (.l 0 [] true))
      (fun r σ => ∃ (S : List Int) (j : Int) (c : Ix → Int), S = seenL (rng d zs) (rng n cs) (rng d lo) (rng d hi) ∧ (0 ≤ j ∧ j ≤ n) ∧ rng j c = S ∧ r = .tu [] ∧ σ = slabS 0 1 2 d n zs cs ++ itS 3 d p lo hi f1 f2 ++ recN l rf vs 7 S (.sl 100 0 j 1 false) ++ [(100, .ar j [.i .i64 c] 3)]) := by
  obtain ⟨hd1, hd2⟩ := wf_d hw
  obtain ⟨hn1, hn2⟩ := wf_n hw
  refine tri_it TT_ok mixed (OR := ORD84) (fn := Try.f84) (c := body Try.f84) (by kernel_rfl) (by kernel_rfl) (by kernel_rfl) (by kernel_rfl) (by simp [Try.f84]) fun H Tri Yl hH hTri hYl => ?_
  cbv
  refine cal [] (t := hTri _ _ _ _ (iclone_tri _ _ _ (by omega))) (k := ?k_1)
  rintro r_2 σ_3 ⟨x_4, ⟨h_5, ⟨rfl, rfl⟩⟩⟩
  cbv
  refine' ⟨0, Int × Int × List Int × (Ix → Int) × (Ix → Int), fun ((q, j, S, cc, c) : Int × Int × List Int × (Ix → Int) × (Ix → Int)) => ⟨[(6, V.sl 200 0 d 1 false), (0, V.fn (Fn.yield l) []), (1, V.pt 3 0), (3, V.pt 5 0), (4, V.pt 6 0), (7, .i .i64 q)], [(200, .ar d [.i .i64 cc] 3), (0, O.st [V.sl 1 0 d 1 false, V.sl 2 0 n 1 false] 81), (1, O.ar d [C.i IntKind.i64 zs] 3), (2, O.ar n [C.i IntKind.i64 cs] 3), (3, O.st [V.l d [C.i IntKind.i64 lo] f1] 22), (4, O.st [V.i IntKind.i64 p] 3), (5, O.st [V.l d [C.i IntKind.i64 hi] f2] 22), (6, O.st [V.pt 0 0] 24), (7, O.rw l rf LoopState.ready none [V.pt 8 0, V.pt 9 0, V.pt 10 0] vs), (8, O.st [V.pt 0 0] 24), (9, O.st [V.mp 11] 129), (10, .st [.sl 301 0 j 1 false] 22), (11, .ms S), (301, .ar j [.i .i64 c] 3)], 302⟩, fun ((q, j, S, cc, c) : Int × Int × List Int × (Ix → Int) × (Ix → Int)) => (0 ≤ q ∧ q < n) ∧ (rng d cc = cellL (rng d zs) q) ∧ (hitB (rng d zs) (rng d lo) (rng d hi) q.toNat = true) ∧ (S = seenT (rng d zs) (rng n cs) (rng d lo) (rng d hi) q.toNat) ∧ (0 ≤ j ∧ j ≤ q) ∧ (rng j c = S), fun ((q, j, S, cc, c) : Int × Int × List Int × (Ix → Int) × (Ix → Int)) => (n - q).toNat, ⟨(p, 0, [], _, cs), ⟨(by (exact (it_first hw hm hp ‹_›).1)), (by (exact (it_first hw hm hp ‹_›).2.1)), (by (exact (it_first hw hm hp ‹_›).2.2.1)), (by (exact seen_first (it_first hw hm hp ‹_›).2.2.2)), (by (exact ⟨by omega, (it_first hw hm hp ‹_›).1.1⟩)), (by rfl)⟩, q3⟩, ?r_6⟩
  rintro ⟨q, j, S, cc, c⟩ ⟨hq, hc, hh, hS, hj, hr⟩
  cbv
  refine cal [0, 1, 2, 7, 8, 9, 10, 11, 301] (t := hYl _ _ _ (hJ _ _ _ _ (by omega) (by omega) (by omega) (by omega) (by assumption))) (k := ?k_7)
  rintro r_8 σ_9 (⟨h_10, ⟨rfl, rfl⟩⟩ | ⟨h_11, ⟨x_12, ⟨v_13, ⟨x_14, ⟨h_15, ⟨h_16, ⟨h_17, ⟨rfl, rfl⟩⟩⟩⟩⟩⟩⟩⟩)
  · cbv
    generalize e_18 : H Int _ = v_19
    simp only [hH, zeroS] at e_18
    replace e_18 := (IntWalk.i64_in _ (by omega)).symm.trans e_18
    refine' ⟨0, Int × (Ix → Int), fun ((i, cd) : Int × (Ix → Int)) => ⟨[(6, V.sl 200 0 d 1 false), (0, V.fn (Fn.yield l) []), (1, V.pt 3 0), (3, V.pt 5 0), (4, V.pt 6 0), (7, V.i IntKind.i64 q), (8, .i .i64 i)], [(0, O.st [V.sl 1 0 d 1 false, V.sl 2 0 n 1 false] 81), (1, O.ar d [C.i IntKind.i64 zs] 3), (2, O.ar n [C.i IntKind.i64 cs] 3), (7, O.rw l rf LoopState.ready none [V.pt 8 0, V.pt 9 0, V.pt 10 0] vs), (8, O.st [V.pt 0 0] 24), (9, O.st [V.mp 11] 129), (10, O.st [V.sl 301 0 j 1 false] 22), (11, O.ms S), (301, O.ar j [C.i IntKind.i64 c] 3), (200, .ar d [.i .i64 cd] 3), (3, O.st [V.l d [C.i IntKind.i64 lo] f1] 22), (4, O.st [V.i IntKind.i64 p] 3), (5, O.st [V.l d [C.i IntKind.i64 hi] f2] 22), (6, O.st [V.pt 0 0] 24)], 322⟩, fun ((i, cd) : Int × (Ix → Int)) => (-1 ≤ i ∧ i < d) ∧ (rng d cd = odo (cellL (rng d zs) q) (rng d lo) (i + 1).toNat) ∧ (∀ j, i < j → j < d → cc [j] = hi [j]), fun ((i, cd) : Int × (Ix → Int)) => (i + 1).toNat, ⟨(_, cc), ⟨?p_20, ?p_21, ?p_22⟩, ?s_23⟩, ?r_24⟩
    case s_23 => cbv <;> repeat' first | exact rfl | exact trivial | exact Or.inr trivial | exact Or.inl rfl | apply And.intro | omega | (split <;> first | exact trivial | (exfalso; simp_all; done)) | (subst_vars; simp [o0]; done)
    case p_20 => omega
    case p_21 => (exact odo_start hc (by omega))
    case p_22 => omega
    rintro ⟨i, cd⟩ ⟨hj, ho, he⟩
    cbv
    split
    · rename_i h_25
      simp only [hH, decide_eq_true_eq] at h_25
      cbv
      generalize e_26 : H Int _ = v_27
      simp only [hH, zeroS] at e_26
      generalize e_28 : H Int _ = v_29
      simp only [hH, zeroS] at e_28
      generalize e_30 : H Int _ = v_31
      simp only [hH, zeroS] at e_30
      subst e_30
      generalize e_32 : (fun ix => hi (i :: ix)) = c_33
      refine ⟨by rw [hH]; simp; omega, ?_⟩
      cbv
      refine ⟨by rw [hH]; simp; omega, ?_⟩
      cbv
      split
      · rename_i h_34
        simp only [hH, decide_eq_true_eq] at h_34
        cbv
        generalize e_35 : H Int _ = v_36
        simp only [hH, zeroS] at e_35
        replace e_35 := (IntWalk.i64_in _ (by omega)).symm.trans e_35
        generalize e_37 : H Int _ = v_38
        simp only [hH, zeroS] at e_37
        subst e_37
        generalize e_39 : H Int _ = v_40
        simp only [hH, zeroS] at e_39
        generalize e_41 : (fun ix => lo (i :: ix)) = c_42
        generalize e_43 : (fun ix => bif decide (hd ix = i) then v_40 else cd ix) = c_44
        refine ⟨by rw [hH]; simp; omega, ?_⟩
        cbv
        refine ⟨by rw [hH]; simp; omega, ?_⟩
        cbv
        exact rnd (_, _) (h := ⟨⟨(by omega), (by omega)⟩, ⟨(by (exact odo_back ho (by omega) (by omega) ‹_› (by omega) (by omega))), (by ((intro j h1 h2; by_cases hji : j = i; (have := odo_at hc ho (i := i) (by omega) (by omega); rw [hji]; omega); exact he j (by omega) h2)))⟩⟩) (s := q3)
      · rename_i h_45
        simp only [hH, decide_eq_false_iff_not, Int.not_lt, Int.not_le] at h_45
        cbv
        split
        case h_1 => rename_i hh; exact absurd hh (by rw [hH]; simp; omega)
        cbv
        generalize e_46 : H Int _ = v_47
        simp only [hH, zeroS] at e_46
        subst e_46
        generalize e_48 : H Int _ = v_49
        simp only [hH, zeroS] at e_48
        rw [e_26] at e_48
        replace e_48 := (IntWalk.i64_in _ (by ((have := cd_bd hw hc ho (i := i) (by omega) (by omega); omega)))).symm.trans e_48
        generalize e_50 : H Int _ = v_51
        simp only [hH, zeroS] at e_50
        obtain rfl := Eq.trans (Eq.symm e_26) e_50
        generalize e_52 : (fun ix => bif decide (hd ix = i) then v_49 else cd ix) = c_53
        refine ⟨by rw [hH]; simp; omega, ?_⟩
        cbv
        refine ⟨by rw [hH]; simp; omega, ?_⟩
        cbv
        generalize e_54 : H Bool _ = b_55
        simp only [hH] at e_54
        replace e_54 := boolN e_54
        generalize e_56 : H Bool _ = b_57
        simp only [hH] at e_56
        replace e_56 := boolN e_56
        generalize e_58 : H Bool _ = b_59
        simp only [hH] at e_58
        replace e_58 := boolN e_58
        refine cal [0, 1, 2] (t := hTri _ _ _ _ (place_tri _ _ _ _ _ _ _ (by omega) (by assumption))) (k := ?k_60)
        rintro r_61 σ_62 ⟨v_63, ⟨v_64, ⟨h_65, ⟨h_66, ⟨rfl, rfl⟩⟩⟩⟩⟩
        cbv
        exact rnd (_, (_, (_, (_, _)))) (h := ⟨⟨(by ((obtain ⟨⟨h1, h2⟩, h3, h4, h5, h6⟩ := it_next hw hm hq hc hh ho (by omega) (by omega) he (by omega) ‹_› (by omega) ‹_›; first | omega | exact h4 | exact h5 | (simp; omega) | exact seen_old hq h3 hh h6 hS ‹_› | exact seen_new hq h3 hh h6 hS ‹_› ‹_›))), (by ((obtain ⟨⟨h1, h2⟩, h3, h4, h5, h6⟩ := it_next hw hm hq hc hh ho (by omega) (by omega) he (by omega) ‹_› (by omega) ‹_›; first | omega | exact h4 | exact h5 | (simp; omega) | exact seen_old hq h3 hh h6 hS ‹_› | exact seen_new hq h3 hh h6 hS ‹_› ‹_›)))⟩, ⟨(by ((obtain ⟨⟨h1, h2⟩, h3, h4, h5, h6⟩ := it_next hw hm hq hc hh ho (by omega) (by omega) he (by omega) ‹_› (by omega) ‹_›; first | omega | exact h4 | exact h5 | (simp; omega) | exact seen_old hq h3 hh h6 hS ‹_› | exact seen_new hq h3 hh h6 hS ‹_› ‹_›))), ⟨(by ((obtain ⟨⟨h1, h2⟩, h3, h4, h5, h6⟩ := it_next hw hm hq hc hh ho (by omega) (by omega) he (by omega) ‹_› (by omega) ‹_›; first | omega | exact h4 | exact h5 | (simp; omega) | exact seen_old hq h3 hh h6 hS ‹_› | exact seen_new hq h3 hh h6 hS ‹_› ‹_›))), ⟨(by ((obtain ⟨⟨h1, h2⟩, h3, h4, h5, h6⟩ := it_next hw hm hq hc hh ho (by omega) (by omega) he (by omega) ‹_› (by omega) ‹_›; first | omega | exact h4 | exact h5 | (simp; omega) | exact seen_old hq h3 hh h6 hS ‹_› | exact seen_new hq h3 hh h6 hS ‹_› ‹_›))), ⟨⟨(by omega), (by ((obtain ⟨⟨h1, h2⟩, h3, h4, h5, h6⟩ := it_next hw hm hq hc hh ho (by omega) (by omega) he (by omega) ‹_› (by omega) ‹_›; first | omega | exact h4 | exact h5 | (simp; omega) | exact seen_old hq h3 hh h6 hS ‹_› | exact seen_new hq h3 hh h6 hS ‹_› ‹_›)))⟩, (by assumption)⟩⟩⟩⟩⟩) (s := q3) (m := by ((obtain ⟨⟨h1, h2⟩, h3, h4, h5, h6⟩ := it_next hw hm hq hc hh ho (by omega) (by omega) he (by omega) ‹_› (by omega) ‹_›; first | omega | exact h4 | exact h5 | (simp; omega) | exact seen_old hq h3 hh h6 hS ‹_› | exact seen_new hq h3 hh h6 hS ‹_› ‹_›)))
    · rename_i h_67
      simp only [hH, decide_eq_false_iff_not, Int.not_lt, Int.not_le] at h_67
      cbv
      split
      case h_2 => rename_i hh; exact absurd hh (by rw [hH]; simp; omega)
      cbv
      exact fin (h := ⟨_, ⟨_, ⟨_, ⟨(by ((have h6 := it_last hw hq hc hh (by omega) he; rw [seenL, if_pos hm, rng_len]; first | exact seen_old hq hq.2 hh h6 hS ‹_› | exact seen_new hq hq.2 hh h6 hS ‹_› ‹_›))), ⟨⟨(by omega), (by omega)⟩, ⟨(by assumption), ⟨rfl, rfl⟩⟩⟩⟩⟩⟩⟩) (s := q3)
  · cbv
    generalize e_68 : H Int _ = v_69
    simp only [hH, zeroS] at e_68
    replace e_68 := (IntWalk.i64_in _ (by omega)).symm.trans e_68
    refine' ⟨0, Int × (Ix → Int), fun ((i, cd) : Int × (Ix → Int)) => ⟨[(6, V.sl 200 0 d 1 false), (0, V.fn (Fn.yield l) []), (1, V.pt 3 0), (3, V.pt 5 0), (4, V.pt 6 0), (7, V.i IntKind.i64 q), (8, .i .i64 i)], [(0, O.st [V.sl 1 0 d 1 false, V.sl 2 0 n 1 false] 81), (1, O.ar d [C.i IntKind.i64 zs] 3), (2, O.ar n [C.i IntKind.i64 cs] 3), (7, O.rw l rf LoopState.ready none [V.pt 8 0, V.pt 9 0, V.pt 10 0] vs), (8, O.st [V.pt 0 0] 24), (9, O.st [V.mp 11] 129), (10, O.st [V.sl 402 0 v_13 1 false] 22), (11, O.ms x_12), (402, O.ar v_13 [C.i IntKind.i64 x_14] 3), (200, .ar d [.i .i64 cd] 3), (3, O.st [V.l d [C.i IntKind.i64 lo] f1] 22), (4, O.st [V.i IntKind.i64 p] 3), (5, O.st [V.l d [C.i IntKind.i64 hi] f2] 22), (6, O.st [V.pt 0 0] 24)], 403⟩, fun ((i, cd) : Int × (Ix → Int)) => (-1 ≤ i ∧ i < d) ∧ (rng d cd = odo (cellL (rng d zs) q) (rng d lo) (i + 1).toNat) ∧ (∀ j, i < j → j < d → cc [j] = hi [j]), fun ((i, cd) : Int × (Ix → Int)) => (i + 1).toNat, ⟨(_, cc), ⟨?p_70, ?p_71, ?p_72⟩, ?s_73⟩, ?r_74⟩
    case s_73 => cbv <;> repeat' first | exact rfl | exact trivial | exact Or.inr trivial | exact Or.inl rfl | apply And.intro | omega | (split <;> first | exact trivial | (exfalso; simp_all; done)) | (subst_vars; simp [o0]; done)
    case p_70 => omega
    case p_71 => (exact odo_start hc (by omega))
    case p_72 => omega
    rintro ⟨i, cd⟩ ⟨hj, ho, he⟩
    cbv
    split
    · rename_i h_75
      simp only [hH, decide_eq_true_eq] at h_75
      cbv
      generalize e_76 : H Int _ = v_77
      simp only [hH, zeroS] at e_76
      generalize e_78 : H Int _ = v_79
      simp only [hH, zeroS] at e_78
      generalize e_80 : H Int _ = v_81
      simp only [hH, zeroS] at e_80
      subst e_80
      generalize e_82 : (fun ix => hi (i :: ix)) = c_83
      refine ⟨by rw [hH]; simp; omega, ?_⟩
      cbv
      refine ⟨by rw [hH]; simp; omega, ?_⟩
      cbv
      split
      · rename_i h_84
        simp only [hH, decide_eq_true_eq] at h_84
        cbv
        generalize e_85 : H Int _ = v_86
        simp only [hH, zeroS] at e_85
        replace e_85 := (IntWalk.i64_in _ (by omega)).symm.trans e_85
        generalize e_87 : H Int _ = v_88
        simp only [hH, zeroS] at e_87
        subst e_87
        generalize e_89 : H Int _ = v_90
        simp only [hH, zeroS] at e_89
        generalize e_91 : (fun ix => lo (i :: ix)) = c_92
        generalize e_93 : (fun ix => bif decide (hd ix = i) then v_90 else cd ix) = c_94
        refine ⟨by rw [hH]; simp; omega, ?_⟩
        cbv
        refine ⟨by rw [hH]; simp; omega, ?_⟩
        cbv
        exact rnd (_, _) (h := ⟨⟨(by omega), (by omega)⟩, ⟨(by (exact odo_back ho (by omega) (by omega) ‹_› (by omega) (by omega))), (by ((intro j h1 h2; by_cases hji : j = i; (have := odo_at hc ho (i := i) (by omega) (by omega); rw [hji]; omega); exact he j (by omega) h2)))⟩⟩) (s := q3)
      · rename_i h_95
        simp only [hH, decide_eq_false_iff_not, Int.not_lt, Int.not_le] at h_95
        cbv
        split
        case h_1 => rename_i hh; exact absurd hh (by rw [hH]; simp; omega)
        cbv
        generalize e_96 : H Int _ = v_97
        simp only [hH, zeroS] at e_96
        subst e_96
        generalize e_98 : H Int _ = v_99
        simp only [hH, zeroS] at e_98
        rw [e_76] at e_98
        replace e_98 := (IntWalk.i64_in _ (by ((have := cd_bd hw hc ho (i := i) (by omega) (by omega); omega)))).symm.trans e_98
        generalize e_100 : H Int _ = v_101
        simp only [hH, zeroS] at e_100
        obtain rfl := Eq.trans (Eq.symm e_76) e_100
        generalize e_102 : (fun ix => bif decide (hd ix = i) then v_99 else cd ix) = c_103
        refine ⟨by rw [hH]; simp; omega, ?_⟩
        cbv
        refine ⟨by rw [hH]; simp; omega, ?_⟩
        cbv
        generalize e_104 : H Bool _ = b_105
        simp only [hH] at e_104
        replace e_104 := boolN e_104
        generalize e_106 : H Bool _ = b_107
        simp only [hH] at e_106
        replace e_106 := boolN e_106
        generalize e_108 : H Bool _ = b_109
        simp only [hH] at e_108
        replace e_108 := boolN e_108
        refine cal [0, 1, 2] (t := hTri _ _ _ _ (place_tri _ _ _ _ _ _ _ (by omega) (by assumption))) (k := ?k_110)
        rintro r_111 σ_112 ⟨v_113, ⟨v_114, ⟨h_115, ⟨h_116, ⟨rfl, rfl⟩⟩⟩⟩⟩
        cbv
        exact rnd (_, (_, (_, (_, _)))) (h := ⟨⟨(by ((obtain ⟨⟨h1, h2⟩, h3, h4, h5, h6⟩ := it_next hw hm hq hc hh ho (by omega) (by omega) he (by omega) ‹_› (by omega) ‹_›; first | omega | exact h4 | exact h5 | (simp; omega) | exact seen_old hq h3 hh h6 hS ‹_› | exact seen_new hq h3 hh h6 hS ‹_› ‹_›))), (by ((obtain ⟨⟨h1, h2⟩, h3, h4, h5, h6⟩ := it_next hw hm hq hc hh ho (by omega) (by omega) he (by omega) ‹_› (by omega) ‹_›; first | omega | exact h4 | exact h5 | (simp; omega) | exact seen_old hq h3 hh h6 hS ‹_› | exact seen_new hq h3 hh h6 hS ‹_› ‹_›)))⟩, ⟨(by ((obtain ⟨⟨h1, h2⟩, h3, h4, h5, h6⟩ := it_next hw hm hq hc hh ho (by omega) (by omega) he (by omega) ‹_› (by omega) ‹_›; first | omega | exact h4 | exact h5 | (simp; omega) | exact seen_old hq h3 hh h6 hS ‹_› | exact seen_new hq h3 hh h6 hS ‹_› ‹_›))), ⟨(by ((obtain ⟨⟨h1, h2⟩, h3, h4, h5, h6⟩ := it_next hw hm hq hc hh ho (by omega) (by omega) he (by omega) ‹_› (by omega) ‹_›; first | omega | exact h4 | exact h5 | (simp; omega) | exact seen_old hq h3 hh h6 hS ‹_› | exact seen_new hq h3 hh h6 hS ‹_› ‹_›))), ⟨(by ((obtain ⟨⟨h1, h2⟩, h3, h4, h5, h6⟩ := it_next hw hm hq hc hh ho (by omega) (by omega) he (by omega) ‹_› (by omega) ‹_›; first | omega | exact h4 | exact h5 | (simp; omega) | exact seen_old hq h3 hh h6 hS ‹_› | exact seen_new hq h3 hh h6 hS ‹_› ‹_›))), ⟨⟨(by omega), (by ((obtain ⟨⟨h1, h2⟩, h3, h4, h5, h6⟩ := it_next hw hm hq hc hh ho (by omega) (by omega) he (by omega) ‹_› (by omega) ‹_›; first | omega | exact h4 | exact h5 | (simp; omega) | exact seen_old hq h3 hh h6 hS ‹_› | exact seen_new hq h3 hh h6 hS ‹_› ‹_›)))⟩, (by assumption)⟩⟩⟩⟩⟩) (s := q3) (m := by ((obtain ⟨⟨h1, h2⟩, h3, h4, h5, h6⟩ := it_next hw hm hq hc hh ho (by omega) (by omega) he (by omega) ‹_› (by omega) ‹_›; first | omega | exact h4 | exact h5 | (simp; omega) | exact seen_old hq h3 hh h6 hS ‹_› | exact seen_new hq h3 hh h6 hS ‹_› ‹_›)))
    · rename_i h_117
      simp only [hH, decide_eq_false_iff_not, Int.not_lt, Int.not_le] at h_117
      cbv
      split
      case h_2 => rename_i hh; exact absurd hh (by rw [hH]; simp; omega)
      cbv
      exact fin (h := ⟨_, ⟨_, ⟨_, ⟨(by ((have h6 := it_last hw hq hc hh (by omega) he; rw [seenL, if_pos hm, rng_len]; first | exact seen_old hq hq.2 hh h6 hS ‹_› | exact seen_new hq hq.2 hh h6 hS ‹_› ‹_›))), ⟨⟨(by omega), (by omega)⟩, ⟨(by assumption), ⟨rfl, rfl⟩⟩⟩⟩⟩⟩⟩) (s := q3)
end
end Go.Proofs.Ytilmhjojbolbeaa.AM

namespace Go.Proofs.Ytilmhjojbolbeaa.AM
open Go
set_option maxRecDepth 100000
set_option maxHeartbeats 4000000
section
variable (d n p : Int) (zs cs lo hi : Ix → Int) (f1 f2 : Bool)
theorem rng_app {j j' : Int} {c c' : Ix → Int} {v w : Int} {S : List Int} (h0 : 0 ≤ j) (hj : j + 1 = j') (hg : (fun ix => bif decide (AM.hd ix < j) then c ix else v) = c') (hr : rng j c = S) (hv : w = v) : rng j' c' = S ++ [w] := by
  subst hj hg hr hv
  rw [rng, rng, show (j + 1).toNat = j.toNat + 1 by omega, List.range_succ, List.map_append]
  congr 1
  · refine List.map_congr_left fun i hi => ?_
    have := List.mem_range.1 hi
    have h2 : (i : Int) < j := by omega
    simp [AM.hd, h2]
  · have h2 : ((j.toNat : Nat) : Int) = j := by omega
    simp only [AM.hd, List.map_cons, List.map_nil, h2]
    simp
theorem sseen_ok (k1 k2 : Int) (hk1 : 0 ≤ k1 ∧ k1 ≤ 1000000000) (hk2 : 0 ≤ k2 ∧ k2 ≤ 1000000000) (hw : Wf (rng d zs) (rng n cs)) (hm : mayB (rng d zs) (rng k1 lo) (rng k2 hi) = true) :
    TriS Try.prog 44 [.pt 0 0, .l k1 [.i .i64 lo] f1, .l k2 [.i .i64 hi] f2] (slabS 0 1 2 d n zs cs)
      (fun r σ => ∃ (j : Int) (c : Ix → Int), (0 ≤ j ∧ j ≤ n) ∧ rng j c = seenL (rng d zs) (rng n cs) (rng d lo) (rng d hi) ∧ r = .tu [.sl 100 0 j 1 false, .i .i64 0] ∧ σ = slabS 0 1 2 d n zs cs ++ [(100, .ar j [.i .i64 c] 3)]) := by
  obtain ⟨hd1, hd2⟩ := wf_d hw
  obtain ⟨hn1, hn2⟩ := wf_n hw
  obtain ⟨-, -, rfl, rfl, -⟩ := may_place hm (by omega) hk1.1 hk2.1
  refine tri_of2 TT_ok mixed (OR := ORD44) (fn := Try.f44) (c := body Try.f44) (by kernel_rfl) (by kernel_rfl) (by kernel_rfl) (by kernel_rfl) (by simp [Try.f44]) fun H Tri TrI hH hTri hTrI => ?_
  cbv
  refine cal [0, 1, 2] (t := hTri _ _ _ _ (places_ok _ _ _ _ _ _ _ _ _ _ (by assumption) (by assumption) (by assumption) (by assumption))) (k := ?k_1)
  rintro r_2 σ_3 ⟨v_4, ⟨h_5, ⟨rfl, rfl⟩⟩⟩
  cbv
  split
  case h_1 => rename_i hh; exact absurd hh (by rw [hH]; simp; try omega)
  cbv
  generalize e_6 : H Bool _ = b_7
  simp only [hH] at e_6
  replace e_6 := boolN e_6
  obtain rfl : b_7 = false := Bool.eq_false_iff.2 fun q => absurd (e_6.1 q) (by decide)
  refine ⟨[3, 11, 10], ?_⟩
  cbv
  intro l rf vs
  refine ⟨fun xs σ R => ∃ (q j : Int) (S : List Int) (c : Ix → Int), (0 ≤ q ∧ q < n) ∧ (0 ≤ j ∧ j ≤ q) ∧ rng j c = S ∧ xs = [.i .i64 q] ∧ σ = slabS 0 1 2 k2 n zs cs ++ recN l rf vs 3 S (.sl 8 0 j 1 false) ++ [(8, .ar j [.i .i64 c] 3)] ∧ R = recNR l rf vs k2 n q j zs cs c S, ?_, ?_⟩
  · rintro _ _ _ ⟨q, j, S, c, hq, hj, hr, rfl, rfl, rfl⟩
    refine ⟨3, ?_⟩
    cbv
    generalize e_8 : H Int _ = v_9
    simp only [hH, zeroS] at e_8
    generalize e_10 : H Int _ = v_11
    simp only [hH, zeroS] at e_10
    subst e_10
    refine ⟨by rw [hH]; simp; omega, ?_⟩
    cbv
    split
    · rename_i h_12
      simp only [hH, decide_eq_true_eq] at h_12
      cbv
      exact fin (h := (Or.inl ⟨(by simp_all; done), ⟨rfl, rfl⟩⟩))
    · rename_i h_13
      simp only [hH, decide_eq_false_iff_not, Int.not_lt, Int.not_le] at h_13
      cbv
      generalize e_14 : H Int _ = v_15
      simp only [hH, zeroS] at e_14
      generalize e_16 : (fun ix => bif decide (hd ix < j) then c ix else v_9) = c_17
      refine ⟨by rw [hH]; simp; omega, ?_⟩
      cbv
      refine ⟨by rw [hH]; simp, ?_⟩
      cbv
      refine ⟨by rw [hH]; simp; omega, ?_⟩
      cbv
      generalize e_18 : H Bool _ = b_19
      simp only [hH] at e_18
      replace e_18 := boolN e_18
      refine' ⟨_, _, Or.inr ⟨?a1, _, _, _, ?a2, ?a3, ?a4, rfl, rfl⟩, ?c, ?s⟩
      case s => cbv <;> repeat' first | exact rfl | exact trivial | apply And.intro
      case c => rfl
      case a1 => rw [‹cs [q] = _›]; assumption
      case a2 => simp only [‹cs [q] = _›]; cases S <;> rfl
      case a3 => omega
      case a4 => have h9 := rng_app (w := cs [q]) hj.1 ‹_› ‹_› hr ‹_›; rw [‹cs [q] = _›] at h9; exact h9.trans (by cases S <;> rfl)
  · cbv
    refine cal [0, 1, 2, 201, 202, 203, 204, 124, 100, 123, 121, 122] (t := hTrI _ _ _ _ _ _ (by kernel_rfl) (seen_it _ _ _ _ _ _ _ _ _ (by assumption) (by assumption) (by assumption) _ _ _ _ (by grind))) (k := ?k_20)
    rintro r_21 σ_22 ⟨x_23, ⟨v_24, ⟨x_25, ⟨h_26, ⟨⟨h_27, h_28⟩, ⟨h_29, ⟨rfl, rfl⟩⟩⟩⟩⟩⟩⟩
    cbv
    exact fin (h := ⟨_, ⟨_, ⟨⟨(by assumption), (by assumption)⟩, ⟨(by simp_all; done), ⟨rfl, rfl⟩⟩⟩⟩⟩)
theorem sseen_bad (k1 k2 : Int) (hk1 : 0 ≤ k1 ∧ k1 ≤ 1000000000) (hk2 : 0 ≤ k2 ∧ k2 ≤ 1000000000) (hw : Wf (rng d zs) (rng n cs)) (hm : mayB (rng d zs) (rng k1 lo) (rng k2 hi) = false) :
    TriS Try.prog 44 [.pt 0 0, .l k1 [.i .i64 lo] f1, .l k2 [.i .i64 hi] f2] (slabS 0 1 2 d n zs cs) (fun r σ => r = .tu [.l 0 [] true, .i .i64 1] ∧ σ = slabS 0 1 2 d n zs cs) := by
  refine tri_of2 TT_ok mixed (OR := ORD44) (fn := Try.f44) (c := body Try.f44) (by kernel_rfl) (by kernel_rfl) (by kernel_rfl) (by kernel_rfl) (by simp [Try.f44]) fun H Tri TrI hH hTri hTrI => ?_
  cbv
  refine cal [0, 1, 2] (t := hTri _ _ _ _ (places_bad _ _ _ _ _ _ _ _ _ _ (by assumption) (by assumption) (by assumption) (by assumption))) (k := ?k_1)
  rintro r_2 σ_3 ⟨rfl, rfl⟩
  cbv
  split
  case h_2 => rename_i hh; exact absurd hh (by rw [hH]; simp; try omega)
  cbv
  exact fin (h := ⟨rfl, rfl⟩)
end
end Go.Proofs.Ytilmhjojbolbeaa.AM

namespace Go.Proofs.Ytilmhjojbolbeaa.AM
open Go
set_option maxRecDepth 100000
set_option maxHeartbeats 4000000
theorem sizes_tri (d n : Int) (zs cs : Ix → Int) (hw : Wf (rng d zs) (rng n cs)) : TriS Try.prog 75 [.pt 0 0] (slabS 0 1 2 d n zs cs) (fun r σ => ∃ c : Ix → Int, (∀ j, 0 ≤ j → j < d → c [j] = zs [j]) ∧ r = .sl 100 0 d 1 false ∧ σ = slabS 0 1 2 d n zs cs ++ [(100, .ar d [.i .i64 c] 3)]) := by
  obtain ⟨hd1, hd2⟩ := wf_d hw
  refine tri_of TT_ok mixed (OR := ORD75) (fn := Try.f75) (c := body Try.f75) (by kernel_rfl) (by kernel_rfl) (by kernel_rfl) (by kernel_rfl) (by simp [Try.f75]) fun H Tri hH hTri => ?_
  cbv
  refine cal [] (t := hTri _ _ _ _ (iclone_tri _ _ _ (by omega))) (k := ?k_1)
  rintro r_2 σ_3 ⟨x_4, ⟨h_5, ⟨rfl, rfl⟩⟩⟩
  simp only [AM.hd, Int.add_zero, List.tail_cons] at h_5
  cbv
  exact fin (h := ⟨_, ⟨(by assumption), ⟨rfl, rfl⟩⟩⟩)
theorem scells_tri (d n : Int) (zs cs : Ix → Int) (hw : Wf (rng d zs) (rng n cs)) : TriS Try.prog 19 [.pt 0 0] (slabS 0 1 2 d n zs cs) (fun r σ => ∃ c : Ix → Int, (∀ j, 0 ≤ j → j < n → c [j] = cs [j]) ∧ r = .sl 100 0 n 1 false ∧ σ = slabS 0 1 2 d n zs cs ++ [(100, .ar n [.i .i64 c] 3)]) := by
  obtain ⟨hn1, hn2⟩ := wf_n hw
  refine tri_of TT_ok mixed (OR := ORD19) (fn := Try.f19) (c := body Try.f19) (by kernel_rfl) (by kernel_rfl) (by kernel_rfl) (by kernel_rfl) (by simp [Try.f19]) fun H Tri hH hTri => ?_
  cbv
  refine cal [] (t := hTri _ _ _ _ (iclone_tri _ _ _ (by omega))) (k := ?k_1)
  rintro r_2 σ_3 ⟨x_4, ⟨h_5, ⟨rfl, rfl⟩⟩⟩
  simp only [AM.hd, Int.add_zero, List.tail_cons] at h_5
  cbv
  exact fin (h := ⟨_, ⟨(by assumption), ⟨rfl, rfl⟩⟩⟩)
theorem sizes_nil : TriS Try.prog 75 [nilp] [] (fun r σ => r = .l 0 [] true ∧ σ = []) := by
  refine tri_of TT_ok mixed (OR := ORD75) (fn := Try.f75) (c := body Try.f75) (by kernel_rfl) (by kernel_rfl) (by kernel_rfl) (by kernel_rfl) (by simp [Try.f75]) fun H Tri hH hTri => ?_
  cbv
  exact fin (h := ⟨rfl, rfl⟩)
theorem scells_nil : TriS Try.prog 19 [nilp] [] (fun r σ => r = .l 0 [] true ∧ σ = []) := by
  refine tri_of TT_ok mixed (OR := ORD19) (fn := Try.f19) (c := body Try.f19) (by kernel_rfl) (by kernel_rfl) (by kernel_rfl) (by kernel_rfl) (by simp [Try.f19]) fun H Tri hH hTri => ?_
  cbv
  exact fin (h := ⟨rfl, rfl⟩)
theorem least_tri (x y : Int) : TriS Try.prog 42 [.i .i64 x, .i .i64 y] [] (fun r σ => ∃ v, v = min x y ∧ r = .i .i64 v ∧ σ = []) := by
  refine tri_of TT_ok mixed (OR := ORD42) (fn := Try.f42) (c := body Try.f42) (by kernel_rfl) (by kernel_rfl) (by kernel_rfl) (by kernel_rfl) (by simp [Try.f42]) fun H Tri hH hTri => ?_
  cbv
  generalize e_1 : H Int _ = v_2
  simp only [hH, zeroS] at e_1
  exact fin (h := ⟨_, ⟨(by omega), ⟨rfl, rfl⟩⟩⟩)
theorem greatest_tri (x y : Int) : TriS Try.prog 43 [.i .i64 x, .i .i64 y] [] (fun r σ => ∃ v, v = max x y ∧ r = .i .i64 v ∧ σ = []) := by
  refine tri_of TT_ok mixed (OR := ORD43) (fn := Try.f43) (c := body Try.f43) (by kernel_rfl) (by kernel_rfl) (by kernel_rfl) (by kernel_rfl) (by simp [Try.f43]) fun H Tri hH hTri => ?_
  cbv
  generalize e_1 : H Int _ = v_2
  simp only [hH, zeroS] at e_1
  exact fin (h := ⟨_, ⟨(by omega), ⟨rfl, rfl⟩⟩⟩)
theorem zmin_tri (n : Int) (a b : Ix → Int) (f1 f2 : Bool) (hn : 0 ≤ n ∧ n ≤ 1000000) : TriS Try.prog 41 [.l n [.i .i64 a] f1, .l n [.i .i64 b] f2, .fn (.func 42) []] [] (fun r σ => ∃ c : Ix → Int, (∀ j, 0 ≤ j → j < n → c [j] = min (a [j]) (b [j])) ∧ r = .sl 100 0 n 1 false ∧ σ = [(100, .ar n [.i .i64 c] 3)]) := by
  refine tri_of TT_ok mixed (OR := ORD41) (fn := Try.f41) (c := body Try.f41) (by kernel_rfl) (by kernel_rfl) (by kernel_rfl) (by kernel_rfl) (by simp [Try.f41]) fun H Tri hH hTri => ?_
  cbv
  refine ⟨by rw [hH]; exact decide_eq_true ⟨by omega, rfl, by show _ * 8 ≤ _; omega⟩, ?_⟩
  cbv
  refine' ⟨0, Int × (Ix → Int), fun ((i, c) : Int × (Ix → Int)) => ⟨[(13, V.i IntKind.i64 n), (7, V.sl 100 0 n 1 false), (6, V.l 0 [] true), (0, V.l n [C.i IntKind.i64 a] f1), (1, V.l n [C.i IntKind.i64 b] f2), (2, V.fn (Fn.func 42) []), (14, .i .i64 i)], [(100, .ar n [.i .i64 c] 3)], 101⟩, fun ((i, c) : Int × (Ix → Int)) => (0 ≤ i ∧ i ≤ n) ∧ (∀ j, 0 ≤ j → j < i → c [j] = min (a [j]) (b [j])), fun ((i, c) : Int × (Ix → Int)) => (n - i).toNat, ⟨(0, _), ⟨(by omega), (by omega)⟩, q3⟩, ?r_1⟩
  rintro ⟨i, c⟩ ⟨hi, hc⟩
  cbv
  split
  · rename_i h_2
    simp only [hH, decide_eq_true_eq] at h_2
    cbv
    generalize e_3 : H Int _ = v_4
    simp only [hH, zeroS] at e_3
    generalize e_5 : H Int _ = v_6
    simp only [hH, zeroS] at e_5
    generalize e_7 : (fun ix => b (i :: ix)) = c_8
    generalize e_9 : (fun ix => a (i :: ix)) = c_10
    refine ⟨by rw [hH]; simp; omega, ?_⟩
    cbv
    refine ⟨by rw [hH]; simp; omega, ?_⟩
    cbv
    generalize e_11 : H Bool _ = b_12
    simp only [hH] at e_11
    replace e_11 := boolN e_11
    refine cal [] (t := hTri _ _ _ _ (least_tri _ _)) (k := ?k_13)
    rintro r_14 σ_15 ⟨v_16, ⟨h_17, ⟨rfl, rfl⟩⟩⟩
    cbv
    generalize e_18 : H Int _ = v_19
    simp only [hH, zeroS] at e_18
    replace e_18 := (IntWalk.i64_in _ (by omega)).symm.trans e_18
    generalize e_20 : H Int _ = v_21
    simp only [hH, zeroS] at e_20
    subst e_20
    generalize e_22 : (fun ix => bif decide (hd ix = i) then v_16 else c ix) = c_23
    refine ⟨by rw [hH]; simp; omega, ?_⟩
    cbv
    exact rnd (_, _) (h := ⟨⟨(by omega), (by omega)⟩, (by (intro j _ _; subst_vars; simp only [hH, AM.hd, Int.zero_add, Bool.cond_decide]; grind))⟩) (s := q3)
  · rename_i h_24
    simp only [hH, decide_eq_false_iff_not, Int.not_lt, Int.not_le] at h_24
    cbv
    exact fin (h := ⟨_, ⟨(by grind), ⟨rfl, rfl⟩⟩⟩)
theorem zmax_tri (n : Int) (a b : Ix → Int) (f1 f2 : Bool) (hn : 0 ≤ n ∧ n ≤ 1000000) : TriS Try.prog 41 [.l n [.i .i64 a] f1, .l n [.i .i64 b] f2, .fn (.func 43) []] [] (fun r σ => ∃ c : Ix → Int, (∀ j, 0 ≤ j → j < n → c [j] = max (a [j]) (b [j])) ∧ r = .sl 100 0 n 1 false ∧ σ = [(100, .ar n [.i .i64 c] 3)]) := by
  refine tri_of TT_ok mixed (OR := ORD41) (fn := Try.f41) (c := body Try.f41) (by kernel_rfl) (by kernel_rfl) (by kernel_rfl) (by kernel_rfl) (by simp [Try.f41]) fun H Tri hH hTri => ?_
  cbv
  refine ⟨by rw [hH]; exact decide_eq_true ⟨by omega, rfl, by show _ * 8 ≤ _; omega⟩, ?_⟩
  cbv
  refine' ⟨0, Int × (Ix → Int), fun ((i, c) : Int × (Ix → Int)) => ⟨[(13, V.i IntKind.i64 n), (7, V.sl 100 0 n 1 false), (6, V.l 0 [] true), (0, V.l n [C.i IntKind.i64 a] f1), (1, V.l n [C.i IntKind.i64 b] f2), (2, V.fn (Fn.func 43) []), (14, .i .i64 i)], [(100, .ar n [.i .i64 c] 3)], 101⟩, fun ((i, c) : Int × (Ix → Int)) => (0 ≤ i ∧ i ≤ n) ∧ (∀ j, 0 ≤ j → j < i → c [j] = max (a [j]) (b [j])), fun ((i, c) : Int × (Ix → Int)) => (n - i).toNat, ⟨(0, _), ⟨(by omega), (by omega)⟩, q3⟩, ?r_1⟩
  rintro ⟨i, c⟩ ⟨hi, hc⟩
  cbv
  split
  · rename_i h_2
    simp only [hH, decide_eq_true_eq] at h_2
    cbv
    generalize e_3 : H Int _ = v_4
    simp only [hH, zeroS] at e_3
    generalize e_5 : H Int _ = v_6
    simp only [hH, zeroS] at e_5
    generalize e_7 : (fun ix => b (i :: ix)) = c_8
    generalize e_9 : (fun ix => a (i :: ix)) = c_10
    refine ⟨by rw [hH]; simp; omega, ?_⟩
    cbv
    refine ⟨by rw [hH]; simp; omega, ?_⟩
    cbv
    generalize e_11 : H Bool _ = b_12
    simp only [hH] at e_11
    replace e_11 := boolN e_11
    refine cal [] (t := hTri _ _ _ _ (greatest_tri _ _)) (k := ?k_13)
    rintro r_14 σ_15 ⟨v_16, ⟨h_17, ⟨rfl, rfl⟩⟩⟩
    cbv
    generalize e_18 : H Int _ = v_19
    simp only [hH, zeroS] at e_18
    replace e_18 := (IntWalk.i64_in _ (by omega)).symm.trans e_18
    generalize e_20 : H Int _ = v_21
    simp only [hH, zeroS] at e_20
    subst e_20
    generalize e_22 : (fun ix => bif decide (hd ix = i) then v_16 else c ix) = c_23
    refine ⟨by rw [hH]; simp; omega, ?_⟩
    cbv
    exact rnd (_, _) (h := ⟨⟨(by omega), (by omega)⟩, (by (intro j _ _; subst_vars; simp only [hH, AM.hd, Int.zero_add, Bool.cond_decide]; grind))⟩) (s := q3)
  · rename_i h_24
    simp only [hH, decide_eq_false_iff_not, Int.not_lt, Int.not_le] at h_24
    cbv
    exact fin (h := ⟨_, ⟨(by grind), ⟨rfl, rfl⟩⟩⟩)
end Go.Proofs.Ytilmhjojbolbeaa.AM

namespace Go.Proofs.Ytilmhjojbolbeaa.AM
open Go
set_option maxRecDepth 100000
set_option maxHeartbeats 4000000
/-- what the cells' visitor holds: a number, how often it was seen, the least and the greatest -/
def visS (a : Nat) (x cnt : Int) (lo hi : V) : Sto := [(a, .st [.i .i64 x] 3), (a + 1, .st [.i .i64 cnt] 3), (a + 2, .st [lo] 22), (a + 3, .st [hi] 22)]
theorem rng_pt {n : Int} {f g h : Ix → Int} {F : Int → Int → Int} (hn : 0 ≤ n) (hg : ∀ j, 0 ≤ j → j < n → g [j] = F (f [j]) (h [j])) : rng n g = zipL F (rng n f) (rng n h) := by
  refine rng_eq (by simp [rng_lenI hn]) fun j h0 h1 => ?_
  rw [rd_zipL _ _ _ (by rw [rng_len]; omega), rd_rngI h0 h1, rd_rngI h0 h1]; exact hg j h0 h1
theorem zip_self (F : Int → Int → Int) (hF : ∀ x, F x x = x) (xs : List Int) : zipL F xs xs = xs := by
  refine ext_rd (by simp) fun j hj => ?_
  rw [rd_zipL _ _ _ (by simpa using hj), hF]
/-- the least numbers of those seen and one cell -/
def nextL (F : Int → Int → Int) (cnt : Int) (L c : List Int) : List Int := if cnt = 0 then c else zipL F L c
theorem next0 {d cnt : Int} {F : Int → Int → Int} (hF : ∀ x, F x x = x) (hd : 0 ≤ d) {L : List Int} {f g h : Ix → Int} (h0 : cnt = 0) (hg : ∀ j, 0 ≤ j → j < d → g [j] = F (f [j]) (h [j])) (hf : ∀ j, 0 ≤ j → j < d → f [j] = h [j]) : rng d g = nextL F cnt L (rng d h) := by
  rw [nextL, if_pos h0, rng_pt hd hg, rng_congr hf, zip_self F hF]
theorem next1 {d m cnt : Int} {F : Int → Int → Int} (hd : 0 ≤ d) {L : List Int} {f g h : Ix → Int} (h0 : ¬ cnt = 0) (hm : m = d) (hf : rng m f = L) (hg : ∀ j, 0 ≤ j → j < d → g [j] = F (f [j]) (h [j])) : rng d g = nextL F cnt L (rng d h) := by
  subst hm
  rw [nextL, if_neg h0, rng_pt hd hg, hf]
section
variable (d m x y cnt : Int) (c lc hc : Ix → Int) (L U : List Int) (fl : Bool)
/-- one cell is looked at -/
theorem visit_tri (hd : 1 ≤ d ∧ d ≤ 6) (hm : m = if cnt = 0 then 0 else d) (hcn : 0 ≤ cnt ∧ cnt ≤ 4096) (hL : rng m lc = L) (hU : rng m hc = U) : TriS Try.prog 40 [.l d [.i .i64 c] fl, .i .i64 y, .pt 0 0, .pt 1 0, .pt 2 0, .pt 3 0] (visS 0 x cnt (.sl 4 0 m 1 false) (.sl 5 0 m 1 false) ++ [(4, .ar m [.i .i64 lc] 3), (5, .ar m [.i .i64 hc] 3)])
    (fun r σ => (y ≠ x ∧ r = .tu [] ∧ σ = visS 0 x cnt (.sl 4 0 m 1 false) (.sl 5 0 m 1 false) ++ [(4, .ar m [.i .i64 lc] 3), (5, .ar m [.i .i64 hc] 3)]) ∨
      (y = x ∧ ∃ (cnt' : Int) (lc' hc' : Ix → Int), cnt' = cnt + 1 ∧ rng d lc' = nextL min cnt L (rng d c) ∧ rng d hc' = nextL max cnt U (rng d c) ∧ r = .tu [] ∧ σ = visS 0 x cnt' (.sl 100 0 d 1 false) (.sl 101 0 d 1 false) ++ [(100, .ar d [.i .i64 lc'] 3), (101, .ar d [.i .i64 hc'] 3)])) := by
  by_cases h0 : cnt = 0
  · refine tri_of TT_ok mixed (OR := ORD40) (fn := Try.f40) (c := body Try.f40) (by kernel_rfl) (by kernel_rfl) (by kernel_rfl) (by kernel_rfl) (by simp [Try.f40]) fun H Tri hH hTri => ?_
    cbv
    split
    · rename_i h_1
      simp only [hH, decide_eq_true_eq] at h_1
      cbv
      exact fin (h := (Or.inl ⟨(by assumption), ⟨rfl, rfl⟩⟩))
    · rename_i h_2
      simp only [hH, decide_eq_false_iff_not, Int.not_lt, Int.not_le] at h_2
      cbv
      split
      case h_2 => rename_i hh; exact absurd hh (by rw [hH]; simp; omega)
      cbv
      generalize e_3 : H Bool _ = b_4
      simp only [hH] at e_3
      replace e_3 := boolN e_3
      generalize e_5 : H Bool _ = b_6
      simp only [hH] at e_5
      replace e_5 := boolN e_5
      refine cal [] (t := hTri _ _ _ _ (iclone_tri _ _ _ (by omega))) (k := ?k_7)
      rintro r_8 σ_9 ⟨x_10, ⟨h_11, ⟨rfl, rfl⟩⟩⟩
      cbv
      refine cal [] (t := hTri _ _ _ _ (iclone_tri _ _ _ (by omega))) (k := ?k_12)
      rintro r_13 σ_14 ⟨x_15, ⟨h_16, ⟨rfl, rfl⟩⟩⟩
      cbv
      refine cal [] (t := hTri _ _ _ _ (zmin_tri _ _ _ _ _ (by omega))) (k := ?k_17)
      rintro r_18 σ_19 ⟨x_20, ⟨h_21, ⟨rfl, rfl⟩⟩⟩
      simp only [AM.hd, Int.add_zero, List.tail_cons] at h_21
      cbv
      refine cal [] (t := hTri _ _ _ _ (zmax_tri _ _ _ _ _ (by omega))) (k := ?k_22)
      rintro r_23 σ_24 ⟨x_25, ⟨h_26, ⟨rfl, rfl⟩⟩⟩
      simp only [AM.hd, Int.add_zero, List.tail_cons] at h_26
      cbv
      generalize e_27 : H Int _ = v_28
      simp only [hH, zeroS] at e_27
      replace e_27 := (IntWalk.i64_in _ (by omega)).symm.trans e_27
      exact fin (h := (Or.inr ⟨(by omega), ⟨_, ⟨_, ⟨_, ⟨(by omega), ⟨(by (exact next0 Int.min_self (by omega) h0 ‹_› ‹_›)), ⟨(by (exact next0 Int.max_self (by omega) h0 ‹_› ‹_›)), ⟨rfl, rfl⟩⟩⟩⟩⟩⟩⟩⟩))
  · obtain rfl : m = d := by rw [if_neg h0] at hm; exact hm
    refine tri_of TT_ok mixed (OR := ORD40) (fn := Try.f40) (c := body Try.f40) (by kernel_rfl) (by kernel_rfl) (by kernel_rfl) (by kernel_rfl) (by simp [Try.f40]) fun H Tri hH hTri => ?_
    cbv
    split
    · rename_i h_29
      simp only [hH, decide_eq_true_eq] at h_29
      cbv
      exact fin (h := (Or.inl ⟨(by assumption), ⟨rfl, rfl⟩⟩))
    · rename_i h_30
      simp only [hH, decide_eq_false_iff_not, Int.not_lt, Int.not_le] at h_30
      cbv
      split
      case h_1 => rename_i hh; exact absurd hh (by rw [hH]; simp; omega)
      cbv
      generalize e_31 : H Bool _ = b_32
      simp only [hH] at e_31
      replace e_31 := boolN e_31
      generalize e_33 : H Bool _ = b_34
      simp only [hH] at e_33
      replace e_33 := boolN e_33
      refine cal [] (t := hTri _ _ _ _ (zmin_tri _ _ _ _ _ (by omega))) (k := ?k_35)
      rintro r_36 σ_37 ⟨x_38, ⟨h_39, ⟨rfl, rfl⟩⟩⟩
      simp only [AM.hd, Int.add_zero, List.tail_cons] at h_39
      cbv
      refine cal [] (t := hTri _ _ _ _ (zmax_tri _ _ _ _ _ (by omega))) (k := ?k_40)
      rintro r_41 σ_42 ⟨x_43, ⟨h_44, ⟨rfl, rfl⟩⟩⟩
      simp only [AM.hd, Int.add_zero, List.tail_cons] at h_44
      cbv
      generalize e_45 : H Int _ = v_46
      simp only [hH, zeroS] at e_45
      replace e_45 := (IntWalk.i64_in _ (by omega)).symm.trans e_45
      exact fin (h := (Or.inr ⟨(by omega), ⟨_, ⟨_, ⟨_, ⟨(by omega), ⟨(by (exact next1 (by omega) h0 rfl hL ‹_›)), ⟨(by (exact next1 (by omega) h0 rfl hU ‹_›)), ⟨rfl, rfl⟩⟩⟩⟩⟩⟩⟩⟩))
end
end Go.Proofs.Ytilmhjojbolbeaa.AM

namespace Go.Proofs.Ytilmhjojbolbeaa.AM
open Go
set_option maxRecDepth 100000
set_option maxHeartbeats 4000000
section
variable {d n m k k' i v x y cnt cnt' : Int} {zs cs cc cd lc hc lc' hc' g z : Ix → Int}
theorem mn_same (h0 : 0 ≤ k) (h1 : k < n) (hk : k + 1 = k') (h : cs [k] ≠ x) : mnT (rng d zs) (rng n cs) x k'.toNat = mnT (rng d zs) (rng n cs) x k.toNat ∧ mxT (rng d zs) (rng n cs) x k'.toNat = mxT (rng d zs) (rng n cs) x k.toNat := by
  subst hk
  rw [show (k + 1).toNat = k.toNat + 1 by omega, mnT, mxT, rd_rngI h0 h1, if_neg h, if_neg h]; exact ⟨rfl, rfl⟩
theorem mn_next (h0 : 0 ≤ k) (h1 : k < n) (hk : k + 1 = k') (h : cs [k] = x) (hcn : cnt = (eqN (rng n cs) x k.toNat : Int)) : mnT (rng d zs) (rng n cs) x k'.toNat = nextL min cnt (mnT (rng d zs) (rng n cs) x k.toNat) (cellL (rng d zs) k) ∧
    mxT (rng d zs) (rng n cs) x k'.toNat = nextL max cnt (mxT (rng d zs) (rng n cs) x k.toNat) (cellL (rng d zs) k) := by
  subst hk
  rw [show (k + 1).toNat = k.toNat + 1 by omega, mnT, mxT, rd_rngI h0 h1, if_pos h, if_pos h, nextL, nextL, show ((k.toNat : Nat) : Int) = k by omega]
  by_cases e : eqN (rng n cs) x k.toNat = 0
  · rw [if_pos e, if_pos e, if_pos (by omega), if_pos (by omega)]; exact ⟨rfl, rfl⟩
  · rw [if_neg e, if_neg e, if_neg (by omega), if_neg (by omega)]; exact ⟨rfl, rfl⟩
theorem same_cnt (h0 : 0 ≤ k) (h1 : k < n) (hk : k + 1 = k') (h : cs [k] ≠ x) (hcn : cnt = (eqN (rng n cs) x k.toNat : Int)) : cnt = (eqN (rng n cs) x k'.toNat : Int) := by
  subst hk
  rw [hcn, show (k + 1).toNat = k.toNat + 1 by omega, eqN_step, rd_rngI h0 h1, if_neg h]; rfl
theorem next_cnt (h0 : 0 ≤ k) (h1 : k < n) (hk : k + 1 = k') (h : cs [k] = x) (hcn : cnt = (eqN (rng n cs) x k.toNat : Int)) (hc' : cnt' = cnt + 1) : cnt' = (eqN (rng n cs) x k'.toNat : Int) := by
  subst hk
  rw [hc', hcn, show (k + 1).toNat = k.toNat + 1 by omega, eqN_step, rd_rngI h0 h1, if_pos h]; rfl
theorem eq_le (h0 : 0 ≤ k) : (0 : Int) ≤ (eqN (rng n cs) x k.toNat : Int) ∧ (eqN (rng n cs) x k.toNat : Int) ≤ k := by
  have := eqN_le (rng n cs) x k.toNat; omega
theorem cnt_bd (hk : 0 ≤ k ∧ k ≤ n) (hn : n ≤ 4096) (hcn : cnt = (eqN (rng n cs) x k.toNat : Int)) : 0 ≤ cnt ∧ cnt ≤ 4096 := by
  have := eq_le (n := n) (cs := cs) (x := x) hk.1
  omega
theorem cell0 (hw : Wf (rng d zs) (rng n cs)) (hg : ∀ j, 0 ≤ j → j < d → g [j] = 0) : rng d g = cellL (rng d zs) 0 := by
  have h := cell_first hw
  rw [show ((0 : Nat) : Int) = 0 from rfl] at h
  rw [h]
  have hd := wf_d hw
  refine rng_eq (by simp [zeros, rng_len]; omega) fun j h0 h1 => ?_
  rw [hg j h0 h1, rd_zeros (by rw [rng_len]; omega)]
/-- turning back: the numbers from i on are all zero -/
theorem zo_at (hc : rng d cc = cellL (rng d zs) k) (ho : rng d cd = odo (cellL (rng d zs) k) (zeros (rng d zs)) (i + 1).toNat) (h0 : 0 ≤ i) (h1 : i < d) : cd [i] = cc [i] := by
  rw [rng_at ho h0 h1, rng_at hc h0 h1, rd_odo _ _ _ _ (by simp [rng_len]; omega), if_pos (by omega)]
theorem zo_start (hc : rng d cc = cellL (rng d zs) k) (hi : i + 1 = d) : rng d cc = odo (cellL (rng d zs) k) (zeros (rng d zs)) (i + 1).toNat := by
  rw [hi, hc]
  have := odo_all (cellL (rng d zs) k) (zeros (rng d zs))
  rw [cellL_length, rng_len] at this
  exact this.symm
theorem zo_bd (hw : Wf (rng d zs) (rng n cs)) (hc : rng d cc = cellL (rng d zs) k) (ho : rng d cd = odo (cellL (rng d zs) k) (zeros (rng d zs)) (i + 1).toNat) (h0 : 0 ≤ i) (h1 : i < d) : 0 ≤ cd [i] ∧ cd [i] < zs [i] ∧ zs [i] ≤ 4096 := by
  rw [zo_at hc ho h0 h1, rng_at hc h0 h1]
  have h2 := cellL_bd hw.pos k (k := i.toNat) (by rw [rng_len]; omega)
  have h3 := wf_z hw h0 h1
  rw [rd_rngI h0 h1] at h2
  omega
theorem zo_back {i' : Int} {g' : Ix → Int} (ho : rng d cd = odo (cellL (rng d zs) k) (zeros (rng d zs)) (i + 1).toNat) (h0 : 0 ≤ i) (h1 : i < d) (hg : (fun ix => bif decide (AM.hd ix = i) then v else cd ix) = g) (hg' : (fun ix => bif decide (AM.hd ix = i) then 0 else g ix) = g') (hi : i - 1 = i') : rng d g' = odo (cellL (rng d zs) k) (zeros (rng d zs)) (i' + 1).toNat := by
  rw [rng_put h0 h1 hg', rng_put h0 h1 hg, List.set_set, ho, ← rd_zeros (sz := rng d zs) (j := i.toNat) (by rw [rng_len]; omega), show (i + 1).toNat = i.toNat + 1 by omega, odo_step _ _ _ (by simp [rng_len]; omega)]
  congr 1; omega
theorem zo_next (hw : Wf (rng d zs) (rng n cs)) (hk0 : 0 ≤ k) (hkn : k < n) (hc : rng d cc = cellL (rng d zs) k) (ho : rng d cd = odo (cellL (rng d zs) k) (zeros (rng d zs)) (i + 1).toNat) (h0 : 0 ≤ i) (h1 : i < d)
    (he : ∀ j, i < j → j < d → cc [j] = zs [j] - 1) (hv : cd [i] + 1 = v) (hlt : v < zs [i]) (hg : (fun ix => bif decide (AM.hd ix = i) then v else cd ix) = g) (hk : k + 1 = k') : rng d g = cellL (rng d zs) k' := by
  have e : ((k.toNat : Nat) : Int) = k := by omega
  have h := cell_next hw (p := k.toNat) (j := i.toNat) (by rw [rng_len]; omega) (by rw [rng_len]; omega) (fun j b1 b2 => by
      rw [rng_len] at b2
      rw [e, ← hc, rd_rng (by omega), rd_rng (by omega)]; exact he j (by omega) (by omega))
    (by rw [e, ← hc, rd_rngI h0 h1, rd_rngI h0 h1, ← zo_at hc ho h0 h1]; omega)
  rw [show ((k.toNat + 1 : Nat) : Int) = k' by omega, e] at h
  rw [h, rng_put h0 h1 hg, ho, nxt, ← hv, zo_at hc ho h0 h1, rng_at hc h0 h1, show (i + 1).toNat = i.toNat + 1 by omega]
theorem zo_last (hw : Wf (rng d zs) (rng n cs)) (hk0 : 0 ≤ k) (hkn : k < n) (hc : rng d cc = cellL (rng d zs) k) (h0 : i < 0) (he : ∀ j, i < j → j < d → cc [j] = zs [j] - 1) : k + 1 = n := by
  have e : ((k.toNat : Nat) : Int) = k := by omega
  have h := last_hit (low := zeros (rng d zs)) (high := lasts (rng d zs)) hw (p := k.toNat) (by rw [rng_len]; omega) (fun j hj => by
    have hj' := hj; rw [rng_len] at hj'
    rw [e, ← hc, rd_lasts hj, rd_rng (by omega), rd_rng (by omega)]; exact he j (by omega) (by omega))
  rw [all_hits hw, all_hits hw] at h
  have := congrArg List.length h
  simp [rng_len] at this
  omega
end
section
variable (d n x : Int) (zs cs : Ix → Int)
/-- the cells, one by one, are looked at -/
theorem cells_tri (hw : Wf (rng d zs) (rng n cs)) : TriS Try.prog 39 [.pt 0 0, .fn (.func 40) [.pt 3 0, .pt 4 0, .pt 5 0, .pt 6 0]] (slabS 0 1 2 d n zs cs ++ visS 3 x 0 (.l 0 [] true) (.l 0 [] true))
    (fun r σ => ∃ (cnt m : Int) (lc hc : Ix → Int), cnt = (eqN (rng n cs) x (rng n cs).length : Int) ∧ m = (if cnt = 0 then 0 else d) ∧ rng m lc = mnC (rng d zs) (rng n cs) x ∧ rng m hc = mxC (rng d zs) (rng n cs) x ∧ r = .tu [] ∧
      σ = slabS 0 1 2 d n zs cs ++ visS 3 x cnt (.sl 100 0 m 1 false) (.sl 101 0 m 1 false) ++ [(100, .ar m [.i .i64 lc] 3), (101, .ar m [.i .i64 hc] 3)]) := by
  obtain ⟨hd1, hd2⟩ := wf_d hw
  obtain ⟨hn1, hn2⟩ := wf_n hw
  refine tri_of TT_ok mixed (OR := ORD39) (fn := Try.f39) (c := body Try.f39) (by kernel_rfl) (by kernel_rfl) (by kernel_rfl) (by kernel_rfl) (by simp [Try.f39]) fun H Tri hH hTri => ?_
  cbv
  refine cal [0, 1, 2] (t := hTri _ _ _ _ (sizes_tri _ _ _ _ (by assumption))) (k := ?k_1)
  rintro r_2 σ_3 ⟨x_4, ⟨h_5, ⟨rfl, rfl⟩⟩⟩
  cbv
  refine ⟨by rw [hH]; exact decide_eq_true ⟨by omega, rfl, by show _ * 8 ≤ _; omega⟩, ?_⟩
  cbv
  refine cal [0, 1, 2] (t := hTri _ _ _ _ (scells_tri _ _ _ _ (by assumption))) (k := ?k_6)
  rintro r_7 σ_8 ⟨x_9, ⟨h_10, ⟨rfl, rfl⟩⟩⟩
  cbv
  refine' ⟨0, Int × Int × Int × (Ix → Int) × (Ix → Int) × (Ix → Int), fun ((k, cnt, m, cc, lc, hc) : Int × Int × Int × (Ix → Int) × (Ix → Int) × (Ix → Int)) => ⟨[(16, V.i IntKind.i64 n), (15, V.sl 221 0 n 1 false), (5, V.sl 120 0 d 1 false), (4, V.sl 200 0 d 1 false), (1, V.fn (Fn.func 40) [V.pt 3 0, V.pt 4 0, V.pt 5 0, V.pt 6 0]), (17, .i .i64 k)], [(0, O.st [V.sl 1 0 d 1 false, V.sl 2 0 n 1 false] 81), (1, O.ar d [C.i IntKind.i64 zs] 3), (2, O.ar n [C.i IntKind.i64 cs] 3), (221, O.ar n [C.i IntKind.i64 x_9] 3), (120, .ar d [.i .i64 cc] 3), (200, O.ar d [C.i IntKind.i64 x_4] 3), (3, O.st [V.i IntKind.i64 x] 3), (4, .st [.i .i64 cnt] 3), (5, .st [.sl 301 0 m 1 false] 22), (6, .st [.sl 302 0 m 1 false] 22), (301, .ar m [.i .i64 lc] 3), (302, .ar m [.i .i64 hc] 3)], 303⟩, fun ((k, cnt, m, cc, lc, hc) : Int × Int × Int × (Ix → Int) × (Ix → Int) × (Ix → Int)) => (0 ≤ k ∧ k ≤ n) ∧ (cnt = (eqN (rng n cs) x k.toNat : Int)) ∧ (m = if cnt = 0 then 0 else d) ∧ (rng m lc = mnT (rng d zs) (rng n cs) x k.toNat) ∧ (rng m hc = mxT (rng d zs) (rng n cs) x k.toNat) ∧ (k < n → rng d cc = cellL (rng d zs) k), fun ((k, cnt, m, cc, lc, hc) : Int × Int × Int × (Ix → Int) × (Ix → Int) × (Ix → Int)) => (n - k).toNat, ⟨(0, 0, 0, _, zs, zs), ⟨?p_11, ?p_12, ?p_13, ?p_14, ?p_15, ?p_16⟩, ?s_17⟩, ?r_18⟩
  case s_17 => cbv <;> repeat' first | exact rfl | exact trivial | exact Or.inr trivial | exact Or.inl rfl | apply And.intro | omega | (split <;> first | exact trivial | (exfalso; simp_all; done)) | (subst_vars; simp [o0]; done)
  case p_11 => omega
  case p_12 => rfl
  case p_13 => rfl
  case p_14 => rfl
  case p_15 => rfl
  case p_16 => ((intro _; exact cell0 hw (fun _ _ _ => rfl)))
  rintro ⟨k, cnt, m, cc, lc, hc⟩ ⟨hk, hcn, hm, hL, hU, hcc⟩
  cbv
  split
  · rename_i h_19
    simp only [hH, decide_eq_true_eq] at h_19
    cbv
    generalize e_20 : H Int _ = v_21
    simp only [hH, zeroS] at e_20
    generalize e_22 : H Int _ = v_23
    simp only [hH, zeroS] at e_22
    subst e_22
    refine ⟨by rw [hH]; simp; omega, ?_⟩
    cbv
    generalize e_24 : H Bool _ = b_25
    simp only [hH] at e_24
    replace e_24 := boolN e_24
    refine cal [3, 4, 5, 6, 301, 302] (t := hTri _ _ _ _ (visit_tri _ _ _ _ _ _ _ _ _ _ _ (by omega) (by assumption) (by (exact cnt_bd hk hn2 hcn)) (by assumption) (by assumption))) (k := ?k_26)
    rintro r_27 σ_28 (⟨h_29, ⟨rfl, rfl⟩⟩ | ⟨h_30, ⟨v_31, ⟨x_32, ⟨x_33, ⟨h_34, ⟨h_35, ⟨h_36, ⟨rfl, rfl⟩⟩⟩⟩⟩⟩⟩⟩)
    · cbv
      generalize e_37 : H Int _ = v_38
      simp only [hH, zeroS] at e_37
      replace e_37 := (IntWalk.i64_in _ (by omega)).symm.trans e_37
      refine' ⟨0, Int × (Ix → Int), fun ((i, cd) : Int × (Ix → Int)) => ⟨[(16, V.i IntKind.i64 n), (15, V.sl 221 0 n 1 false), (5, V.sl 120 0 d 1 false), (4, V.sl 200 0 d 1 false), (1, V.fn (Fn.func 40) [V.pt 3 0, V.pt 4 0, V.pt 5 0, V.pt 6 0]), (17, V.i IntKind.i64 k), (8, .i .i64 i)], [(3, O.st [V.i IntKind.i64 x] 3), (4, O.st [V.i IntKind.i64 cnt] 3), (5, O.st [V.sl 301 0 m 1 false] 22), (6, O.st [V.sl 302 0 m 1 false] 22), (301, O.ar m [C.i IntKind.i64 lc] 3), (302, O.ar m [C.i IntKind.i64 hc] 3), (0, O.st [V.sl 1 0 d 1 false, V.sl 2 0 n 1 false] 81), (1, O.ar d [C.i IntKind.i64 zs] 3), (2, O.ar n [C.i IntKind.i64 cs] 3), (221, O.ar n [C.i IntKind.i64 x_9] 3), (120, .ar d [.i .i64 cd] 3), (200, O.ar d [C.i IntKind.i64 x_4] 3)], 323⟩, fun ((i, cd) : Int × (Ix → Int)) => (-1 ≤ i ∧ i < d) ∧ (rng d cd = odo (cellL (rng d zs) k) (zeros (rng d zs)) (i + 1).toNat) ∧ (∀ j, i < j → j < d → cc [j] = zs [j] - 1), fun ((i, cd) : Int × (Ix → Int)) => (i + 1).toNat, ⟨(_, cc), ⟨?p_39, ?p_40, ?p_41⟩, ?s_42⟩, ?r_43⟩
      case s_42 => cbv <;> repeat' first | exact rfl | exact trivial | exact Or.inr trivial | exact Or.inl rfl | apply And.intro | omega | (split <;> first | exact trivial | (exfalso; simp_all; done)) | (subst_vars; simp [o0]; done)
      case p_39 => omega
      case p_40 => (exact zo_start (hcc (by omega)) (by omega))
      case p_41 => omega
      rintro ⟨i, cd⟩ ⟨hj, ho, he⟩
      cbv
      split
      · rename_i h_44
        simp only [hH, decide_eq_true_eq] at h_44
        cbv
        generalize e_45 : H Int _ = v_46
        simp only [hH, zeroS] at e_45
        simp only [AM.hd, eq_self, decide_true, cond_true] at e_45
        replace e_45 := (IntWalk.i64_in _ (by ((have := zo_bd hw (hcc (by omega)) ho (i := i) (by omega) (by omega); omega)))).symm.trans e_45
        generalize e_47 : H Int _ = v_48
        simp only [hH, zeroS] at e_47
        generalize e_49 : H Int _ = v_50
        simp only [hH, zeroS] at e_49
        subst e_49
        generalize e_51 : H Int _ = v_52
        simp only [hH, zeroS] at e_51
        replace e_51 := (IntWalk.i64_in _ (by ((have := zo_bd hw (hcc (by omega)) ho (i := i) (by omega) (by omega); omega)))).symm.trans e_51
        generalize e_53 : H Int _ = v_54
        simp only [hH, zeroS] at e_53
        generalize e_55 : (fun ix => bif decide (hd ix = i) then v_52 else cd ix) = c_56
        refine ⟨by rw [hH]; simp; omega, ?_⟩
        cbv
        refine ⟨by rw [hH]; simp; omega, ?_⟩
        cbv
        refine ⟨by rw [hH]; simp; omega, ?_⟩
        cbv
        refine ⟨by rw [hH]; simp; omega, ?_⟩
        cbv
        split
        · rename_i h_57
          simp only [hH, decide_eq_true_eq] at h_57
          cbv
          generalize e_58 : H Int _ = v_59
          simp only [hH, zeroS] at e_58
          replace e_58 := (IntWalk.i64_in _ (by omega)).symm.trans e_58
          exact rnd (_, (_, (_, (_, (_, _))))) (h := ⟨⟨(by omega), (by omega)⟩, ⟨(by ((have hy := ‹∀ j : Int, 0 ≤ j → j < n → (_ : Ix → Int) [j] = cs [j]› k (by omega) (by omega); first | exact same_cnt hk.1 (by omega) ‹_› (by omega) hcn | exact next_cnt hk.1 (by omega) ‹_› (by omega) hcn ‹_›))), ⟨(by assumption), ⟨(by ((have hy := ‹∀ j : Int, 0 ≤ j → j < n → (_ : Ix → Int) [j] = cs [j]› k (by omega) (by omega); first | exact hL.trans (mn_same hk.1 (by omega) ‹_› (by omega)).1.symm | exact hU.trans (mn_same hk.1 (by omega) ‹_› (by omega)).2.symm))), ⟨(by ((have hy := ‹∀ j : Int, 0 ≤ j → j < n → (_ : Ix → Int) [j] = cs [j]› k (by omega) (by omega); first | exact hL.trans (mn_same hk.1 (by omega) ‹_› (by omega)).1.symm | exact hU.trans (mn_same hk.1 (by omega) ‹_› (by omega)).2.symm))), (by ((intro _; have hz := ‹∀ j : Int, 0 ≤ j → j < d → (_ : Ix → Int) [j] = zs [j]› i (by omega) (by omega); exact zo_next hw hk.1 (by omega) (hcc (by omega)) ho (by omega) (by omega) he (by omega) (by omega) ‹_› ‹_›)))⟩⟩⟩⟩⟩)
        · rename_i h_60
          simp only [hH, decide_eq_false_iff_not, Int.not_lt, Int.not_le] at h_60
          cbv
          generalize e_61 : H Int _ = v_62
          simp only [hH, zeroS] at e_61
          replace e_61 := (IntWalk.i64_in _ (by omega)).symm.trans e_61
          generalize e_63 : H Int _ = v_64
          simp only [hH, zeroS] at e_63
          subst e_63
          generalize e_65 : (fun ix => bif decide (hd ix = i) then 0 else c_56 ix) = c_66
          refine ⟨by rw [hH]; simp; omega, ?_⟩
          cbv
          exact rnd (_, _) (h := ⟨⟨(by omega), (by omega)⟩, ⟨(by (exact zo_back ho (by omega) (by omega) ‹_› ‹_› (by omega))), (by ((intro j h1 h2; by_cases hji : j = i; (have h8 := zo_bd hw (hcc (by omega)) ho (i := i) (by omega) (by omega); have h9 := zo_at (hcc (by omega)) ho (i := i) (by omega) (by omega); have hz := ‹∀ j : Int, 0 ≤ j → j < d → (_ : Ix → Int) [j] = zs [j]› i (by omega) (by omega); rw [hji]; omega); exact he j (by omega) h2)))⟩⟩)
      · rename_i h_67
        simp only [hH, decide_eq_false_iff_not, Int.not_lt, Int.not_le] at h_67
        cbv
        generalize e_68 : H Int _ = v_69
        simp only [hH, zeroS] at e_68
        replace e_68 := (IntWalk.i64_in _ (by omega)).symm.trans e_68
        exact rnd (_, (_, (_, (_, (_, _))))) (h := ⟨⟨(by omega), (by omega)⟩, ⟨(by ((have hy := ‹∀ j : Int, 0 ≤ j → j < n → (_ : Ix → Int) [j] = cs [j]› k (by omega) (by omega); first | exact same_cnt hk.1 (by omega) ‹_› (by omega) hcn | exact next_cnt hk.1 (by omega) ‹_› (by omega) hcn ‹_›))), ⟨(by assumption), ⟨(by ((have hy := ‹∀ j : Int, 0 ≤ j → j < n → (_ : Ix → Int) [j] = cs [j]› k (by omega) (by omega); first | exact hL.trans (mn_same hk.1 (by omega) ‹_› (by omega)).1.symm | exact hU.trans (mn_same hk.1 (by omega) ‹_› (by omega)).2.symm))), ⟨(by ((have hy := ‹∀ j : Int, 0 ≤ j → j < n → (_ : Ix → Int) [j] = cs [j]› k (by omega) (by omega); first | exact hL.trans (mn_same hk.1 (by omega) ‹_› (by omega)).1.symm | exact hU.trans (mn_same hk.1 (by omega) ‹_› (by omega)).2.symm))), (by ((intro h7; have := zo_last hw hk.1 (by omega) (hcc (by omega)) (by omega) he; omega)))⟩⟩⟩⟩⟩)
    · simp only [rng_fr0] at h_35
      simp only [rng_fr0] at h_36
      cbv
      generalize e_70 : H Int _ = v_71
      simp only [hH, zeroS] at e_70
      replace e_70 := (IntWalk.i64_in _ (by omega)).symm.trans e_70
      refine' ⟨0, Int × (Ix → Int), fun ((i, cd) : Int × (Ix → Int)) => ⟨[(16, V.i IntKind.i64 n), (15, V.sl 221 0 n 1 false), (5, V.sl 120 0 d 1 false), (4, V.sl 200 0 d 1 false), (1, V.fn (Fn.func 40) [V.pt 3 0, V.pt 4 0, V.pt 5 0, V.pt 6 0]), (17, V.i IntKind.i64 k), (8, .i .i64 i)], [(3, O.st [V.i IntKind.i64 x] 3), (4, O.st [V.i IntKind.i64 v_31] 3), (5, O.st [V.sl 403 0 d 1 false] 22), (6, O.st [V.sl 404 0 d 1 false] 22), (403, O.ar d [C.i IntKind.i64 x_32] 3), (404, O.ar d [C.i IntKind.i64 x_33] 3), (0, O.st [V.sl 1 0 d 1 false, V.sl 2 0 n 1 false] 81), (1, O.ar d [C.i IntKind.i64 zs] 3), (2, O.ar n [C.i IntKind.i64 cs] 3), (221, O.ar n [C.i IntKind.i64 x_9] 3), (120, .ar d [.i .i64 cd] 3), (200, O.ar d [C.i IntKind.i64 x_4] 3)], 405⟩, fun ((i, cd) : Int × (Ix → Int)) => (-1 ≤ i ∧ i < d) ∧ (rng d cd = odo (cellL (rng d zs) k) (zeros (rng d zs)) (i + 1).toNat) ∧ (∀ j, i < j → j < d → cc [j] = zs [j] - 1), fun ((i, cd) : Int × (Ix → Int)) => (i + 1).toNat, ⟨(_, cc), ⟨?p_72, ?p_73, ?p_74⟩, ?s_75⟩, ?r_76⟩
      case s_75 => cbv <;> repeat' first | exact rfl | exact trivial | exact Or.inr trivial | exact Or.inl rfl | apply And.intro | omega | (split <;> first | exact trivial | (exfalso; simp_all; done)) | (subst_vars; simp [o0]; done)
      case p_72 => omega
      case p_73 => (exact zo_start (hcc (by omega)) (by omega))
      case p_74 => omega
      rintro ⟨i, cd⟩ ⟨hj, ho, he⟩
      cbv
      split
      · rename_i h_77
        simp only [hH, decide_eq_true_eq] at h_77
        cbv
        generalize e_78 : H Int _ = v_79
        simp only [hH, zeroS] at e_78
        simp only [AM.hd, eq_self, decide_true, cond_true] at e_78
        replace e_78 := (IntWalk.i64_in _ (by ((have := zo_bd hw (hcc (by omega)) ho (i := i) (by omega) (by omega); omega)))).symm.trans e_78
        generalize e_80 : H Int _ = v_81
        simp only [hH, zeroS] at e_80
        generalize e_82 : H Int _ = v_83
        simp only [hH, zeroS] at e_82
        subst e_82
        generalize e_84 : H Int _ = v_85
        simp only [hH, zeroS] at e_84
        replace e_84 := (IntWalk.i64_in _ (by ((have := zo_bd hw (hcc (by omega)) ho (i := i) (by omega) (by omega); omega)))).symm.trans e_84
        generalize e_86 : H Int _ = v_87
        simp only [hH, zeroS] at e_86
        generalize e_88 : (fun ix => bif decide (hd ix = i) then v_85 else cd ix) = c_89
        refine ⟨by rw [hH]; simp; omega, ?_⟩
        cbv
        refine ⟨by rw [hH]; simp; omega, ?_⟩
        cbv
        refine ⟨by rw [hH]; simp; omega, ?_⟩
        cbv
        refine ⟨by rw [hH]; simp; omega, ?_⟩
        cbv
        split
        · rename_i h_90
          simp only [hH, decide_eq_true_eq] at h_90
          cbv
          generalize e_91 : H Int _ = v_92
          simp only [hH, zeroS] at e_91
          replace e_91 := (IntWalk.i64_in _ (by omega)).symm.trans e_91
          exact rnd (_, (_, (_, (_, (_, _))))) (h := ⟨⟨(by omega), (by omega)⟩, ⟨(by ((have hy := ‹∀ j : Int, 0 ≤ j → j < n → (_ : Ix → Int) [j] = cs [j]› k (by omega) (by omega); first | exact same_cnt hk.1 (by omega) ‹_› (by omega) hcn | exact next_cnt hk.1 (by omega) ‹_› (by omega) hcn ‹_›))), ⟨(by grind), ⟨(by ((have hy := ‹∀ j : Int, 0 ≤ j → j < n → (_ : Ix → Int) [j] = cs [j]› k (by omega) (by omega); first | (rw [(mn_next hk.1 (by omega) ‹k + 1 = _› (by omega) hcn).1, ← hcc (by omega)]; assumption) | (rw [(mn_next hk.1 (by omega) ‹k + 1 = _› (by omega) hcn).2, ← hcc (by omega)]; assumption)))), ⟨(by ((have hy := ‹∀ j : Int, 0 ≤ j → j < n → (_ : Ix → Int) [j] = cs [j]› k (by omega) (by omega); first | (rw [(mn_next hk.1 (by omega) ‹k + 1 = _› (by omega) hcn).1, ← hcc (by omega)]; assumption) | (rw [(mn_next hk.1 (by omega) ‹k + 1 = _› (by omega) hcn).2, ← hcc (by omega)]; assumption)))), (by ((intro _; have hz := ‹∀ j : Int, 0 ≤ j → j < d → (_ : Ix → Int) [j] = zs [j]› i (by omega) (by omega); exact zo_next hw hk.1 (by omega) (hcc (by omega)) ho (by omega) (by omega) he (by omega) (by omega) ‹_› ‹_›)))⟩⟩⟩⟩⟩)
        · rename_i h_93
          simp only [hH, decide_eq_false_iff_not, Int.not_lt, Int.not_le] at h_93
          cbv
          generalize e_94 : H Int _ = v_95
          simp only [hH, zeroS] at e_94
          replace e_94 := (IntWalk.i64_in _ (by omega)).symm.trans e_94
          generalize e_96 : H Int _ = v_97
          simp only [hH, zeroS] at e_96
          subst e_96
          generalize e_98 : (fun ix => bif decide (hd ix = i) then 0 else c_89 ix) = c_99
          refine ⟨by rw [hH]; simp; omega, ?_⟩
          cbv
          exact rnd (_, _) (h := ⟨⟨(by omega), (by omega)⟩, ⟨(by (exact zo_back ho (by omega) (by omega) ‹_› ‹_› (by omega))), (by ((intro j h1 h2; by_cases hji : j = i; (have h8 := zo_bd hw (hcc (by omega)) ho (i := i) (by omega) (by omega); have h9 := zo_at (hcc (by omega)) ho (i := i) (by omega) (by omega); have hz := ‹∀ j : Int, 0 ≤ j → j < d → (_ : Ix → Int) [j] = zs [j]› i (by omega) (by omega); rw [hji]; omega); exact he j (by omega) h2)))⟩⟩)
      · rename_i h_100
        simp only [hH, decide_eq_false_iff_not, Int.not_lt, Int.not_le] at h_100
        cbv
        generalize e_101 : H Int _ = v_102
        simp only [hH, zeroS] at e_101
        replace e_101 := (IntWalk.i64_in _ (by omega)).symm.trans e_101
        exact rnd (_, (_, (_, (_, (_, _))))) (h := ⟨⟨(by omega), (by omega)⟩, ⟨(by ((have hy := ‹∀ j : Int, 0 ≤ j → j < n → (_ : Ix → Int) [j] = cs [j]› k (by omega) (by omega); first | exact same_cnt hk.1 (by omega) ‹_› (by omega) hcn | exact next_cnt hk.1 (by omega) ‹_› (by omega) hcn ‹_›))), ⟨(by grind), ⟨(by ((have hy := ‹∀ j : Int, 0 ≤ j → j < n → (_ : Ix → Int) [j] = cs [j]› k (by omega) (by omega); first | (rw [(mn_next hk.1 (by omega) ‹k + 1 = _› (by omega) hcn).1, ← hcc (by omega)]; assumption) | (rw [(mn_next hk.1 (by omega) ‹k + 1 = _› (by omega) hcn).2, ← hcc (by omega)]; assumption)))), ⟨(by ((have hy := ‹∀ j : Int, 0 ≤ j → j < n → (_ : Ix → Int) [j] = cs [j]› k (by omega) (by omega); first | (rw [(mn_next hk.1 (by omega) ‹k + 1 = _› (by omega) hcn).1, ← hcc (by omega)]; assumption) | (rw [(mn_next hk.1 (by omega) ‹k + 1 = _› (by omega) hcn).2, ← hcc (by omega)]; assumption)))), (by ((intro h7; have := zo_last hw hk.1 (by omega) (hcc (by omega)) (by omega) he; omega)))⟩⟩⟩⟩⟩)
  · rename_i h_103
    simp only [hH, decide_eq_false_iff_not, Int.not_lt, Int.not_le] at h_103
    cbv
    exact fin (h := ⟨_, ⟨_, ⟨_, ⟨_, ⟨(by ((obtain rfl : k = n := (by omega); rw [rng_len]; exact hcn))), ⟨(by assumption), ⟨(by ((obtain rfl : k = n := (by omega); first | exact hL.trans (by rw [mnC, rng_len]) | exact hU.trans (by rw [mxC, rng_len])))), ⟨(by ((obtain rfl : k = n := (by omega); first | exact hL.trans (by rw [mnC, rng_len]) | exact hU.trans (by rw [mxC, rng_len])))), ⟨rfl, rfl⟩⟩⟩⟩⟩⟩⟩⟩⟩)
end
end Go.Proofs.Ytilmhjojbolbeaa.AM

namespace Go.Proofs.Ytilmhjojbolbeaa.AM
open Go
set_option maxRecDepth 100000
set_option maxHeartbeats 4000000
theorem TriS.mono' {P : Program} {f : FuncId} {xs : List V} {σ : Sto} {R R' : V → Sto → Prop} (h : TriS P f xs σ R) (hR : ∀ r σ', R r σ' → R' r σ') : TriS P f xs σ R' := by
  refine ⟨h.1, fun X g w vs h1 h2 h3 => Calls.mono (h.2 X g w vs h1 h2 h3) ?_⟩
  rintro e w' ⟨r, σ', g', v, hr, rest⟩
  exact ⟨r, σ', g', v, hR r σ' hr, rest⟩
section
variable (d n x : Int) (zs cs : Ix → Int)
theorem cells_some (hw : Wf (rng d zs) (rng n cs)) (h0 : eqN (rng n cs) x (rng n cs).length ≠ 0) : TriS Try.prog 39 [.pt 0 0, .fn (.func 40) [.pt 3 0, .pt 4 0, .pt 5 0, .pt 6 0]] (slabS 0 1 2 d n zs cs ++ visS 3 x 0 (.l 0 [] true) (.l 0 [] true))
    (fun r σ => ∃ (cnt : Int) (lc hc : Ix → Int), cnt ≠ 0 ∧ rng d lc = mnC (rng d zs) (rng n cs) x ∧ rng d hc = mxC (rng d zs) (rng n cs) x ∧ r = .tu [] ∧
      σ = slabS 0 1 2 d n zs cs ++ visS 3 x cnt (.sl 100 0 d 1 false) (.sl 101 0 d 1 false) ++ [(100, .ar d [.i .i64 lc] 3), (101, .ar d [.i .i64 hc] 3)]) :=
  (cells_tri d n x zs cs hw).mono' fun r σ ⟨cnt, m, lc, hc, h1, h2, h3, h4, h5, h6⟩ => by
    have h7 : cnt ≠ 0 := by omega
    obtain rfl : m = d := by rw [if_neg h7] at h2; exact h2
    exact ⟨cnt, lc, hc, h7, h3, h4, h5, h6⟩
theorem cells_none (hw : Wf (rng d zs) (rng n cs)) (h0 : eqN (rng n cs) x (rng n cs).length = 0) : TriS Try.prog 39 [.pt 0 0, .fn (.func 40) [.pt 3 0, .pt 4 0, .pt 5 0, .pt 6 0]] (slabS 0 1 2 d n zs cs ++ visS 3 x 0 (.l 0 [] true) (.l 0 [] true))
    (fun r σ => ∃ (lc hc : Ix → Int), r = .tu [] ∧ σ = slabS 0 1 2 d n zs cs ++ visS 3 x 0 (.sl 100 0 0 1 false) (.sl 101 0 0 1 false) ++ [(100, .ar 0 [.i .i64 lc] 3), (101, .ar 0 [.i .i64 hc] 3)]) :=
  (cells_tri d n x zs cs hw).mono' fun r σ ⟨cnt, m, lc, hc, h1, h2, h3, h4, h5, h6⟩ => by
    obtain rfl : cnt = 0 := by omega
    obtain rfl : m = 0 := h2
    exact ⟨lc, hc, h5, h6⟩
theorem may_nil {lc hc : Ix → Int} (hw : Wf (rng d zs) (rng n cs)) : mayB (rng d zs) (rng 0 lc) (rng 0 hc) = false := by
  have := wf_d hw
  cases h : mayB (rng d zs) (rng 0 lc) (rng 0 hc) with
  | false => rfl
  | true => have := (may_facts h).1; simp only [rng_len] at this; omega
theorem ofOk_iff {j : Int} {c lc hc : Ix → Int} (hw : Wf (rng d zs) (rng n cs)) (h0 : eqN (rng n cs) x (rng n cs).length ≠ 0) (hl : rng d lc = mnC (rng d zs) (rng n cs) x) (hh : rng d hc = mxC (rng d zs) (rng n cs) x) (hj : 0 ≤ j) (hr : rng j c = seenL (rng d zs) (rng n cs) (rng d lc) (rng d hc)) : ofOk (rng d zs) (rng n cs) x = true ↔ j = 1 := by
  have h := of_seen (n := x) hw h0
  rw [hl, hh] at hr
  rw [ofOk, ← h, ← hr, rng_len j c]
  simp only [Bool.and_eq_true, decide_eq_true_eq]
  omega
theorem may_some {lc hc : Ix → Int} (hw : Wf (rng d zs) (rng n cs)) (h0 : eqN (rng n cs) x (rng n cs).length ≠ 0) (hl : rng d lc = mnC (rng d zs) (rng n cs) x) (hh : rng d hc = mxC (rng d zs) (rng n cs) x) : mayB (rng d zs) (rng d fun ix => lc ((AM.hd ix + 0) :: ix.tail)) (rng d fun ix => hc ((AM.hd ix + 0) :: ix.tail)) = true := by
  rw [rng_fr0, rng_fr0, hl, hh]; exact mC_may hw h0
theorem of_some (hw : Wf (rng d zs) (rng n cs)) (h0 : eqN (rng n cs) x (rng n cs).length ≠ 0) : TriS Try.prog 14 [.pt 0 0, .i .i64 x] (slabS 0 1 2 d n zs cs)
    (fun r σ => (ofOk (rng d zs) (rng n cs) x = true ∧ ∃ lc hc : Ix → Int, rng d lc = mnC (rng d zs) (rng n cs) x ∧ rng d hc = mxC (rng d zs) (rng n cs) x ∧ r = .tu [.sl 100 0 d 1 false, .sl 101 0 d 1 false, .b true] ∧ σ = slabS 0 1 2 d n zs cs ++ [(100, .ar d [.i .i64 lc] 3), (101, .ar d [.i .i64 hc] 3)]) ∨
      (ofOk (rng d zs) (rng n cs) x = false ∧ r = .tu [.l 0 [] true, .l 0 [] true, .b false] ∧ σ = slabS 0 1 2 d n zs cs)) := by
  obtain ⟨hd1, hd2⟩ := wf_d hw
  refine tri_of TT_ok mixed (OR := ORD14) (fn := Try.f14) (c := body Try.f14) (by kernel_rfl) (by kernel_rfl) (by kernel_rfl) (by kernel_rfl) (by simp [Try.f14]) fun H Tri hH hTri => ?_
  cbv
  refine cal [0, 1, 2, 100, 103, 101, 102] (t := hTri _ _ _ _ (cells_some _ _ _ _ _ (by assumption) (by assumption))) (k := ?k_1)
  rintro r_2 σ_3 ⟨v_4, ⟨x_5, ⟨x_6, ⟨h_7, ⟨h_8, ⟨h_9, ⟨rfl, rfl⟩⟩⟩⟩⟩⟩⟩
  cbv
  refine cal [0, 1, 2] (t := hTri _ _ _ _ (sseen_ok _ _ _ _ _ _ _ _ _ _ (by omega) (by omega) (by assumption) (by (exact may_some d n x zs cs hw h0 ‹_› ‹_›)))) (k := ?k_10)
  rintro r_11 σ_12 ⟨v_13, ⟨x_14, ⟨⟨h_15, h_16⟩, ⟨h_17, ⟨rfl, rfl⟩⟩⟩⟩⟩
  simp only [rng_fr0] at h_17
  cbv
  split
  case h_1 => rename_i hh; exact absurd hh (by rw [hH]; simp; omega)
  cbv
  split
  case h_1 => rename_i hh; exact absurd hh (by rw [hH]; simp; try omega)
  cbv
  split
  · rename_i h_18
    simp only [hH, decide_eq_true_eq] at h_18
    cbv
    exact fin (h := (Or.inr ⟨(by (exact Bool.eq_false_iff.2 fun h7 => absurd ((ofOk_iff d n x zs cs hw h0 ‹_› ‹_› (by omega) ‹_›).1 h7) (by omega))), ⟨rfl, rfl⟩⟩))
  · rename_i h_19
    simp only [hH, decide_eq_false_iff_not, Int.not_lt, Int.not_le] at h_19
    cbv
    exact fin (h := (Or.inl ⟨(by (exact (ofOk_iff d n x zs cs hw h0 ‹_› ‹_› (by omega) ‹_›).2 (by omega))), ⟨_, ⟨_, ⟨(by assumption), ⟨(by assumption), ⟨rfl, rfl⟩⟩⟩⟩⟩⟩))
theorem of_none (hw : Wf (rng d zs) (rng n cs)) (h0 : eqN (rng n cs) x (rng n cs).length = 0) : TriS Try.prog 14 [.pt 0 0, .i .i64 x] (slabS 0 1 2 d n zs cs)
    (fun r σ => r = .tu [.l 0 [] true, .l 0 [] true, .b false] ∧ σ = slabS 0 1 2 d n zs cs) := by
  obtain ⟨hd1, hd2⟩ := wf_d hw
  refine tri_of TT_ok mixed (OR := ORD14) (fn := Try.f14) (c := body Try.f14) (by kernel_rfl) (by kernel_rfl) (by kernel_rfl) (by kernel_rfl) (by simp [Try.f14]) fun H Tri hH hTri => ?_
  cbv
  refine cal [0, 1, 2, 100, 103, 101, 102] (t := hTri _ _ _ _ (cells_none _ _ _ _ _ (by assumption) (by assumption))) (k := ?k_1)
  rintro r_2 σ_3 ⟨x_4, ⟨x_5, ⟨rfl, rfl⟩⟩⟩
  cbv
  refine cal [0, 1, 2] (t := hTri _ _ _ _ (sseen_bad _ _ _ _ _ _ _ _ _ _ (by omega) (by omega) (by assumption) (by ((simp only [rng_fr0]; exact may_nil d n zs cs hw))))) (k := ?k_6)
  rintro r_7 σ_8 ⟨rfl, rfl⟩
  cbv
  generalize e_9 : (fun ix => x_5 ((hd ix + 0) :: ix.tail)) = c_10
  have f_11 := fun (j : Int) => congrFun e_9 [j]
  simp only [AM.hd, List.tail_cons, Int.add_zero] at f_11
  generalize e_12 : (fun ix => x_4 ((hd ix + 0) :: ix.tail)) = c_13
  have f_14 := fun (j : Int) => congrFun e_12 [j]
  simp only [AM.hd, List.tail_cons, Int.add_zero] at f_14
  split
  case h_2 => rename_i hh; exact absurd hh (by rw [hH]; simp; try omega)
  cbv
  exact fin (h := ⟨rfl, rfl⟩)
theorem of_tri (hw : Wf (rng d zs) (rng n cs)) : TriS Try.prog 14 [.pt 0 0, .i .i64 x] (slabS 0 1 2 d n zs cs)
    (fun r σ => (ofOk (rng d zs) (rng n cs) x = true ∧ ∃ lc hc : Ix → Int, rng d lc = mnC (rng d zs) (rng n cs) x ∧ rng d hc = mxC (rng d zs) (rng n cs) x ∧ r = .tu [.sl 100 0 d 1 false, .sl 101 0 d 1 false, .b true] ∧ σ = slabS 0 1 2 d n zs cs ++ [(100, .ar d [.i .i64 lc] 3), (101, .ar d [.i .i64 hc] 3)]) ∨
      (ofOk (rng d zs) (rng n cs) x = false ∧ r = .tu [.l 0 [] true, .l 0 [] true, .b false] ∧ σ = slabS 0 1 2 d n zs cs)) := by
  by_cases h0 : eqN (rng n cs) x (rng n cs).length = 0
  · exact (of_none d n x zs cs hw h0).mono' fun r σ h => .inr ⟨by simp [ofOk, h0], h⟩
  · exact of_some d n x zs cs hw h0
end
/-! a slab that is none -/
theorem places_nil : TriS Try.prog 55 [nilp, .l 0 [] true, .l 0 [] true] [] (fun r σ => r = .tu [.v .nilFunc, .i .i64 1] ∧ σ = []) := by
  have place_nil : TriS Try.prog 83 [nilp, .l 0 [] true] [] (fun r σ => r = .tu [.i .i64 0, .i .i64 1] ∧ σ = []) := by
    refine tri_of TT_ok mixed (OR := ORD83) (fn := Try.f83) (c := body Try.f83) (by kernel_rfl) (by kernel_rfl) (by kernel_rfl) (by kernel_rfl) (by simp [Try.f83]) fun H Tri hH hTri => ?_
    cbv
    exact fin (h := ⟨rfl, rfl⟩)
  refine tri_of TT_ok mixed (OR := ORD55) (fn := Try.f55) (c := body Try.f55) (by kernel_rfl) (by kernel_rfl) (by kernel_rfl) (by kernel_rfl) (by simp [Try.f55]) fun H Tri hH hTri => ?_
  cbv
  refine cal [] (t := hTri _ _ _ _ place_nil) (k := ?k_1)
  rintro r_2 σ_3 ⟨rfl, rfl⟩
  cbv
  refine cal [] (t := hTri _ _ _ _ place_nil) (k := ?k_4)
  rintro r_5 σ_6 ⟨rfl, rfl⟩
  cbv
  split
  case h_2 => rename_i hh; exact absurd hh (by rw [hH]; simp; try omega)
  cbv
  exact fin (h := ⟨rfl, rfl⟩)
theorem sseen_nil : TriS Try.prog 44 [nilp, .l 0 [] true, .l 0 [] true] [] (fun r σ => r = .tu [.l 0 [] true, .i .i64 1] ∧ σ = []) := by
  refine tri_of2 TT_ok mixed (OR := ORD44) (fn := Try.f44) (c := body Try.f44) (by kernel_rfl) (by kernel_rfl) (by kernel_rfl) (by kernel_rfl) (by simp [Try.f44]) fun H Tri TrI hH hTri hTrI => ?_
  cbv
  refine cal [] (t := hTri _ _ _ _ places_nil) (k := ?k_1)
  rintro r_2 σ_3 ⟨rfl, rfl⟩
  cbv
  split
  case h_2 => rename_i hh; exact absurd hh (by rw [hH]; simp; try omega)
  cbv
  exact fin (h := ⟨rfl, rfl⟩)
theorem cells_nil (x : Int) : TriS Try.prog 39 [nilp, .fn (.func 40) [.pt 0 0, .pt 1 0, .pt 2 0, .pt 3 0]] (visS 0 x 0 (.l 0 [] true) (.l 0 [] true)) (fun r σ => r = .tu [] ∧ σ = visS 0 x 0 (.l 0 [] true) (.l 0 [] true)) := by
  refine tri_of TT_ok mixed (OR := ORD39) (fn := Try.f39) (c := body Try.f39) (by kernel_rfl) (by kernel_rfl) (by kernel_rfl) (by kernel_rfl) (by simp [Try.f39]) fun H Tri hH hTri => ?_
  cbv
  refine cal [] (t := hTri _ _ _ _ sizes_nil) (k := ?k_1)
  rintro r_2 σ_3 ⟨rfl, rfl⟩
  cbv
  refine ⟨by rw [hH]; simp, ?_⟩
  cbv
  refine cal [] (t := hTri _ _ _ _ scells_nil) (k := ?k_4)
  rintro r_5 σ_6 ⟨rfl, rfl⟩
  cbv
  refine' ⟨0, Int, fun (k : Int) => ⟨[(16, V.i IntKind.i64 0), (15, V.l 0 [] true), (5, V.sl 120 0 0 1 false), (4, V.l 0 [] true), (1, V.fn (Fn.func 40) [V.pt 0 0, V.pt 1 0, V.pt 2 0, V.pt 3 0]), (17, .i .i64 k)], [(120, O.ar 0 [C.i IntKind.i64 fun x => 0] 3), (0, O.st [V.i IntKind.i64 x] 3), (1, O.st [V.i IntKind.i64 0] 3), (2, O.st [V.l 0 [] true] 22), (3, O.st [V.l 0 [] true] 22)], 141⟩, fun (k : Int) => (k = 0), fun (k : Int) => 0, ⟨0, (by rfl), q3⟩, ?r_7⟩
  rintro k hk
  cbv
  split
  case h_1 => rename_i hh; exact absurd hh (by rw [hH]; simp; omega)
  cbv
  exact fin (h := ⟨rfl, rfl⟩)
theorem of_nil (x : Int) : TriS Try.prog 14 [nilp, .i .i64 x] [] (fun r σ => r = .tu [.l 0 [] true, .l 0 [] true, .b false] ∧ σ = []) := by
  refine tri_of TT_ok mixed (OR := ORD14) (fn := Try.f14) (c := body Try.f14) (by kernel_rfl) (by kernel_rfl) (by kernel_rfl) (by kernel_rfl) (by simp [Try.f14]) fun H Tri hH hTri => ?_
  cbv
  refine cal [100, 103, 101, 102] (t := hTri _ _ _ _ (cells_nil _)) (k := ?k_1)
  rintro r_2 σ_3 ⟨rfl, rfl⟩
  cbv
  refine cal [] (t := hTri _ _ _ _ sseen_nil) (k := ?k_4)
  rintro r_5 σ_6 ⟨rfl, rfl⟩
  cbv
  split
  case h_2 => rename_i hh; exact absurd hh (by rw [hH]; simp; try omega)
  cbv
  exact fin (h := ⟨rfl, rfl⟩)
end Go.Proofs.Ytilmhjojbolbeaa.AM

namespace Go.Proofs.Ytilmhjojbolbeaa.AM
open Go
set_option maxRecDepth 100000
set_option maxHeartbeats 4000000
/-- the same points -/
def EqK (n : Int) (a : Ix → Int) (m : Int) (b : Ix → Int) : Prop := n = m ∧ ∀ j, 0 ≤ j → j < n → a [j] = b [j]
theorem EqK.of {n m i : Int} {a b : Ix → Int} (hp : ∀ j, 0 ≤ j → j < i → a [j] = b [j]) (hn : n ≤ i) (hm : n = m) : EqK n a m b := ⟨hm, fun j h0 h1 => hp j h0 (by omega)⟩
theorem EqK.no {n m i v w : Int} {a b : Ix → Int} (h0 : 0 ≤ i) (h1 : i < n) (ha : a [i] = v) (hb : b [i] = w) (hne : ¬ v = w) : ¬ EqK n a m b := fun h => hne (ha ▸ hb ▸ h.2 i h0 h1)
theorem nan_tri (x : Int) : TriS Try.prog 165 [.i .u32 x] [] (fun r σ => r = .b false ∧ σ = []) := by
  refine tri_of TT_ok mixed (OR := ORD165) (fn := Try.f165) (c := body Try.f165) (by kernel_rfl) (by kernel_rfl) (by kernel_rfl) (by kernel_rfl) (by simp [Try.f165]) fun H Tri hH hTri => ?_
  cbv
  generalize e_1 : H Bool _ = b_2
  simp only [hH] at e_1
  replace e_1 := boolN e_1
  obtain rfl : b_2 = false := Bool.eq_false_iff.2 fun q => absurd (e_1.1 q) (by decide)
  exact fin (h := ⟨rfl, rfl⟩)
theorem cmp_tri (x y : Int) : TriS Try.prog 150 [.i .u32 x, .i .u32 y] [] (fun r σ => ∃ v : Int, (v = 0 ↔ x = y) ∧ r = .i .i64 v ∧ σ = []) := by
  refine tri_of TT_ok mixed (OR := ORD150) (fn := Try.f150) (c := body Try.f150) (by kernel_rfl) (by kernel_rfl) (by kernel_rfl) (by kernel_rfl) (by simp [Try.f150]) fun H Tri hH hTri => ?_
  cbv
  refine cal [] (t := hTri _ _ _ _ (nan_tri _)) (k := ?k_1)
  rintro r_2 σ_3 ⟨rfl, rfl⟩
  cbv
  refine cal [] (t := hTri _ _ _ _ (nan_tri _)) (k := ?k_4)
  rintro r_5 σ_6 ⟨rfl, rfl⟩
  cbv
  split
  · rename_i h_7
    simp only [hH, decide_eq_true_eq] at h_7
    cbv
    exact fin (h := ⟨_, ⟨(by omega), ⟨rfl, rfl⟩⟩⟩)
  · rename_i h_8
    simp only [hH, decide_eq_false_iff_not, Int.not_lt, Int.not_le] at h_8
    cbv
    split
    · rename_i h_9
      simp only [hH, decide_eq_true_eq] at h_9
      cbv
      exact fin (h := ⟨_, ⟨(by omega), ⟨rfl, rfl⟩⟩⟩)
    · rename_i h_10
      simp only [hH, decide_eq_false_iff_not, Int.not_lt, Int.not_le] at h_10
      cbv
      exact fin (h := ⟨_, ⟨(by omega), ⟨rfl, rfl⟩⟩⟩)
section
variable (n m : Int) (a b : Ix → Int) (f1 f2 : Bool)
theorem pair_next {i i' : Int} {a b : Ix → Int} {R : Int → Int → Prop} (hp : ∀ j, 0 ≤ j → j < i → R (a [j]) (b [j])) (hi : i + 1 = i') (h : R (a [i]) (b [i])) : ∀ j, 0 ≤ j → j < i' → R (a [j]) (b [j]) := fun j h0 h1 => by
  by_cases e : j = i
  · subst e; exact h
  · exact hp j h0 (by omega)
theorem scmp_tri (hn : 0 ≤ n ∧ n ≤ 1000000) (hm : 0 ≤ m ∧ m ≤ 1000000) : TriS Try.prog 120 [.l n [.i .u32 a] f1, .l m [.i .u32 b] f2] [] (fun r σ => ∃ v : Int, (v = 0 ↔ EqK n a m b) ∧ r = .i .i64 v ∧ σ = []) := by
  refine tri_of TT_ok mixed (OR := ORD120) (fn := Try.f120) (c := body Try.f120) (by kernel_rfl) (by kernel_rfl) (by kernel_rfl) (by kernel_rfl) (by simp [Try.f120]) fun H Tri hH hTri => ?_
  cbv
  refine' ⟨0, Int, fun (i : Int) => ⟨[(10, V.i IntKind.i64 n), (9, V.l n [C.i IntKind.u32 a] f1), (0, V.l n [C.i IntKind.u32 a] f1), (1, V.l m [C.i IntKind.u32 b] f2), (11, .i .i64 i), (4, V.i IntKind.i64 0)], [], 100⟩, fun (i : Int) => (0 ≤ i ∧ i ≤ n ∧ i ≤ m) ∧ (∀ j, 0 ≤ j → j < i → a [j] = b [j]), fun (i : Int) => (n - i).toNat, ⟨0, ⟨(by omega), (by omega)⟩, q3⟩, ?r_1⟩
  rintro i ⟨hi, hp⟩
  cbv
  split
  · rename_i h_2
    simp only [hH, decide_eq_true_eq] at h_2
    cbv
    generalize e_3 : H Int _ = v_4
    simp only [hH, zeroS] at e_3
    generalize e_5 : (fun ix => a (i :: ix)) = c_6
    refine ⟨by rw [hH]; simp; omega, ?_⟩
    cbv
    split
    · rename_i h_7
      simp only [hH, decide_eq_true_eq] at h_7
      cbv
      exact fin (h := ⟨_, ⟨(by (exact ⟨fun h => absurd h (by omega), fun h => by have := h.1; omega⟩)), ⟨rfl, rfl⟩⟩⟩)
    · rename_i h_8
      simp only [hH, decide_eq_false_iff_not, Int.not_lt, Int.not_le] at h_8
      cbv
      generalize e_9 : H Int _ = v_10
      simp only [hH, zeroS] at e_9
      generalize e_11 : (fun ix => b (i :: ix)) = c_12
      refine ⟨by rw [hH]; simp; omega, ?_⟩
      cbv
      generalize e_13 : H Bool _ = b_14
      simp only [hH] at e_13
      replace e_13 := boolN e_13
      generalize e_15 : H Bool _ = b_16
      simp only [hH] at e_15
      replace e_15 := boolN e_15
      refine cal [] (t := hTri _ _ _ _ (cmp_tri _ _)) (k := ?k_17)
      rintro r_18 σ_19 ⟨v_20, ⟨h_21, ⟨rfl, rfl⟩⟩⟩
      cbv
      split
      · rename_i h_22
        simp only [hH, decide_eq_true_eq] at h_22
        cbv
        exact fin (h := ⟨_, ⟨(by (exact ⟨fun h => absurd h (by omega), fun h => absurd h (EqK.no hi.1 (by omega) ‹_› ‹_› (by omega))⟩)), ⟨rfl, rfl⟩⟩⟩)
      · rename_i h_23
        simp only [hH, decide_eq_false_iff_not, Int.not_lt, Int.not_le] at h_23
        cbv
        generalize e_24 : H Int _ = v_25
        simp only [hH, zeroS] at e_24
        replace e_24 := (IntWalk.i64_in _ (by omega)).symm.trans e_24
        exact rnd _ (h := ⟨⟨(by omega), ⟨(by omega), (by omega)⟩⟩, (by grind)⟩) (s := q3)
  · rename_i h_26
    simp only [hH, decide_eq_false_iff_not, Int.not_lt, Int.not_le] at h_26
    cbv
    split
    · rename_i h_27
      simp only [hH, decide_eq_true_eq] at h_27
      cbv
      exact fin (h := ⟨_, ⟨(by (exact ⟨fun h => absurd h (by omega), fun h => by have := h.1; omega⟩)), ⟨rfl, rfl⟩⟩⟩)
    · rename_i h_28
      simp only [hH, decide_eq_false_iff_not, Int.not_lt, Int.not_le] at h_28
      cbv
      exact fin (h := ⟨_, ⟨(by (exact ⟨fun _ => EqK.of hp (by omega) (by omega), fun _ => rfl⟩)), ⟨rfl, rfl⟩⟩⟩)
theorem kcmp_tri (hn : 0 ≤ n ∧ n ≤ 1000000) (hm : 0 ≤ m ∧ m ≤ 1000000) : TriS Try.prog 80 [.l n [.i .u32 a] f1, .l m [.i .u32 b] f2] [] (fun r σ => ∃ v : Int, (v = 0 ↔ EqK n a m b) ∧ r = .i .i64 v ∧ σ = []) := by
  refine tri_of TT_ok mixed (OR := ORD80) (fn := Try.f80) (c := body Try.f80) (by kernel_rfl) (by kernel_rfl) (by kernel_rfl) (by kernel_rfl) (by simp [Try.f80]) fun H Tri hH hTri => ?_
  cbv
  refine cal [] (t := hTri _ _ _ _ (scmp_tri _ _ _ _ _ _ (by assumption) (by assumption))) (k := ?k_1)
  rintro r_2 σ_3 ⟨v_4, ⟨h_5, ⟨rfl, rfl⟩⟩⟩
  cbv
  exact fin (h := ⟨_, ⟨(by assumption), ⟨rfl, rfl⟩⟩⟩)
theorem rcmp_tri (hn : 0 ≤ n ∧ n ≤ 1000000) (hm : 0 ≤ m ∧ m ≤ 1000000) : TriS Try.prog 81 [.l n [.i .u32 a] f1, .l m [.i .u32 b] f2] [] (fun r σ => ∃ v : Int, (v = 0 ↔ EqK n a m b) ∧ r = .i .i64 v ∧ σ = []) := by
  refine tri_of TT_ok mixed (OR := ORD81) (fn := Try.f81) (c := body Try.f81) (by kernel_rfl) (by kernel_rfl) (by kernel_rfl) (by kernel_rfl) (by simp [Try.f81]) fun H Tri hH hTri => ?_
  cbv
  refine' ⟨0, Int, fun (i : Int) => ⟨[(0, V.l n [C.i IntKind.u32 a] f1), (1, V.l m [C.i IntKind.u32 b] f2), (5, .i .i64 i), (4, V.i IntKind.i64 0)], [], 100⟩, fun (i : Int) => (0 ≤ i ∧ i ≤ n ∧ i ≤ m) ∧ (∀ j, 0 ≤ j → j < i → a [j] = b [j]), fun (i : Int) => (n - i).toNat, ⟨0, ⟨(by omega), (by omega)⟩, q3⟩, ?r_1⟩
  rintro i ⟨hi, hp⟩
  cbv
  split
  · rename_i h_2
    simp only [hH, decide_eq_true_eq] at h_2
    cbv
    split
    · rename_i h_3
      simp only [hH, decide_eq_true_eq] at h_3
      cbv
      generalize e_4 : H Int _ = v_5
      simp only [hH, zeroS] at e_4
      generalize e_6 : H Int _ = v_7
      simp only [hH, zeroS] at e_6
      generalize e_8 : (fun ix => b (i :: ix)) = c_9
      generalize e_10 : (fun ix => a (i :: ix)) = c_11
      refine ⟨by rw [hH]; simp; omega, ?_⟩
      cbv
      refine ⟨by rw [hH]; simp; omega, ?_⟩
      cbv
      split
      · rename_i h_12
        simp only [hH, decide_eq_true_eq] at h_12
        cbv
        exact fin (h := ⟨_, ⟨(by (exact ⟨fun h => absurd h (by omega), fun h => absurd h (EqK.no hi.1 (by omega) ‹_› ‹_› (by omega))⟩)), ⟨rfl, rfl⟩⟩⟩)
      · rename_i h_13
        simp only [hH, decide_eq_false_iff_not, Int.not_lt, Int.not_le] at h_13
        cbv
        generalize e_14 : H Int _ = v_15
        simp only [hH, zeroS] at e_14
        obtain rfl := Eq.trans (Eq.symm e_6) e_14
        generalize e_16 : H Int _ = v_17
        simp only [hH, zeroS] at e_16
        obtain rfl := Eq.trans (Eq.symm e_4) e_16
        generalize e_18 : (fun ix => b (i :: ix)) = c_19
        generalize e_20 : (fun ix => a (i :: ix)) = c_21
        refine ⟨by rw [hH]; simp; omega, ?_⟩
        cbv
        refine ⟨by rw [hH]; simp; omega, ?_⟩
        cbv
        split
        · rename_i h_22
          simp only [hH, decide_eq_true_eq] at h_22
          cbv
          exact fin (h := ⟨_, ⟨(by (exact ⟨fun h => absurd h (by omega), fun h => absurd h (EqK.no hi.1 (by omega) ‹_› ‹_› (by omega))⟩)), ⟨rfl, rfl⟩⟩⟩)
        · rename_i h_23
          simp only [hH, decide_eq_false_iff_not, Int.not_lt, Int.not_le] at h_23
          cbv
          generalize e_24 : H Int _ = v_25
          simp only [hH, zeroS] at e_24
          replace e_24 := (IntWalk.i64_in _ (by omega)).symm.trans e_24
          exact rnd _ (h := ⟨⟨(by omega), ⟨(by omega), (by omega)⟩⟩, (by grind)⟩) (s := q3)
    · rename_i h_26
      simp only [hH, decide_eq_false_iff_not, Int.not_lt, Int.not_le] at h_26
      cbv
      split
      case h_1 => rename_i hh; exact absurd hh (by rw [hH]; simp; omega)
      cbv
      split
      case h_2 => rename_i hh; exact absurd hh (by rw [hH]; simp; omega)
      cbv
      exact fin (h := ⟨_, ⟨(by (exact ⟨fun h => absurd h (by omega), fun h => by have := h.1; omega⟩)), ⟨rfl, rfl⟩⟩⟩)
  · rename_i h_27
    simp only [hH, decide_eq_false_iff_not, Int.not_lt, Int.not_le] at h_27
    cbv
    split
    · rename_i h_28
      simp only [hH, decide_eq_true_eq] at h_28
      cbv
      exact fin (h := ⟨_, ⟨(by (exact ⟨fun h => absurd h (by omega), fun h => by have := h.1; omega⟩)), ⟨rfl, rfl⟩⟩⟩)
    · rename_i h_29
      simp only [hH, decide_eq_false_iff_not, Int.not_lt, Int.not_le] at h_29
      cbv
      split
      case h_1 => rename_i hh; exact absurd hh (by rw [hH]; simp; omega)
      cbv
      exact fin (h := ⟨_, ⟨(by (exact ⟨fun _ => EqK.of hp (by omega) (by omega), fun _ => rfl⟩)), ⟨rfl, rfl⟩⟩⟩)
theorem rsame_tri (hn : 0 ≤ n ∧ n ≤ 1000000) (hm : 0 ≤ m ∧ m ≤ 1000000) : TriS Try.prog 53 [.l n [.i .u32 a] f1, .l m [.i .u32 b] f2] [] (fun r σ => ∃ v : Bool, (v = true ↔ EqK n a m b) ∧ r = .b v ∧ σ = []) := by
  refine tri_of TT_ok mixed (OR := ORD53) (fn := Try.f53) (c := body Try.f53) (by kernel_rfl) (by kernel_rfl) (by kernel_rfl) (by kernel_rfl) (by simp [Try.f53]) fun H Tri hH hTri => ?_
  cbv
  refine cal [] (t := hTri _ _ _ _ (rcmp_tri _ _ _ _ _ _ (by assumption) (by assumption))) (k := ?k_1)
  rintro r_2 σ_3 ⟨v_4, ⟨h_5, ⟨rfl, rfl⟩⟩⟩
  cbv
  exact fin (h := ⟨_, ⟨(by simp_all; done), ⟨rfl, rfl⟩⟩⟩)
theorem copy_tri (hn : 0 ≤ n ∧ n ≤ 1000000) : TriS Try.prog 52 [.l n [.i .u32 a] f1] [] (fun r σ => ∃ c : Ix → Int, (∀ j, 0 ≤ j → j < n → c [j] = a [j]) ∧ r = .sl 100 0 n 1 false ∧ σ = [(100, .ar n [.i .u32 c] 77)]) := by
  refine tri_of TT_ok mixed (OR := ORD52) (fn := Try.f52) (c := body Try.f52) (by kernel_rfl) (by kernel_rfl) (by kernel_rfl) (by kernel_rfl) (by simp [Try.f52]) fun H Tri hH hTri => ?_
  cbv
  generalize e_1 : H Int _ = v_2
  simp only [hH, zeroS] at e_1
  subst e_1
  refine ⟨by rw [hH]; simp, ?_⟩
  cbv
  refine ⟨by rw [hH]; simp; omega, ?_⟩
  cbv
  exact fin (h := ⟨_, ⟨(by omega), ⟨rfl, rfl⟩⟩⟩)
theorem kclone_tri (hn : 0 ≤ n ∧ n ≤ 1000000) : TriS Try.prog 49 [.l n [.i .u32 a] f1] [] (fun r σ => ∃ c : Ix → Int, (∀ j, 0 ≤ j → j < n → c [j] = a [j]) ∧ r = .sl 100 0 n 1 false ∧ σ = [(100, .ar n [.i .u32 c] 77)]) := by
  refine tri_of TT_ok mixed (OR := ORD49) (fn := Try.f49) (c := body Try.f49) (by kernel_rfl) (by kernel_rfl) (by kernel_rfl) (by kernel_rfl) (by simp [Try.f49]) fun H Tri hH hTri => ?_
  cbv
  intro b_1 h_2
  rcases b_1 with _ | _
  · simp only [boolS] at h_2
    cbv
    generalize e_3 : H Int _ = v_4
    simp only [hH, zeroS] at e_3
    subst e_3
    refine ⟨by rw [hH]; simp, ?_⟩
    cbv
    refine ⟨by rw [hH]; simp; omega, ?_⟩
    cbv
    exact fin (h := ⟨_, ⟨(by omega), ⟨rfl, rfl⟩⟩⟩)
  · simp only [boolS] at h_2
    cbv
    refine' ⟨_, _, ⟨_, ⟨?p_5, ⟨rfl, rfl⟩⟩⟩, ?c_6, ?s_7⟩
    case s_7 => cbv <;> repeat' first | exact rfl | exact trivial | apply And.intro | omega
    case c_6 => rfl
    case p_5 => omega
    exact fun _ => 0
end
section
variable (n1 n2 m1 m2 : Int) (a1 a2 b1 b2 : Ix → Int) (f1 f2 f3 f4 : Bool)
theorem same_tri (h1 : 0 ≤ n1 ∧ n1 ≤ 1000000) (h2 : 0 ≤ n2 ∧ n2 ≤ 1000000) (h3 : 0 ≤ m1 ∧ m1 ≤ 1000000) (h4 : 0 ≤ m2 ∧ m2 ≤ 1000000) : TriS Try.prog 51 [.ag [.l n1 [.i .u32 a1] f1, .l n2 [.i .u32 a2] f2], .ag [.l m1 [.i .u32 b1] f3, .l m2 [.i .u32 b2] f4]] []
    (fun r σ => ∃ v : Bool, (v = true ↔ EqK n1 a1 m1 b1 ∧ EqK n2 a2 m2 b2) ∧ r = .b v ∧ σ = []) := by
  refine tri_of TT_ok mixed (OR := ORD51) (fn := Try.f51) (c := body Try.f51) (by kernel_rfl) (by kernel_rfl) (by kernel_rfl) (by kernel_rfl) (by simp [Try.f51]) fun H Tri hH hTri => ?_
  cbv
  refine cal [] (t := hTri _ _ _ _ (kcmp_tri _ _ _ _ _ _ (by assumption) (by assumption))) (k := ?k_1)
  rintro r_2 σ_3 ⟨v_4, ⟨h_5, ⟨rfl, rfl⟩⟩⟩
  cbv
  split
  · rename_i h_6
    simp only [hH, decide_eq_true_eq] at h_6
    cbv
    generalize e_7 : H Bool _ = b_8
    simp only [hH] at e_7
    replace e_7 := boolN e_7
    refine cal [] (t := hTri _ _ _ _ (kcmp_tri _ _ _ _ _ _ (by assumption) (by assumption))) (k := ?k_9)
    rintro r_10 σ_11 ⟨v_12, ⟨h_13, ⟨rfl, rfl⟩⟩⟩
    cbv
    exact fin (h := ⟨_, ⟨(by simp_all; done), ⟨rfl, rfl⟩⟩⟩)
  · rename_i h_14
    simp only [hH, decide_eq_false_iff_not, Int.not_lt, Int.not_le] at h_14
    cbv
    exact fin (h := ⟨_, ⟨(by simp_all; done), ⟨rfl, rfl⟩⟩⟩)
theorem rbox_tri (h1 : 0 ≤ n1 ∧ n1 ≤ 1000000) (h2 : 0 ≤ n2 ∧ n2 ≤ 1000000) (h3 : 0 ≤ m1 ∧ m1 ≤ 1000000) (h4 : 0 ≤ m2 ∧ m2 ≤ 1000000) : TriS Try.prog 22 [.ag [.l n1 [.i .u32 a1] f1, .l n2 [.i .u32 a2] f2], .ag [.l m1 [.i .u32 b1] f3, .l m2 [.i .u32 b2] f4]] []
    (fun r σ => ∃ v : Bool, (v = true ↔ EqK n1 a1 m1 b1 ∧ EqK n2 a2 m2 b2) ∧ r = .b v ∧ σ = []) := by
  refine tri_of TT_ok mixed (OR := ORD22) (fn := Try.f22) (c := body Try.f22) (by kernel_rfl) (by kernel_rfl) (by kernel_rfl) (by kernel_rfl) (by simp [Try.f22]) fun H Tri hH hTri => ?_
  cbv
  refine cal [] (t := hTri _ _ _ _ (rsame_tri _ _ _ _ _ _ (by assumption) (by assumption))) (k := ?k_1)
  rintro r_2 σ_3 ⟨b_4, ⟨h_5, ⟨rfl, rfl⟩⟩⟩
  cbv
  rcases b_4 with _ | _
  · simp only [boolS] at h_5
    cbv
    exact fin (h := ⟨_, ⟨(by simp_all; done), ⟨rfl, rfl⟩⟩⟩)
  · simp only [boolS] at h_5
    cbv
    refine cal [] (t := hTri _ _ _ _ (rsame_tri _ _ _ _ _ _ (by assumption) (by assumption))) (k := ?k_6)
    rintro r_7 σ_8 ⟨b_9, ⟨h_10, ⟨rfl, rfl⟩⟩⟩
    cbv
    exact fin (h := ⟨_, ⟨(by simp_all; done), ⟨rfl, rfl⟩⟩⟩)
end
end Go.Proofs.Ytilmhjojbolbeaa.AM

namespace Go.Proofs.Ytilmhjojbolbeaa.AM
open Go
set_option maxRecDepth 100000
set_option maxHeartbeats 4000000
/-- a column of 32-bit numbers -/
def U32 (n : Int) (a : Ix → Int) : Prop := ∀ j, 0 ≤ j → j < n → 0 ≤ a [j] ∧ a [j] ≤ 4294967295
/-- P8.1: a box that may be -/
def BoxOk (n1 : Int) (a1 : Ix → Int) (n2 : Int) (a2 : Ix → Int) : Prop := (1 ≤ n1 ∧ n1 ≤ 6) ∧ n1 = n2 ∧ ∀ j, 0 ≤ j → j < n1 → a1 [j] ≤ a2 [j]
theorem box_no {n m i v w : Int} {a b : Ix → Int} (h0 : 0 ≤ i) (h1 : i < n) (ha : a [i] = v) (hb : b [i] = w) (hlt : w < v) : ¬ BoxOk n a m b := fun h => by have := h.2.2 i h0 h1; omega
/-- P11.1: a box that is wide enough -/
def Wide (n1 : Int) (a1 : Ix → Int) (n2 : Int) (a2 : Ix → Int) (t : Int) : Prop := BoxOk n1 a1 n2 a2 ∧ (0 ≤ t ∧ t < n1) ∧ a1 [t] < a2 [t]
/-- the last number of the lower half -/
def midK (a1 a2 : Ix → Int) (t : Int) : Int := a1 [t] + (a2 [t] - a1 [t]) / 2
theorem midK_bd {n t : Int} {a1 a2 : Ix → Int} (h1 : U32 n a1) (h2 : U32 n a2) (h0 : 0 ≤ t) (ht : t < n) (hl : a1 [t] < a2 [t]) : a1 [t] ≤ midK a1 a2 t ∧ midK a1 a2 t < a2 [t] := by
  unfold midK; omega
theorem mid_eq {x y : Int} (h0 : 0 ≤ x) (h1 : x ≤ y) (h2 : y ≤ 4294967295) : IntKind.u32.wrap (x + IntKind.u32.wrap ((y - x).tdiv 2)) = x + (y - x) / 2 := by
  rw [Int.tdiv_eq_ediv_of_nonneg (by omega), IntWalk.u32_in ((y - x) / 2) (by omega), IntWalk.u32_in _ (by omega)]
theorem atmost_tri (x y : Int) : TriS Try.prog 164 [.i .u32 x, .i .u32 y] [] (fun r σ => ∃ v : Bool, (v = true ↔ x ≤ y) ∧ r = .b v ∧ σ = []) := by
  refine tri_of TT_ok mixed (OR := ORD164) (fn := Try.f164) (c := body Try.f164) (by kernel_rfl) (by kernel_rfl) (by kernel_rfl) (by kernel_rfl) (by simp [Try.f164]) fun H Tri hH hTri => ?_
  cbv
  exact fin (h := ⟨_, ⟨(by simp_all; done), ⟨rfl, rfl⟩⟩⟩)
theorem isdim_tri (x : Int) : TriS Try.prog 173 [.i .i64 x] [] (fun r σ => ∃ v : Bool, (v = true ↔ 1 ≤ x ∧ x ≤ 6) ∧ r = .b v ∧ σ = []) := by
  refine tri_of TT_ok mixed (OR := ORD173) (fn := Try.f173) (c := body Try.f173) (by kernel_rfl) (by kernel_rfl) (by kernel_rfl) (by kernel_rfl) (by simp [Try.f173]) fun H Tri hH hTri => ?_
  cbv
  split
  · rename_i h_1
    simp only [hH, decide_eq_true_eq] at h_1
    cbv
    exact fin (h := ⟨_, ⟨(by simp_all; done), ⟨rfl, rfl⟩⟩⟩)
  · rename_i h_2
    simp only [hH, decide_eq_false_iff_not, Int.not_lt, Int.not_le] at h_2
    cbv
    exact fin (h := ⟨_, ⟨(by simp; omega), ⟨rfl, rfl⟩⟩⟩)
section
variable (n m dim : Int) (a b : Ix → Int) (f1 f2 : Bool)
theorem pall_tri (hn : 0 ≤ n ∧ n ≤ 1000000) (hm : 0 ≤ m ∧ m ≤ 1000000) : TriS Try.prog 163 [.l n [.i .u32 a] f1, .l m [.i .u32 b] f2, .fn (.func 164) []] [] (fun r σ => ∃ v : Bool, (v = true ↔ n = m ∧ ∀ j, 0 ≤ j → j < n → a [j] ≤ b [j]) ∧ r = .b v ∧ σ = []) := by
  refine tri_of TT_ok mixed (OR := ORD163) (fn := Try.f163) (c := body Try.f163) (by kernel_rfl) (by kernel_rfl) (by kernel_rfl) (by kernel_rfl) (by simp [Try.f163]) fun H Tri hH hTri => ?_
  cbv
  split
  · rename_i h_1
    simp only [hH, decide_eq_true_eq] at h_1
    cbv
    exact fin (h := ⟨_, ⟨(by simp; omega), ⟨rfl, rfl⟩⟩⟩)
  · rename_i h_2
    simp only [hH, decide_eq_false_iff_not, Int.not_lt, Int.not_le] at h_2
    cbv
    refine' ⟨0, Int, fun (i : Int) => ⟨[(14, V.i IntKind.i64 n), (0, V.l n [C.i IntKind.u32 a] f1), (1, V.l m [C.i IntKind.u32 b] f2), (2, V.fn (Fn.func 164) []), (15, .i .i64 i), (6, V.b false)], [], 100⟩, fun (i : Int) => (0 ≤ i ∧ i ≤ n) ∧ (∀ j, 0 ≤ j → j < i → a [j] ≤ b [j]), fun (i : Int) => (n - i).toNat, ⟨0, ⟨(by omega), (by omega)⟩, q3⟩, ?r_3⟩
    rintro i ⟨hi, hp⟩
    cbv
    split
    · rename_i h_4
      simp only [hH, decide_eq_true_eq] at h_4
      cbv
      generalize e_5 : H Int _ = v_6
      simp only [hH, zeroS] at e_5
      generalize e_7 : H Int _ = v_8
      simp only [hH, zeroS] at e_7
      generalize e_9 : (fun ix => b (i :: ix)) = c_10
      generalize e_11 : (fun ix => a (i :: ix)) = c_12
      refine ⟨by rw [hH]; simp; omega, ?_⟩
      cbv
      refine ⟨by rw [hH]; simp; omega, ?_⟩
      cbv
      generalize e_13 : H Bool _ = b_14
      simp only [hH] at e_13
      replace e_13 := boolN e_13
      refine cal [] (t := hTri _ _ _ _ (atmost_tri _ _)) (k := ?k_15)
      rintro r_16 σ_17 ⟨b_18, ⟨h_19, ⟨rfl, rfl⟩⟩⟩
      cbv
      rcases b_18 with _ | _
      · simp only [boolS] at h_19
        cbv
        exact fin (h := ⟨_, ⟨(by grind), ⟨rfl, rfl⟩⟩⟩)
      · simp only [boolS] at h_19
        cbv
        generalize e_20 : H Int _ = v_21
        simp only [hH, zeroS] at e_20
        replace e_20 := (IntWalk.i64_in _ (by omega)).symm.trans e_20
        exact rnd _ (h := ⟨⟨(by omega), (by omega)⟩, (by grind)⟩) (s := q3)
    · rename_i h_22
      simp only [hH, decide_eq_false_iff_not, Int.not_lt, Int.not_le] at h_22
      cbv
      exact fin (h := ⟨_, ⟨(by grind), ⟨rfl, rfl⟩⟩⟩)
theorem kcheck_tri (hn : 0 ≤ n ∧ n ≤ 1000000) : TriS Try.prog 162 [.l n [.i .u32 a] f1, .i .i64 dim] [] (fun r σ => ∃ v : Int, (v = 0 ↔ (1 ≤ dim ∧ dim ≤ 6) ∧ n = dim) ∧ r = .i .i64 v ∧ σ = []) := by
  refine tri_of TT_ok mixed (OR := ORD162) (fn := Try.f162) (c := body Try.f162) (by kernel_rfl) (by kernel_rfl) (by kernel_rfl) (by kernel_rfl) (by simp [Try.f162]) fun H Tri hH hTri => ?_
  cbv
  refine cal [] (t := hTri _ _ _ _ (isdim_tri _)) (k := ?k_1)
  rintro r_2 σ_3 ⟨b_4, ⟨h_5, ⟨rfl, rfl⟩⟩⟩
  cbv
  rcases b_4 with _ | _
  · simp only [boolS] at h_5
    cbv
    exact fin (h := ⟨_, ⟨(by omega), ⟨rfl, rfl⟩⟩⟩)
  · simp only [boolS] at h_5
    cbv
    split
    · rename_i h_6
      simp only [hH, decide_eq_true_eq] at h_6
      cbv
      exact fin (h := ⟨_, ⟨(by omega), ⟨rfl, rfl⟩⟩⟩)
    · rename_i h_7
      simp only [hH, decide_eq_false_iff_not, Int.not_lt, Int.not_le] at h_7
      cbv
      exact fin (h := ⟨_, ⟨(by omega), ⟨rfl, rfl⟩⟩⟩)
theorem rcheck_tri (hn : 0 ≤ n ∧ n ≤ 1000000) : TriS Try.prog 82 [.l n [.i .u32 a] f1, .i .i64 dim] [] (fun r σ => ∃ v : Int, (v = 0 ↔ (1 ≤ dim ∧ dim ≤ 6) ∧ n = dim) ∧ r = .i .i64 v ∧ σ = []) := by
  refine tri_of TT_ok mixed (OR := ORD82) (fn := Try.f82) (c := body Try.f82) (by kernel_rfl) (by kernel_rfl) (by kernel_rfl) (by kernel_rfl) (by simp [Try.f82]) fun H Tri hH hTri => ?_
  cbv
  split
  · rename_i h_1
    simp only [hH, decide_eq_true_eq] at h_1
    cbv
    exact fin (h := ⟨_, ⟨(by omega), ⟨rfl, rfl⟩⟩⟩)
  · rename_i h_2
    simp only [hH, decide_eq_false_iff_not, Int.not_lt, Int.not_le] at h_2
    cbv
    split
    · rename_i h_3
      simp only [hH, decide_eq_true_eq] at h_3
      cbv
      exact fin (h := ⟨_, ⟨(by omega), ⟨rfl, rfl⟩⟩⟩)
    · rename_i h_4
      simp only [hH, decide_eq_false_iff_not, Int.not_lt, Int.not_le] at h_4
      cbv
      split
      · rename_i h_5
        simp only [hH, decide_eq_true_eq] at h_5
        cbv
        exact fin (h := ⟨_, ⟨(by omega), ⟨rfl, rfl⟩⟩⟩)
      · rename_i h_6
        simp only [hH, decide_eq_false_iff_not, Int.not_lt, Int.not_le] at h_6
        cbv
        exact fin (h := ⟨_, ⟨(by omega), ⟨rfl, rfl⟩⟩⟩)
theorem kbox_tri (hn : 0 ≤ n ∧ n ≤ 1000000) (hm : 0 ≤ m ∧ m ≤ 1000000) : TriS Try.prog 149 [.ag [.l n [.i .u32 a] f1, .l m [.i .u32 b] f2], .i .i64 n] [] (fun r σ => ∃ v : Int, (v = 0 ↔ BoxOk n a m b) ∧ r = .i .i64 v ∧ σ = []) := by
  refine tri_of TT_ok mixed (OR := ORD149) (fn := Try.f149) (c := body Try.f149) (by kernel_rfl) (by kernel_rfl) (by kernel_rfl) (by kernel_rfl) (by simp [Try.f149]) fun H Tri hH hTri => ?_
  cbv
  refine cal [] (t := hTri _ _ _ _ (kcheck_tri _ _ _ _ (by assumption))) (k := ?k_1)
  rintro r_2 σ_3 ⟨v_4, ⟨h_5, ⟨rfl, rfl⟩⟩⟩
  cbv
  split
  · rename_i h_6
    simp only [hH, decide_eq_true_eq] at h_6
    cbv
    exact fin (h := ⟨_, ⟨(by ((refine ⟨fun h => absurd h (by omega), fun ⟨h1, h2, h3⟩ => ?_⟩; first | omega | exact ‹¬ (n = m ∧ _)› ⟨h2, h3⟩))), ⟨rfl, rfl⟩⟩⟩)
  · rename_i h_7
    simp only [hH, decide_eq_false_iff_not, Int.not_lt, Int.not_le] at h_7
    cbv
    generalize e_8 : H Bool _ = b_9
    simp only [hH] at e_8
    replace e_8 := boolN e_8
    refine cal [] (t := hTri _ _ _ _ (pall_tri _ _ _ _ _ _ (by assumption) (by assumption))) (k := ?k_10)
    rintro r_11 σ_12 ⟨b_13, ⟨h_14, ⟨rfl, rfl⟩⟩⟩
    cbv
    rcases b_13 with _ | _
    · simp only [boolS] at h_14
      cbv
      exact fin (h := ⟨_, ⟨(by (exact ⟨fun h => absurd h (by omega), fun h => absurd (And.intro h.2.1 h.2.2) ‹_›⟩)), ⟨rfl, rfl⟩⟩⟩)
    · simp only [boolS] at h_14
      cbv
      exact fin (h := ⟨_, ⟨(by ((refine ⟨fun _ => ⟨by omega, ?_⟩, fun _ => rfl⟩; first | assumption | exact ⟨by omega, fun j h0 h1 => hp j h0 (by omega)⟩))), ⟨rfl, rfl⟩⟩⟩)
theorem rcbox_tri (hn : 0 ≤ n ∧ n ≤ 1000000) (hm : 0 ≤ m ∧ m ≤ 1000000) : TriS Try.prog 54 [.ag [.l n [.i .u32 a] f1, .l m [.i .u32 b] f2], .i .i64 n] [] (fun r σ => ∃ v : Int, (v = 0 ↔ BoxOk n a m b) ∧ r = .i .i64 v ∧ σ = []) := by
  refine tri_of TT_ok mixed (OR := ORD54) (fn := Try.f54) (c := body Try.f54) (by kernel_rfl) (by kernel_rfl) (by kernel_rfl) (by kernel_rfl) (by simp [Try.f54]) fun H Tri hH hTri => ?_
  cbv
  refine cal [] (t := hTri _ _ _ _ (rcheck_tri _ _ _ _ (by assumption))) (k := ?k_1)
  rintro r_2 σ_3 ⟨v_4, ⟨h_5, ⟨rfl, rfl⟩⟩⟩
  cbv
  split
  · rename_i h_6
    simp only [hH, decide_eq_true_eq] at h_6
    cbv
    exact fin (h := ⟨_, ⟨(by ((refine ⟨fun h => absurd h (by omega), fun ⟨h1, h2, h3⟩ => ?_⟩; first | omega | exact ‹¬ (n = m ∧ _)› ⟨h2, h3⟩))), ⟨rfl, rfl⟩⟩⟩)
  · rename_i h_7
    simp only [hH, decide_eq_false_iff_not, Int.not_lt, Int.not_le] at h_7
    cbv
    generalize e_8 : H Bool _ = b_9
    simp only [hH] at e_8
    replace e_8 := boolN e_8
    refine cal [] (t := hTri _ _ _ _ (rcheck_tri _ _ _ _ (by assumption))) (k := ?k_10)
    rintro r_11 σ_12 ⟨v_13, ⟨h_14, ⟨rfl, rfl⟩⟩⟩
    cbv
    split
    · rename_i h_15
      simp only [hH, decide_eq_true_eq] at h_15
      cbv
      exact fin (h := ⟨_, ⟨(by ((refine ⟨fun h => absurd h (by omega), fun ⟨h1, h2, h3⟩ => ?_⟩; first | omega | exact ‹¬ (n = m ∧ _)› ⟨h2, h3⟩))), ⟨rfl, rfl⟩⟩⟩)
    · rename_i h_16
      simp only [hH, decide_eq_false_iff_not, Int.not_lt, Int.not_le] at h_16
      cbv
      refine' ⟨0, Int, fun (i : Int) => ⟨[(2, V.pt 100 0), (1, V.i IntKind.i64 n), (5, .i .i64 i), (4, V.i IntKind.i64 0)], [(100, O.st [V.l n [C.i IntKind.u32 a] f1, V.l m [C.i IntKind.u32 b] f2] 43)], 141⟩, fun (i : Int) => (0 ≤ i ∧ i ≤ n) ∧ (n = m) ∧ (∀ j, 0 ≤ j → j < i → a [j] ≤ b [j]), fun (i : Int) => (n - i).toNat, ⟨0, ⟨(by omega), (by omega), (by omega)⟩, q3⟩, ?r_17⟩
      rintro i ⟨hi, hnm, hp⟩
      cbv
      split
      · rename_i h_18
        simp only [hH, decide_eq_true_eq] at h_18
        cbv
        generalize e_19 : H Int _ = v_20
        simp only [hH, zeroS] at e_19
        generalize e_21 : H Int _ = v_22
        simp only [hH, zeroS] at e_21
        generalize e_23 : (fun ix => b (i :: ix)) = c_24
        generalize e_25 : (fun ix => a (i :: ix)) = c_26
        refine ⟨by rw [hH]; simp; omega, ?_⟩
        cbv
        refine ⟨by rw [hH]; simp; omega, ?_⟩
        cbv
        split
        · rename_i h_27
          simp only [hH, decide_eq_true_eq] at h_27
          cbv
          exact fin (h := ⟨_, ⟨(by (exact ⟨fun h => absurd h (by omega), fun h => absurd h (box_no hi.1 (by omega) ‹_› ‹_› (by omega))⟩)), ⟨rfl, rfl⟩⟩⟩)
        · rename_i h_28
          simp only [hH, decide_eq_false_iff_not, Int.not_lt, Int.not_le] at h_28
          cbv
          generalize e_29 : H Int _ = v_30
          simp only [hH, zeroS] at e_29
          replace e_29 := (IntWalk.i64_in _ (by omega)).symm.trans e_29
          exact rnd _ (h := ⟨⟨(by omega), (by omega)⟩, ⟨(by assumption), (by grind)⟩⟩) (s := q3)
      · rename_i h_31
        simp only [hH, decide_eq_false_iff_not, Int.not_lt, Int.not_le] at h_31
        cbv
        exact fin (h := ⟨_, ⟨(by ((refine ⟨fun _ => ⟨by omega, ?_⟩, fun _ => rfl⟩; first | assumption | exact ⟨by omega, fun j h0 h1 => hp j h0 (by omega)⟩))), ⟨rfl, rfl⟩⟩⟩)
end
/-- the two halves of a box -/
def halfS (a n : Nat) (m : Int) (x0 y0 x1 y1 : Ix → Int) : Sto := [(a, .ar m [.i .u32 x0] 77), (a + 1, .ar m [.i .u32 y0] 77), (n, .ar m [.i .u32 x1] 77), (n + 1, .ar m [.i .u32 y1] 77)]
/-- what they are -/
structure Half (n : Int) (a1 a2 : Ix → Int) (t : Int) (x0 y0 x1 y1 : Ix → Int) : Prop where
  x0 : ∀ j, 0 ≤ j → j < n → x0 [j] = a1 [j]
  y0 : ∀ j, 0 ≤ j → j < n → y0 [j] = if j = t then midK a1 a2 t else a2 [j]
  x1 : ∀ j, 0 ≤ j → j < n → x1 [j] = if j = t then midK a1 a2 t + 1 else a1 [j]
  y1 : ∀ j, 0 ≤ j → j < n → y1 [j] = a2 [j]
theorem half_of {n t v v' : Int} {a b x0 y x y1 x1 y0 : Ix → Int} (hg1 : (fun ix => bif decide (AM.hd ix = t) then v' else x ix) = x1) (hg0 : (fun ix => bif decide (AM.hd ix = t) then v else y ix) = y0) (hv : v = midK a b t) (hv' : v + 1 = v') (hx0 : ∀ j, 0 ≤ j → j < n → x0 [j] = a [j]) (hy : ∀ j, 0 ≤ j → j < n → y [j] = b [j]) (hx : ∀ j, 0 ≤ j → j < n → x [j] = a [j]) (hy1 : ∀ j, 0 ≤ j → j < n → y1 [j] = b [j]) : Half n a b t x0 y0 x1 y1 := by
  subst hg1 hg0 hv' hv
  refine ⟨hx0, fun j h0 h1 => ?_, fun j h0 h1 => ?_, hy1⟩
  · by_cases e : j = t
    · simp [AM.hd, e]
    · simp [AM.hd, e, hy j h0 h1]
  · by_cases e : j = t
    · simp [AM.hd, e]
    · simp [AM.hd, e, hx j h0 h1]
section
variable (n m t : Int) (a b : Ix → Int) (f1 f2 : Bool)
theorem phas_tri (hn : 0 ≤ n ∧ n ≤ 1000000) (hm : 0 ≤ m ∧ m ≤ 1000000) : TriS Try.prog 119 [.ag [.l n [.i .u32 a] f1, .l m [.i .u32 b] f2], .i .i64 t] [] (fun r σ => ∃ v : Bool, (v = true ↔ (0 ≤ t ∧ t < n) ∧ BoxOk n a m b) ∧ r = .b v ∧ σ = []) := by
  refine tri_of TT_ok mixed (OR := ORD119) (fn := Try.f119) (c := body Try.f119) (by kernel_rfl) (by kernel_rfl) (by kernel_rfl) (by kernel_rfl) (by simp [Try.f119]) fun H Tri hH hTri => ?_
  cbv
  split
  · rename_i h_1
    simp only [hH, decide_eq_true_eq] at h_1
    cbv
    split
    · rename_i h_2
      simp only [hH, decide_eq_true_eq] at h_2
      cbv
      generalize e_3 : H Bool _ = b_4
      simp only [hH] at e_3
      replace e_3 := boolN e_3
      generalize e_5 : H Bool _ = b_6
      simp only [hH] at e_5
      replace e_5 := boolN e_5
      refine cal [] (t := hTri _ _ _ _ (kbox_tri _ _ _ _ _ _ (by assumption) (by assumption))) (k := ?k_7)
      rintro r_8 σ_9 ⟨v_10, ⟨h_11, ⟨rfl, rfl⟩⟩⟩
      cbv
      exact fin (h := ⟨_, ⟨(by simp_all; done), ⟨rfl, rfl⟩⟩⟩)
    · rename_i h_12
      simp only [hH, decide_eq_false_iff_not, Int.not_lt, Int.not_le] at h_12
      cbv
      exact fin (h := ⟨_, ⟨(by simp; omega), ⟨rfl, rfl⟩⟩⟩)
  · rename_i h_13
    simp only [hH, decide_eq_false_iff_not, Int.not_lt, Int.not_le] at h_13
    cbv
    exact fin (h := ⟨_, ⟨(by simp; omega), ⟨rfl, rfl⟩⟩⟩)
theorem phas_ok (hn : 0 ≤ n ∧ n ≤ 1000000) (hm : 0 ≤ m ∧ m ≤ 1000000) (h : (0 ≤ t ∧ t < n) ∧ BoxOk n a m b) : TriS Try.prog 119 [.ag [.l n [.i .u32 a] f1, .l m [.i .u32 b] f2], .i .i64 t] [] (fun r σ => r = .b true ∧ σ = []) :=
  (phas_tri n m t a b f1 f2 hn hm).mono' fun r σ ⟨v, h1, h2, h3⟩ => ⟨by rw [h2, h1.2 h], h3⟩
theorem phas_bad (hn : 0 ≤ n ∧ n ≤ 1000000) (hm : 0 ≤ m ∧ m ≤ 1000000) (h : ¬ ((0 ≤ t ∧ t < n) ∧ BoxOk n a m b)) : TriS Try.prog 119 [.ag [.l n [.i .u32 a] f1, .l m [.i .u32 b] f2], .i .i64 t] [] (fun r σ => r = .b false ∧ σ = []) :=
  (phas_tri n m t a b f1 f2 hn hm).mono' fun r σ ⟨v, h1, h2, h3⟩ => ⟨by rw [h2, Bool.eq_false_iff.2 fun q => h (h1.1 q)], h3⟩
theorem middle_ok (hw : Wide n a m b t) (h1 : U32 n a) (h2 : U32 m b) : TriS Try.prog 79 [.ag [.l n [.i .u32 a] f1, .l m [.i .u32 b] f2], .i .i64 t] [] (fun r σ => ∃ (v : Int) (q : Bool), v = midK a b t ∧ q = true ∧ r = .tu [.i .u32 v, .b q] ∧ σ = []) := by
  have hB := hw.1
  obtain ⟨⟨hn, rfl, hle⟩, ht, hlt⟩ := hw
  have ha := h1 t ht.1 ht.2
  have hb := h2 t ht.1 ht.2
  refine tri_of TT_ok mixed (OR := ORD79) (fn := Try.f79) (c := body Try.f79) (by kernel_rfl) (by kernel_rfl) (by kernel_rfl) (by kernel_rfl) (by simp [Try.f79]) fun H Tri hH hTri => ?_
  cbv
  refine cal [] (t := hTri _ _ _ _ (phas_ok _ _ _ _ _ _ _ (by omega) (by omega) (by exact ⟨by omega, by omega⟩))) (k := ?k_1)
  rintro r_2 σ_3 ⟨rfl, rfl⟩
  cbv
  generalize e_4 : H Int _ = v_5
  simp only [hH, zeroS] at e_4
  rw [IntWalk.u32_in (b [t] - a [t]) (by omega)] at e_4
  rw [IntWalk.u32_in ((b [t] - a [t]).tdiv 2) (by ((rw [Int.tdiv_eq_ediv_of_nonneg (by omega)]; omega)))] at e_4
  rw [IntWalk.u32_in (a [t] + (b [t] - a [t]).tdiv 2) (by ((rw [Int.tdiv_eq_ediv_of_nonneg (by omega)]; omega)))] at e_4
  generalize e_6 : H Int _ = v_7
  simp only [hH, zeroS] at e_6
  generalize e_8 : H Int _ = v_9
  simp only [hH, zeroS] at e_8
  generalize e_10 : H Int _ = v_11
  simp only [hH, zeroS] at e_10
  rw [IntWalk.u32_in (v_9 - v_7) (by omega)] at e_10
  rw [IntWalk.u32_in ((v_9 - v_7).tdiv 2) (by ((rw [Int.tdiv_eq_ediv_of_nonneg (by omega)]; omega)))] at e_10
  generalize e_12 : H Int _ = v_13
  simp only [hH, zeroS] at e_12
  replace e_12 := (IntWalk.u32_in _ (by omega)).symm.trans e_12
  generalize e_14 : (fun ix => b (t :: ix)) = c_15
  generalize e_16 : (fun ix => a (t :: ix)) = c_17
  refine ⟨by rw [hH]; simp; omega, ?_⟩
  cbv
  refine ⟨by rw [hH]; simp; omega, ?_⟩
  cbv
  refine ⟨?q_18, ?_⟩
  case q_18 => simp_all; done
  cbv
  refine ⟨by rw [hH]; simp, ?_⟩
  cbv
  exact fin (h := ⟨_, ⟨_, ⟨(by ((unfold midK; rw [Int.tdiv_eq_ediv_of_nonneg (by omega)] at *; omega))), ⟨(by simp_all; done), ⟨rfl, rfl⟩⟩⟩⟩⟩)
theorem middle_bad (hn : 0 ≤ n ∧ n ≤ 1000000) (hm : 0 ≤ m ∧ m ≤ 1000000) (hw : ¬ Wide n a m b t) : TriS Try.prog 79 [.ag [.l n [.i .u32 a] f1, .l m [.i .u32 b] f2], .i .i64 t] [] (fun r σ => ∃ (v : Int) (q : Bool), q = false ∧ r = .tu [.i .u32 v, .b q] ∧ σ = []) := by
  by_cases hB : (0 ≤ t ∧ t < n) ∧ BoxOk n a m b
  · have hge : ¬ a [t] < b [t] := fun h => hw ⟨hB.2, hB.1, h⟩
    have hB2 := hB
    obtain ⟨ht, hd, rfl, hle⟩ := hB
    refine tri_of TT_ok mixed (OR := ORD79) (fn := Try.f79) (c := body Try.f79) (by kernel_rfl) (by kernel_rfl) (by kernel_rfl) (by kernel_rfl) (by simp [Try.f79]) fun H Tri hH hTri => ?_
    cbv
    refine cal [] (t := hTri _ _ _ _ (phas_ok _ _ _ _ _ _ _ (by assumption) (by assumption) (by assumption))) (k := ?k_1)
    rintro r_2 σ_3 ⟨rfl, rfl⟩
    cbv
    generalize e_4 : H Int _ = v_5
    simp only [hH, zeroS] at e_4
    generalize e_6 : H Int _ = v_7
    simp only [hH, zeroS] at e_6
    generalize e_8 : H Int _ = v_9
    simp only [hH, zeroS] at e_8
    generalize e_10 : H Int _ = v_11
    simp only [hH, zeroS] at e_10
    generalize e_12 : H Int _ = v_13
    simp only [hH, zeroS] at e_12
    generalize e_14 : (fun ix => b (t :: ix)) = c_15
    generalize e_16 : (fun ix => a (t :: ix)) = c_17
    refine ⟨by rw [hH]; simp; omega, ?_⟩
    cbv
    refine ⟨by rw [hH]; simp; omega, ?_⟩
    cbv
    refine ⟨?q_18, ?_⟩
    case q_18 => simp_all; done
    cbv
    refine ⟨by rw [hH]; simp, ?_⟩
    cbv
    exact fin (h := ⟨_, ⟨_, ⟨(by simp_all; done), ⟨rfl, rfl⟩⟩⟩⟩)
  · refine tri_of TT_ok mixed (OR := ORD79) (fn := Try.f79) (c := body Try.f79) (by kernel_rfl) (by kernel_rfl) (by kernel_rfl) (by kernel_rfl) (by simp [Try.f79]) fun H Tri hH hTri => ?_
    cbv
    refine cal [] (t := hTri _ _ _ _ (phas_bad _ _ _ _ _ _ _ (by assumption) (by assumption) (by assumption))) (k := ?k_19)
    rintro r_20 σ_21 ⟨rfl, rfl⟩
    cbv
    exact fin (h := ⟨_, ⟨_, ⟨(by rfl), ⟨rfl, rfl⟩⟩⟩⟩)
theorem halves_ok (hw : Wide n a m b t) (h1 : U32 n a) (h2 : U32 m b) : TriS Try.prog 50 [.ag [.l n [.i .u32 a] f1, .l m [.i .u32 b] f2], .i .i64 t] []
    (fun r σ => ∃ x0 y0 x1 y1 : Ix → Int, Half n a b t x0 y0 x1 y1 ∧ r = .tu [.ag [.sl 100 0 n 1 false, .sl 101 0 n 1 false], .ag [.sl 102 0 n 1 false, .sl 103 0 n 1 false], .b true] ∧ σ = halfS 100 102 n x0 y0 x1 y1) := by
  have hW := hw
  obtain ⟨⟨hn, rfl, hle⟩, ht, hlt⟩ := hw
  have hmid := midK_bd h1 h2 ht.1 ht.2 hlt
  have ha := h1 t ht.1 ht.2
  have hb := h2 t ht.1 ht.2
  refine tri_of TT_ok mixed (OR := ORD50) (fn := Try.f50) (c := body Try.f50) (by kernel_rfl) (by kernel_rfl) (by kernel_rfl) (by kernel_rfl) (by simp [Try.f50]) fun H Tri hH hTri => ?_
  cbv
  refine cal [] (t := hTri _ _ _ _ (middle_ok _ _ _ _ _ _ _ (by assumption) (by assumption) (by assumption))) (k := ?k_1)
  rintro r_2 σ_3 ⟨v_4, ⟨b_5, ⟨h_6, ⟨h_7, ⟨rfl, rfl⟩⟩⟩⟩⟩
  cbv
  rcases b_5 with _ | _
  · simp only [boolS] at h_7
  · simp only [boolS] at h_7
    cbv
    refine cal [] (t := hTri _ _ _ _ (kclone_tri _ _ _ (by omega))) (k := ?k_8)
    rintro r_9 σ_10 ⟨x_11, ⟨h_12, ⟨rfl, rfl⟩⟩⟩
    cbv
    refine cal [] (t := hTri _ _ _ _ (kclone_tri _ _ _ (by omega))) (k := ?k_13)
    rintro r_14 σ_15 ⟨x_16, ⟨h_17, ⟨rfl, rfl⟩⟩⟩
    cbv
    refine cal [] (t := hTri _ _ _ _ (kclone_tri _ _ _ (by omega))) (k := ?k_18)
    rintro r_19 σ_20 ⟨x_21, ⟨h_22, ⟨rfl, rfl⟩⟩⟩
    cbv
    refine cal [] (t := hTri _ _ _ _ (kclone_tri _ _ _ (by omega))) (k := ?k_23)
    rintro r_24 σ_25 ⟨x_26, ⟨h_27, ⟨rfl, rfl⟩⟩⟩
    cbv
    generalize e_28 : H Int _ = v_29
    simp only [hH, zeroS] at e_28
    subst e_28
    generalize e_30 : H Int _ = v_31
    simp only [hH, zeroS] at e_30
    replace e_30 := (IntWalk.u32_in _ (by omega)).symm.trans e_30
    generalize e_32 : (fun ix => bif decide (hd ix = t) then v_31 else x_21 ix) = c_33
    generalize e_34 : (fun ix => bif decide (hd ix = t) then v_4 else x_16 ix) = c_35
    refine ⟨by rw [hH]; simp; omega, ?_⟩
    cbv
    refine ⟨by rw [hH]; simp; omega, ?_⟩
    cbv
    exact fin (h := ⟨_, ⟨_, ⟨_, ⟨_, ⟨(by (exact half_of ‹_› ‹_› ‹_› ‹_› ‹_› ‹_› ‹_› ‹_›)), ⟨rfl, rfl⟩⟩⟩⟩⟩⟩)
theorem halves_bad (hn : 0 ≤ n ∧ n ≤ 1000000) (hm : 0 ≤ m ∧ m ≤ 1000000) (hw : ¬ Wide n a m b t) : TriS Try.prog 50 [.ag [.l n [.i .u32 a] f1, .l m [.i .u32 b] f2], .i .i64 t] []
    (fun r σ => r = .tu [.ag [.l 0 [] true, .l 0 [] true], .ag [.l 0 [] true, .l 0 [] true], .b false] ∧ σ = []) := by
  refine tri_of TT_ok mixed (OR := ORD50) (fn := Try.f50) (c := body Try.f50) (by kernel_rfl) (by kernel_rfl) (by kernel_rfl) (by kernel_rfl) (by simp [Try.f50]) fun H Tri hH hTri => ?_
  cbv
  refine cal [] (t := hTri _ _ _ _ (middle_bad _ _ _ _ _ _ _ (by assumption) (by assumption) (by assumption))) (k := ?k_1)
  rintro r_2 σ_3 ⟨v_4, ⟨b_5, ⟨h_6, ⟨rfl, rfl⟩⟩⟩⟩
  cbv
  rcases b_5 with _ | _
  · simp only [boolS] at h_6
    cbv
    exact fin (h := ⟨rfl, rfl⟩)
  · simp only [boolS] at h_6
theorem rcbox_ok (hn : 0 ≤ n ∧ n ≤ 1000000) (hm : 0 ≤ m ∧ m ≤ 1000000) (h : BoxOk n a m b) : TriS Try.prog 54 [.ag [.l n [.i .u32 a] f1, .l m [.i .u32 b] f2], .i .i64 n] [] (fun r σ => r = .i .i64 0 ∧ σ = []) :=
  (rcbox_tri n m a b f1 f2 hn hm).mono' fun r σ ⟨v, h1, h2, h3⟩ => ⟨by rw [h2, h1.2 h], h3⟩
theorem rcbox_bad (hn : 0 ≤ n ∧ n ≤ 1000000) (hm : 0 ≤ m ∧ m ≤ 1000000) (h : ¬ BoxOk n a m b) : TriS Try.prog 54 [.ag [.l n [.i .u32 a] f1, .l m [.i .u32 b] f2], .i .i64 n] [] (fun r σ => ∃ v : Int, v ≠ 0 ∧ r = .i .i64 v ∧ σ = []) :=
  (rcbox_tri n m a b f1 f2 hn hm).mono' fun r σ ⟨v, h1, h2, h3⟩ => ⟨v, fun e => h (h1.1 e), h2, h3⟩
theorem rhalves_ok (hw : Wide n a m b t) (h1 : U32 n a) (h2 : U32 m b) : TriS Try.prog 23 [.ag [.l n [.i .u32 a] f1, .l m [.i .u32 b] f2], .i .i64 t] []
    (fun r σ => ∃ x0 y0 x1 y1 : Ix → Int, Half n a b t x0 y0 x1 y1 ∧ r = .tu [.ag [.sl 100 0 n 1 false, .sl 101 0 n 1 false], .ag [.sl 102 0 n 1 false, .sl 103 0 n 1 false], .b true] ∧ σ = halfS 100 102 n x0 y0 x1 y1) := by
  have hW := hw
  obtain ⟨⟨hn, rfl, hle⟩, ht, hlt⟩ := hw
  have hmid := midK_bd h1 h2 ht.1 ht.2 hlt
  have ha := h1 t ht.1 ht.2
  have hb := h2 t ht.1 ht.2
  refine tri_of TT_ok mixed (OR := ORD23) (fn := Try.f23) (c := body Try.f23) (by kernel_rfl) (by kernel_rfl) (by kernel_rfl) (by kernel_rfl) (by simp [Try.f23]) fun H Tri hH hTri => ?_
  cbv
  refine cal [] (t := hTri _ _ _ _ (rcbox_ok _ _ _ _ _ _ (by omega) (by omega) (by (repeat' apply And.intro) <;> omega))) (k := ?k_1)
  rintro r_2 σ_3 ⟨rfl, rfl⟩
  cbv
  split
  case h_1 => rename_i hh; exact absurd hh (by rw [hH]; simp; try omega)
  cbv
  split
  case h_1 => rename_i hh; exact absurd hh (by rw [hH]; simp; omega)
  cbv
  split
  case h_1 => rename_i hh; exact absurd hh (by rw [hH]; simp; omega)
  cbv
  generalize e_4 : H Int _ = v_5
  simp only [hH, zeroS] at e_4
  generalize e_6 : H Int _ = v_7
  simp only [hH, zeroS] at e_6
  generalize e_8 : (fun ix => b (t :: ix)) = c_9
  generalize e_10 : (fun ix => a (t :: ix)) = c_11
  refine ⟨by rw [hH]; simp; omega, ?_⟩
  cbv
  refine ⟨by rw [hH]; simp; omega, ?_⟩
  cbv
  split
  case h_1 => rename_i hh; exact absurd hh (by rw [hH]; simp; omega)
  cbv
  generalize e_12 : H Int _ = v_13
  simp only [hH, zeroS] at e_12
  rw [e_4] at e_12
  rw [e_6] at e_12
  rw [IntWalk.u32_in (v_7 - v_5) (by omega)] at e_12
  rw [IntWalk.u32_in ((v_7 - v_5).tdiv 2) (by ((rw [Int.tdiv_eq_ediv_of_nonneg (by omega)]; omega)))] at e_12
  rw [IntWalk.u32_in (v_5 + (v_7 - v_5).tdiv 2) (by ((rw [Int.tdiv_eq_ediv_of_nonneg (by omega)]; omega)))] at e_12
  generalize e_14 : H Int _ = v_15
  simp only [hH, zeroS] at e_14
  rw [e_4] at e_14
  rw [e_6] at e_14
  rw [IntWalk.u32_in (v_7 - v_5) (by omega)] at e_14
  rw [IntWalk.u32_in ((v_7 - v_5).tdiv 2) (by ((rw [Int.tdiv_eq_ediv_of_nonneg (by omega)]; omega)))] at e_14
  generalize e_16 : H Int _ = v_17
  simp only [hH, zeroS] at e_16
  rw [e_4] at e_16
  rw [e_6] at e_16
  replace e_16 := (IntWalk.u32_in _ (by omega)).symm.trans e_16
  generalize e_18 : H Int _ = v_19
  simp only [hH, zeroS] at e_18
  obtain rfl := Eq.trans (Eq.symm e_4) e_18
  generalize e_20 : H Int _ = v_21
  simp only [hH, zeroS] at e_20
  obtain rfl := Eq.trans (Eq.symm e_6) e_20
  generalize e_22 : (fun ix => a (t :: ix)) = c_23
  generalize e_24 : (fun ix => b (t :: ix)) = c_25
  refine ⟨by rw [hH]; simp; omega, ?_⟩
  cbv
  refine ⟨by rw [hH]; simp; omega, ?_⟩
  cbv
  refine ⟨by rw [hH]; simp; omega, ?_⟩
  cbv
  refine ⟨by rw [hH]; simp, ?_⟩
  cbv
  generalize e_26 : H Bool _ = b_27
  simp only [hH] at e_26
  replace e_26 := boolN e_26
  generalize e_28 : H Bool _ = b_29
  simp only [hH] at e_28
  replace e_28 := boolN e_28
  generalize e_30 : H Bool _ = b_31
  simp only [hH] at e_30
  replace e_30 := boolN e_30
  generalize e_32 : H Bool _ = b_33
  simp only [hH] at e_32
  replace e_32 := boolN e_32
  obtain rfl : b_33 = false := Bool.eq_false_iff.2 fun q => absurd (e_32.1 q) (by decide)
  refine cal [] (t := hTri _ _ _ _ (copy_tri _ _ _ (by omega))) (k := ?k_34)
  rintro r_35 σ_36 ⟨x_37, ⟨h_38, ⟨rfl, rfl⟩⟩⟩
  cbv
  refine cal [] (t := hTri _ _ _ _ (copy_tri _ _ _ (by omega))) (k := ?k_39)
  rintro r_40 σ_41 ⟨x_42, ⟨h_43, ⟨rfl, rfl⟩⟩⟩
  cbv
  refine cal [] (t := hTri _ _ _ _ (copy_tri _ _ _ (by omega))) (k := ?k_44)
  rintro r_45 σ_46 ⟨x_47, ⟨h_48, ⟨rfl, rfl⟩⟩⟩
  cbv
  refine cal [] (t := hTri _ _ _ _ (copy_tri _ _ _ (by omega))) (k := ?k_49)
  rintro r_50 σ_51 ⟨x_52, ⟨h_53, ⟨rfl, rfl⟩⟩⟩
  cbv
  generalize e_54 : H Int _ = v_55
  simp only [hH, zeroS] at e_54
  subst e_54
  generalize e_56 : H Int _ = v_57
  simp only [hH, zeroS] at e_56
  replace e_56 := (IntWalk.u32_in _ (by ((have h9 := ‹_ + Int.tdiv _ 2 = _›; rw [Int.tdiv_eq_ediv_of_nonneg (by omega)] at h9; omega)))).symm.trans e_56
  generalize e_58 : (fun ix => bif decide (hd ix = t) then v_57 else x_47 ix) = c_59
  generalize e_60 : (fun ix => bif decide (hd ix = t) then v_13 else x_42 ix) = c_61
  refine ⟨by rw [hH]; simp; omega, ?_⟩
  cbv
  refine ⟨by rw [hH]; simp; omega, ?_⟩
  cbv
  exact fin (h := ⟨_, ⟨_, ⟨_, ⟨_, ⟨(by (exact half_of ‹_› ‹_› (by unfold midK; have h9 := ‹_ + Int.tdiv _ 2 = _›; rw [Int.tdiv_eq_ediv_of_nonneg (by omega)] at h9; omega) (by omega) ‹_› ‹_› ‹_› ‹_›)), ⟨rfl, rfl⟩⟩⟩⟩⟩⟩)
theorem rhalves_bad (hn : 0 ≤ n ∧ n ≤ 1000000) (hm : 0 ≤ m ∧ m ≤ 1000000) (hw : ¬ Wide n a m b t) : TriS Try.prog 23 [.ag [.l n [.i .u32 a] f1, .l m [.i .u32 b] f2], .i .i64 t] []
    (fun r σ => r = .tu [.ag [.l 0 [] true, .l 0 [] true], .ag [.l 0 [] true, .l 0 [] true], .b false] ∧ σ = []) := by
  by_cases hB : BoxOk n a m b
  · have hB2 := hB
    have hge : 0 ≤ t → t < n → a [t] = b [t] := fun h0 h1 => by
      have := hB.2.2 t h0 h1
      by_cases e : a [t] = b [t]
      · exact e
      · exact absurd ⟨hB, ⟨h0, h1⟩, by omega⟩ hw
    obtain ⟨hd, rfl, hle⟩ := hB
    refine tri_of TT_ok mixed (OR := ORD23) (fn := Try.f23) (c := body Try.f23) (by kernel_rfl) (by kernel_rfl) (by kernel_rfl) (by kernel_rfl) (by simp [Try.f23]) fun H Tri hH hTri => ?_
    cbv
    refine cal [] (t := hTri _ _ _ _ (rcbox_ok _ _ _ _ _ _ (by assumption) (by assumption) (by assumption))) (k := ?k_1)
    rintro r_2 σ_3 ⟨rfl, rfl⟩
    cbv
    split
    case h_1 => rename_i hh; exact absurd hh (by rw [hH]; simp; try omega)
    cbv
    split
    · rename_i h_4
      simp only [hH, decide_eq_true_eq] at h_4
      cbv
      exact fin (h := ⟨rfl, rfl⟩)
    · rename_i h_5
      simp only [hH, decide_eq_false_iff_not, Int.not_lt, Int.not_le] at h_5
      cbv
      split
      · rename_i h_6
        simp only [hH, decide_eq_true_eq] at h_6
        cbv
        exact fin (h := ⟨rfl, rfl⟩)
      · rename_i h_7
        simp only [hH, decide_eq_false_iff_not, Int.not_lt, Int.not_le] at h_7
        cbv
        generalize e_8 : H Int _ = v_9
        simp only [hH, zeroS] at e_8
        generalize e_10 : H Int _ = v_11
        simp only [hH, zeroS] at e_10
        generalize e_12 : (fun ix => b (t :: ix)) = c_13
        generalize e_14 : (fun ix => a (t :: ix)) = c_15
        refine ⟨by rw [hH]; simp; omega, ?_⟩
        cbv
        refine ⟨by rw [hH]; simp; omega, ?_⟩
        cbv
        split
        case h_2 => rename_i hh; exact absurd hh (by rw [hH]; simp; omega)
        cbv
        exact fin (h := ⟨rfl, rfl⟩)
  · refine tri_of TT_ok mixed (OR := ORD23) (fn := Try.f23) (c := body Try.f23) (by kernel_rfl) (by kernel_rfl) (by kernel_rfl) (by kernel_rfl) (by simp [Try.f23]) fun H Tri hH hTri => ?_
    cbv
    refine cal [] (t := hTri _ _ _ _ (rcbox_bad _ _ _ _ _ _ (by assumption) (by assumption) (by assumption))) (k := ?k_16)
    rintro r_17 σ_18 ⟨v_19, ⟨h_20, ⟨rfl, rfl⟩⟩⟩
    cbv
    split
    case h_2 => rename_i hh; exact absurd hh (by rw [hH]; simp; omega)
    cbv
    exact fin (h := ⟨rfl, rfl⟩)
end
end Go.Proofs.Ytilmhjojbolbeaa.AM

namespace Go.Proofs.Ytilmhjojbolbeaa.AM
open Go
set_option maxRecDepth 100000
set_option maxHeartbeats 4000000
/-- P14.3: the boxes are the lower and the upper half of one -/
structure Join (n1 : Int) (a1 : Ix → Int) (n2 : Int) (a2 : Ix → Int) (m1 : Int) (b1 : Ix → Int) (m2 : Int) (b2 : Ix → Int) (t : Int) : Prop where
  wide : Wide n1 a1 m2 b2 t
  l1 : n1 = n2
  l2 : n1 = m1
  lo : ∀ j, 0 ≤ j → j < n1 → a2 [j] = if j = t then midK a1 b2 t else b2 [j]
  up : ∀ j, 0 ≤ j → j < n1 → b1 [j] = if j = t then midK a1 b2 t + 1 else a1 [j]
theorem three {i : Int} (h : 0 ≤ i ∧ i ≤ 2) : 0 = i ∨ 1 = i ∨ 2 = i := by omega
theorem Wide.congr {n1 n2 t : Int} {a1 a2 c1 c2 : Ix → Int} (h : Wide n1 a1 n2 a2 t) (h1 : ∀ j, 0 ≤ j → j < n1 → c1 [j] = a1 [j]) (h2 : ∀ j, 0 ≤ j → j < n2 → c2 [j] = a2 [j]) : Wide n1 c1 n2 c2 t := by
  obtain ⟨⟨hn, he, hle⟩, ht, hlt⟩ := h
  refine ⟨⟨hn, he, fun j h0 h3 => ?_⟩, ht, ?_⟩
  · rw [h1 j h0 h3, h2 j h0 (by omega)]; exact hle j h0 h3
  · rw [h1 t ht.1 ht.2, h2 t ht.1 (by omega)]; exact hlt
theorem U32.congr {n : Int} {a c : Ix → Int} (h : U32 n a) (hc : ∀ j, 0 ≤ j → j < n → c [j] = a [j]) : U32 n c := fun j h0 h1 => by rw [hc j h0 h1]; exact h j h0 h1
theorem frc {n : Int} {a c : Ix → Int} (hc : ∀ j, 0 ≤ j → j < n → c [j] = a [j]) : ∀ j, 0 ≤ j → j < n → (fun ix => c ((AM.hd ix + 0) :: ix.tail)) [j] = a [j] := fun j h0 h1 => by simp only [AM.hd, Int.add_zero, List.tail_cons]; exact hc j h0 h1
theorem no_next {n1 n2 m1 m2 t t' : Int} {a1 a2 b1 b2 : Ix → Int} (hp : ∀ q, 0 ≤ q → q < t → ¬ Join n1 a1 n2 a2 m1 b1 m2 b2 q ∧ ¬ Join m1 b1 m2 b2 n1 a1 n2 a2 q) (ht : t + 1 = t') (h1 : ¬ Join n1 a1 n2 a2 m1 b1 m2 b2 t) (h2 : ¬ Join m1 b1 m2 b2 n1 a1 n2 a2 t) : ∀ q, 0 ≤ q → q < t' → ¬ Join n1 a1 n2 a2 m1 b1 m2 b2 q ∧ ¬ Join m1 b1 m2 b2 n1 a1 n2 a2 q := fun q h0 h3 => by
  by_cases e : q = t
  · subst e; exact ⟨h1, h2⟩
  · exact hp q h0 (by omega)
theorem midK_congr {t n m : Int} {a1 a2 c1 c2 : Ix → Int} (h0 : 0 ≤ t) (ht : t < n) (hm : t < m) (h1 : ∀ j, 0 ≤ j → j < n → c1 [j] = a1 [j]) (h2 : ∀ j, 0 ≤ j → j < m → c2 [j] = a2 [j]) : midK c1 c2 t = midK a1 a2 t := by
  rw [midK, midK, h1 t h0 ht, h2 t h0 hm]
section
variable {n1 n2 m1 m2 t : Int} {a1 a2 b1 b2 c1 c2 x0 y0 x1 y1 : Ix → Int}
abbrev fr0 (c : Ix → Int) : Ix → Int := fun ix => c ((AM.hd ix + 0) :: ix.tail)
theorem EqK.fr {n m : Int} {x a : Ix → Int} : EqK n (fr0 x) m a ↔ EqK n x m a := by
  have : ∀ j : Int, fr0 x [j] = x [j] := fun j => by simp [fr0, AM.hd]
  simp only [EqK, this]
theorem join_yes (hw : Wide n1 c1 m2 c2 t) (hh : Half n1 c1 c2 t x0 y0 x1 y1) (h1 : ∀ j, 0 ≤ j → j < n1 → c1 [j] = a1 [j]) (h2 : ∀ j, 0 ≤ j → j < m2 → c2 [j] = b2 [j]) (e1 : EqK n1 (fr0 x0) n1 a1 ∧ EqK n1 (fr0 y0) n2 a2) (e2 : EqK n1 (fr0 x1) m1 b1 ∧ EqK n1 (fr0 y1) m2 b2) : Join n1 a1 n2 a2 m1 b1 m2 b2 t := by
  rw [EqK.fr, EqK.fr] at e1 e2
  have hw' := hw
  obtain ⟨⟨hn, he, hle⟩, ht, hlt⟩ := hw'
  have em := midK_congr ht.1 ht.2 (show t < m2 by omega) h1 h2
  refine ⟨hw.congr (fun j h0 h3 => (h1 j h0 h3).symm) (fun j h0 h3 => (h2 j h0 h3).symm), e1.2.1, e2.1.1, fun j h0 h3 => ?_, fun j h0 h3 => ?_⟩
  · rw [← e1.2.2 j h0 h3, hh.y0 j h0 h3, em, h2 j h0 (by omega)]
  · rw [← e2.1.2 j h0 h3, hh.x1 j h0 h3, em, h1 j h0 h3]
theorem join_no0 (hw : ¬ Wide n1 c1 m2 c2 t) (h1 : ∀ j, 0 ≤ j → j < n1 → c1 [j] = a1 [j]) (h2 : ∀ j, 0 ≤ j → j < m2 → c2 [j] = b2 [j]) : ¬ Join n1 a1 n2 a2 m1 b1 m2 b2 t := fun h => hw (h.wide.congr h1 h2)
theorem join_no1 (hw : Wide n1 c1 m2 c2 t) (hh : Half n1 c1 c2 t x0 y0 x1 y1) (h1 : ∀ j, 0 ≤ j → j < n1 → c1 [j] = a1 [j]) (h2 : ∀ j, 0 ≤ j → j < m2 → c2 [j] = b2 [j]) (e : ¬ (EqK n1 (fr0 x0) n1 a1 ∧ EqK n1 (fr0 y0) n2 a2)) : ¬ Join n1 a1 n2 a2 m1 b1 m2 b2 t := fun h => by
  rw [EqK.fr, EqK.fr] at e
  obtain ⟨⟨hn, he, hle⟩, ht, hlt⟩ := hw
  have em := midK_congr ht.1 ht.2 (show t < m2 by omega) h1 h2
  refine e ⟨⟨rfl, fun j h0 h3 => by rw [hh.x0 j h0 h3, h1 j h0 h3]⟩, h.l1, fun j h0 h3 => ?_⟩
  rw [hh.y0 j h0 h3, em, h.lo j h0 h3, h2 j h0 (by omega)]
theorem join_no2 (hw : Wide n1 c1 m2 c2 t) (hh : Half n1 c1 c2 t x0 y0 x1 y1) (h1 : ∀ j, 0 ≤ j → j < n1 → c1 [j] = a1 [j]) (h2 : ∀ j, 0 ≤ j → j < m2 → c2 [j] = b2 [j]) (e : ¬ (EqK n1 (fr0 x1) m1 b1 ∧ EqK n1 (fr0 y1) m2 b2)) : ¬ Join n1 a1 n2 a2 m1 b1 m2 b2 t := fun h => by
  rw [EqK.fr, EqK.fr] at e
  obtain ⟨⟨hn, he, hle⟩, ht, hlt⟩ := hw
  have em := midK_congr ht.1 ht.2 (show t < m2 by omega) h1 h2
  refine e ⟨⟨h.l2, fun j h0 h3 => ?_⟩, he, fun j h0 h3 => by rw [hh.y1 j h0 h3, h2 j h0 (by omega)]⟩
  rw [hh.x1 j h0 h3, em, h.up j h0 h3, h1 j h0 h3]
theorem jy (hw : Wide n1 (fr0 c1) m2 (fr0 c2) t) (hh : Half n1 (fr0 c1) (fr0 c2) t x0 y0 x1 y1) (h1 : ∀ j, 0 ≤ j → j < n1 → c1 [j] = a1 [j]) (h2 : ∀ j, 0 ≤ j → j < m2 → c2 [j] = b2 [j]) (e1 : EqK n1 (fr0 x0) n1 a1 ∧ EqK n1 (fr0 y0) n2 a2) (e2 : EqK n1 (fr0 x1) m1 b1 ∧ EqK n1 (fr0 y1) m2 b2) : Join n1 a1 n2 a2 m1 b1 m2 b2 t := join_yes hw hh (frc h1) (frc h2) e1 e2
theorem j0 (hw : ¬ Wide n1 (fr0 c1) m2 (fr0 c2) t) (h1 : ∀ j, 0 ≤ j → j < n1 → c1 [j] = a1 [j]) (h2 : ∀ j, 0 ≤ j → j < m2 → c2 [j] = b2 [j]) : ¬ Join n1 a1 n2 a2 m1 b1 m2 b2 t := join_no0 hw (frc h1) (frc h2)
theorem j1 (hw : Wide n1 (fr0 c1) m2 (fr0 c2) t) (hh : Half n1 (fr0 c1) (fr0 c2) t x0 y0 x1 y1) (h1 : ∀ j, 0 ≤ j → j < n1 → c1 [j] = a1 [j]) (h2 : ∀ j, 0 ≤ j → j < m2 → c2 [j] = b2 [j]) (e : ¬ (EqK n1 (fr0 x0) n1 a1 ∧ EqK n1 (fr0 y0) n2 a2)) : ¬ Join n1 a1 n2 a2 m1 b1 m2 b2 t := join_no1 hw hh (frc h1) (frc h2) e
theorem j2 (hw : Wide n1 (fr0 c1) m2 (fr0 c2) t) (hh : Half n1 (fr0 c1) (fr0 c2) t x0 y0 x1 y1) (h1 : ∀ j, 0 ≤ j → j < n1 → c1 [j] = a1 [j]) (h2 : ∀ j, 0 ≤ j → j < m2 → c2 [j] = b2 [j]) (e : ¬ (EqK n1 (fr0 x1) m1 b1 ∧ EqK n1 (fr0 y1) m2 b2)) : ¬ Join n1 a1 n2 a2 m1 b1 m2 b2 t := join_no2 hw hh (frc h1) (frc h2) e
theorem Join.one {t' : Int} (h : Join n1 a1 n2 a2 m1 b1 m2 b2 t) (h' : Join n1 a1 n2 a2 m1 b1 m2 b2 t') (ha : U32 n1 a1) (hb : U32 m2 b2) : t = t' := by
  obtain ⟨hB, ht, hlt⟩ := h.wide
  obtain ⟨hB', ht', hlt'⟩ := h'.wide
  by_cases e : t = t'
  · exact e
  · have q1 := h.up t ht.1 ht.2
    have q2 := h'.up t ht.1 ht.2
    have q3 := midK_bd (n := n1) ha (fun j a b => hb j a (by have := hB.2.1; omega)) ht.1 ht.2 hlt
    rw [if_pos rfl] at q1
    rw [if_neg e] at q2
    omega
theorem Join.not {t' : Int} (h : Join n1 a1 n2 a2 m1 b1 m2 b2 t) (ha : U32 n1 a1) (hb : U32 m2 b2) : ¬ Join m1 b1 m2 b2 n1 a1 n2 a2 t' := fun h' => by
  obtain ⟨hB, ht, hlt⟩ := h.wide
  obtain ⟨hB', ht', hlt'⟩ := h'.wide
  have q1 := h.up t ht.1 ht.2
  have q2 := h.lo t ht.1 ht.2
  rw [if_pos rfl] at q1 q2
  have q3 := hB'.2.2 t ht.1 (by have := h.l2; omega)
  omega
end
section
variable (n1 n2 m1 m2 : Int) (a1 a2 b1 b2 : Ix → Int) (f1 f2 f3 f4 : Bool)
/-- what Joined answers -/
abbrev joinR (n1 : Int) (a1 : Ix → Int) (n2 : Int) (a2 : Ix → Int) (m1 : Int) (b1 : Ix → Int) (m2 : Int) (b2 : Ix → Int) (r : V) (σ : Sto) : Prop :=
  (∃ (t : Int) (u0 u1 : Ix → Int), Join n1 a1 n2 a2 m1 b1 m2 b2 t ∧ (∀ j, 0 ≤ j → j < n1 → u0 [j] = a1 [j]) ∧ (∀ j, 0 ≤ j → j < m2 → u1 [j] = b2 [j]) ∧ r = .tu [.ag [.sl 100 0 n1 1 false, .sl 101 0 m2 1 false], .i .i64 t, .b true] ∧ σ = [(100, .ar n1 [.i .u32 u0] 77), (101, .ar m2 [.i .u32 u1] 77)]) ∨
  (∃ (t : Int) (u0 u1 : Ix → Int), Join m1 b1 m2 b2 n1 a1 n2 a2 t ∧ (∀ j, 0 ≤ j → j < m1 → u0 [j] = b1 [j]) ∧ (∀ j, 0 ≤ j → j < n2 → u1 [j] = a2 [j]) ∧ r = .tu [.ag [.sl 100 0 m1 1 false, .sl 101 0 n2 1 false], .i .i64 t, .b true] ∧ σ = [(100, .ar m1 [.i .u32 u0] 77), (101, .ar n2 [.i .u32 u1] 77)]) ∨
  ((∀ t, 0 ≤ t → t < n1 → ¬ Join n1 a1 n2 a2 m1 b1 m2 b2 t ∧ ¬ Join m1 b1 m2 b2 n1 a1 n2 a2 t) ∧ r = .tu [.ag [.l 0 [] true, .l 0 [] true], .i .i64 0, .b false] ∧ σ = [])
theorem halves_tri (n m t : Int) (a b : Ix → Int) (f1 f2 : Bool) (hn : 0 ≤ n ∧ n ≤ 1000000) (hm : 0 ≤ m ∧ m ≤ 1000000) (h1 : U32 n a) (h2 : U32 m b) : TriS Try.prog 50 [.ag [.l n [.i .u32 a] f1, .l m [.i .u32 b] f2], .i .i64 t] []
    (fun r σ => (Wide n a m b t ∧ ∃ x0 y0 x1 y1 : Ix → Int, Half n a b t x0 y0 x1 y1 ∧ r = .tu [.ag [.sl 100 0 n 1 false, .sl 101 0 n 1 false], .ag [.sl 102 0 n 1 false, .sl 103 0 n 1 false], .b true] ∧ σ = halfS 100 102 n x0 y0 x1 y1) ∨
      (¬ Wide n a m b t ∧ r = .tu [.ag [.l 0 [] true, .l 0 [] true], .ag [.l 0 [] true, .l 0 [] true], .b false] ∧ σ = [])) := by
  by_cases hw : Wide n a m b t
  · exact (halves_ok n m t a b f1 f2 hw h1 h2).mono' fun r σ h => .inl ⟨hw, h⟩
  · exact (halves_bad n m t a b f1 f2 hn hm hw).mono' fun r σ h => .inr ⟨hw, h⟩
theorem joined_tri (h1 : 0 ≤ n1 ∧ n1 ≤ 1000000) (h2 : 0 ≤ n2 ∧ n2 ≤ 1000000) (h3 : 0 ≤ m1 ∧ m1 ≤ 1000000) (h4 : 0 ≤ m2 ∧ m2 ≤ 1000000) (u1 : U32 n1 a1) (u2 : U32 n2 a2) (u3 : U32 m1 b1) (u4 : U32 m2 b2) :
    TriS Try.prog 20 [.ag [.l n1 [.i .u32 a1] f1, .l n2 [.i .u32 a2] f2], .ag [.l m1 [.i .u32 b1] f3, .l m2 [.i .u32 b2] f4]] [] (joinR n1 a1 n2 a2 m1 b1 m2 b2) := by
  refine tri_of TT_ok mixed (OR := ORD20) (fn := Try.f20) (c := body Try.f20) (by kernel_rfl) (by kernel_rfl) (by kernel_rfl) (by kernel_rfl) (by simp [Try.f20]) fun H Tri hH hTri => ?_
  cbv
  refine' ⟨0, Int, fun (t : Int) => ⟨[(16, V.i IntKind.i64 n1), (4, V.pt 102 0), (3, V.pt 101 0), (2, V.pt 100 0), (17, .i .i64 t), (6, V.b false), (5, V.i IntKind.i64 0)], [(102, O.st [V.l 0 [] true, V.l 0 [] true] 43), (101, O.st [V.l m1 [C.i IntKind.u32 b1] f3, V.l m2 [C.i IntKind.u32 b2] f4] 43), (100, O.st [V.l n1 [C.i IntKind.u32 a1] f1, V.l n2 [C.i IntKind.u32 a2] f2] 43)], 103⟩, fun (t : Int) => (0 ≤ t ∧ t ≤ n1) ∧ (∀ q, 0 ≤ q → q < t → ¬ Join n1 a1 n2 a2 m1 b1 m2 b2 q ∧ ¬ Join m1 b1 m2 b2 n1 a1 n2 a2 q), fun (t : Int) => (n1 - t).toNat, ⟨0, ⟨(by omega), (by omega)⟩, q3⟩, ?r_1⟩
  rintro t ⟨ht, hp⟩
  cbv
  split
  · rename_i h_2
    simp only [hH, decide_eq_true_eq] at h_2
    cbv
    generalize e_3 : (fun ix => bif decide (hd ix = ↑1) then b1 ix.tail else a1 ix.tail) = c_4
    generalize e_5 : (fun ix => bif decide (hd ix = ↑1) then b2 ix.tail else a2 ix.tail) = c_6
    generalize e_7 : (fun ix => bif decide (hd ix = ↑1) then a1 ix.tail else b1 ix.tail) = c_8
    generalize e_9 : (fun ix => bif decide (hd ix = ↑1) then a2 ix.tail else b2 ix.tail) = c_10
    refine' ⟨0, Int, fun (i : Int) => ⟨[(27, V.i IntKind.i64 (Int.ofNat 2)), (26, V.l (Int.ofNat 2) [C.l (fun ix => bif decide (hd ix = ↑1) then m1 else bif decide (hd ix = ↑0) then (fun x => n1) ix else (fun x => 0) ix) [C.i IntKind.u32 c_4], C.l (fun ix => bif decide (hd ix = ↑1) then m2 else bif decide (hd ix = ↑0) then (fun x => n2) ix else (fun x => 0) ix) [C.i IntKind.u32 c_6], C.l (fun ix => bif decide (hd ix = ↑1) then n1 else bif decide (hd ix = ↑0) then (fun x => m1) ix else (fun x => 0) ix) [C.i IntKind.u32 c_8], C.l (fun ix => bif decide (hd ix = ↑1) then n2 else bif decide (hd ix = ↑0) then (fun x => m2) ix else (fun x => 0) ix) [C.i IntKind.u32 c_10]] true), (7, V.i IntKind.i64 t), (16, V.i IntKind.i64 n1), (4, V.pt 102 0), (3, V.pt 101 0), (2, V.pt 100 0), (17, V.i IntKind.i64 t), (28, .i .i64 i), (6, V.b false), (5, V.i IntKind.i64 0)], [(102, O.st [V.l 0 [] true, V.l 0 [] true] 43), (101, O.st [V.l m1 [C.i IntKind.u32 b1] f3, V.l m2 [C.i IntKind.u32 b2] f4] 43), (100, O.st [V.l n1 [C.i IntKind.u32 a1] f1, V.l n2 [C.i IntKind.u32 a2] f2] 43)], 103⟩, fun (i : Int) => (0 ≤ i ∧ i ≤ 2) ∧ (1 ≤ i → ¬ Join n1 a1 n2 a2 m1 b1 m2 b2 t) ∧ (2 ≤ i → ¬ Join m1 b1 m2 b2 n1 a1 n2 a2 t), fun (i : Int) => (2 - i).toNat, ⟨0, ⟨(by omega), (by omega), (by omega)⟩, q3⟩, ?r_11⟩
    rintro i ⟨hi, q1, q2⟩
    obtain rfl | rfl | rfl := (three hi)
    · cbv
      split
      case h_2 => rename_i hh; exact absurd hh (by rw [hH]; simp; try omega)
      cbv
      generalize e_12 : H Int _ = v_13
      simp only [hH, zeroS] at e_12
      simp [AM.hd] at e_12
      subst e_12
      generalize e_14 : H Int _ = v_15
      simp only [hH, zeroS] at e_14
      simp [AM.hd] at e_14
      subst e_14
      generalize e_16 : H Int _ = v_17
      simp only [hH, zeroS] at e_16
      simp [AM.hd] at e_16
      subst e_16
      generalize e_18 : H Int _ = v_19
      simp only [hH, zeroS] at e_18
      simp [AM.hd] at e_18
      subst e_18
      generalize e_20 : (fun ix => c_10 (0 :: ix)) = c_21
      (rw [← e_9] at e_20; simp only [AM.hd, List.tail_cons] at e_20; simp at e_20; subst e_20)
      generalize e_22 : (fun ix => b2 ix) = c_23
      obtain rfl : b2 = c_23 := e_22
      generalize e_24 : (fun ix => c_4 (0 :: ix)) = c_25
      (rw [← e_3] at e_24; simp only [AM.hd, List.tail_cons] at e_24; simp at e_24; subst e_24)
      generalize e_26 : (fun ix => a1 ix) = c_27
      obtain rfl : a1 = c_27 := e_26
      generalize e_28 : (fun ix => c_6 (0 :: ix)) = c_29
      (rw [← e_5] at e_28; simp only [AM.hd, List.tail_cons] at e_28; simp at e_28; subst e_28)
      generalize e_30 : (fun ix => a2 ix) = c_31
      obtain rfl : a2 = c_31 := e_30
      generalize e_32 : (fun ix => c_8 (0 :: ix)) = c_33
      (rw [← e_7] at e_32; simp only [AM.hd, List.tail_cons] at e_32; simp at e_32; subst e_32)
      generalize e_34 : (fun ix => b1 ix) = c_35
      obtain rfl : b1 = c_35 := e_34
      refine ⟨by rw [hH]; simp, ?_⟩
      cbv
      generalize e_36 : H Bool _ = b_37
      simp only [hH] at e_36
      replace e_36 := boolN e_36
      obtain rfl : b_37 = true := e_36.2 (by decide)
      refine cal [] (t := hTri _ _ _ _ (kclone_tri _ _ _ (by assumption))) (k := ?k_38)
      rintro r_39 σ_40 ⟨x_41, ⟨h_42, ⟨rfl, rfl⟩⟩⟩
      cbv
      refine cal [] (t := hTri _ _ _ _ (kclone_tri _ _ _ (by assumption))) (k := ?k_43)
      rintro r_44 σ_45 ⟨x_46, ⟨h_47, ⟨rfl, rfl⟩⟩⟩
      cbv
      refine cal [] (t := hTri _ _ _ _ (halves_tri _ _ _ _ _ _ _ (by assumption) (by assumption) (by (exact U32.congr u1 (frc ‹_›))) (by (exact U32.congr u4 (frc ‹_›))))) (k := ?k_48)
      rintro r_49 σ_50 (⟨h_51, ⟨x_52, ⟨x_53, ⟨x_54, ⟨x_55, ⟨h_56, ⟨rfl, rfl⟩⟩⟩⟩⟩⟩⟩ | ⟨h_57, ⟨rfl, rfl⟩⟩)
      · cbv
        refine cal [] (t := hTri _ _ _ _ (same_tri _ _ _ _ _ _ _ _ _ _ _ _ (by assumption) (by assumption) (by assumption) (by assumption))) (k := ?k_58)
        rintro r_59 σ_60 ⟨b_61, ⟨h_62, ⟨rfl, rfl⟩⟩⟩
        cbv
        rcases b_61 with _ | _
        · simp only [boolS] at e_36
          simp only [boolS] at h_62
          cbv
          generalize e_63 : H Int _ = v_64
          simp only [hH, zeroS] at e_63
          obtain rfl : v_64 = 1 := e_63.symm
          exact rnd _ (h := ⟨⟨(by assumption), (by assumption)⟩, ⟨(by (exact fun _ => (by first | exact j0 ‹_› ‹_› ‹_› | exact j1 ‹_› ‹_› ‹_› ‹_› ‹_› | exact j2 ‹_› ‹_› ‹_› ‹_› ‹_›))), (by omega)⟩⟩) (s := q3) (m := by intros; subst_vars; simp [AM.hd]; done)
        · simp only [boolS] at e_36
          simp only [boolS] at h_62
          cbv
          refine cal [] (t := hTri _ _ _ _ (same_tri _ _ _ _ _ _ _ _ _ _ _ _ (by assumption) (by assumption) (by assumption) (by assumption))) (k := ?k_65)
          rintro r_66 σ_67 ⟨b_68, ⟨h_69, ⟨rfl, rfl⟩⟩⟩
          cbv
          rcases b_68 with _ | _
          · simp only [boolS] at h_69
            cbv
            generalize e_70 : H Int _ = v_71
            simp only [hH, zeroS] at e_70
            obtain rfl : v_71 = 1 := e_70.symm
            exact rnd _ (h := ⟨⟨(by assumption), (by assumption)⟩, ⟨(by (exact fun _ => (by first | exact j0 ‹_› ‹_› ‹_› | exact j1 ‹_› ‹_› ‹_› ‹_› ‹_› | exact j2 ‹_› ‹_› ‹_› ‹_› ‹_›))), (by omega)⟩⟩) (s := q3) (m := by intros; subst_vars; simp [AM.hd]; done)
          · simp only [boolS] at h_69
            cbv
            exact fin (h := (Or.inl ⟨_, ⟨_, ⟨_, ⟨(by (exact jy ‹_› ‹_› ‹_› ‹_› ‹_› ‹_›)), ⟨(by assumption), ⟨(by assumption), ⟨rfl, rfl⟩⟩⟩⟩⟩⟩⟩))
      · cbv
        generalize e_72 : H Int _ = v_73
        simp only [hH, zeroS] at e_72
        obtain rfl : v_73 = 1 := e_72.symm
        generalize e_74 : (fun ix => x_41 ((hd ix + 0) :: ix.tail)) = c_75
        have f_76 := fun (j : Int) => congrFun e_74 [j]
        simp only [AM.hd, List.tail_cons, Int.add_zero] at f_76
        generalize e_77 : (fun ix => x_46 ((hd ix + 0) :: ix.tail)) = c_78
        have f_79 := fun (j : Int) => congrFun e_77 [j]
        simp only [AM.hd, List.tail_cons, Int.add_zero] at f_79
        exact rnd _ (h := ⟨⟨(by omega), (by omega)⟩, ⟨(by (exact fun _ => (by first | exact j0 ‹_› ‹_› ‹_› | exact j1 ‹_› ‹_› ‹_› ‹_› ‹_› | exact j2 ‹_› ‹_› ‹_› ‹_› ‹_›))), (by omega)⟩⟩) (s := q3) (m := by intros; subst_vars; simp [AM.hd]; done)
    · cbv
      split
      case h_2 => rename_i hh; exact absurd hh (by rw [hH]; simp; try omega)
      cbv
      generalize e_80 : H Int _ = v_81
      simp only [hH, zeroS] at e_80
      simp [AM.hd] at e_80
      subst e_80
      generalize e_82 : H Int _ = v_83
      simp only [hH, zeroS] at e_82
      simp [AM.hd] at e_82
      subst e_82
      generalize e_84 : H Int _ = v_85
      simp only [hH, zeroS] at e_84
      simp [AM.hd] at e_84
      subst e_84
      generalize e_86 : H Int _ = v_87
      simp only [hH, zeroS] at e_86
      simp [AM.hd] at e_86
      subst e_86
      generalize e_88 : (fun ix => c_10 (1 :: ix)) = c_89
      (rw [← e_9] at e_88; simp only [AM.hd, List.tail_cons] at e_88; simp at e_88; subst e_88)
      generalize e_90 : (fun ix => a2 ix) = c_91
      obtain rfl : a2 = c_91 := e_90
      generalize e_92 : (fun ix => c_4 (1 :: ix)) = c_93
      (rw [← e_3] at e_92; simp only [AM.hd, List.tail_cons] at e_92; simp at e_92; subst e_92)
      generalize e_94 : (fun ix => b1 ix) = c_95
      obtain rfl : b1 = c_95 := e_94
      generalize e_96 : (fun ix => c_6 (1 :: ix)) = c_97
      (rw [← e_5] at e_96; simp only [AM.hd, List.tail_cons] at e_96; simp at e_96; subst e_96)
      generalize e_98 : (fun ix => b2 ix) = c_99
      obtain rfl : b2 = c_99 := e_98
      generalize e_100 : (fun ix => c_8 (1 :: ix)) = c_101
      (rw [← e_7] at e_100; simp only [AM.hd, List.tail_cons] at e_100; simp at e_100; subst e_100)
      generalize e_102 : (fun ix => a1 ix) = c_103
      obtain rfl : a1 = c_103 := e_102
      refine ⟨by rw [hH]; simp, ?_⟩
      cbv
      generalize e_104 : H Bool _ = b_105
      simp only [hH] at e_104
      replace e_104 := boolN e_104
      obtain rfl : b_105 = true := e_104.2 (by decide)
      refine cal [] (t := hTri _ _ _ _ (kclone_tri _ _ _ (by assumption))) (k := ?k_106)
      rintro r_107 σ_108 ⟨x_109, ⟨h_110, ⟨rfl, rfl⟩⟩⟩
      cbv
      refine cal [] (t := hTri _ _ _ _ (kclone_tri _ _ _ (by assumption))) (k := ?k_111)
      rintro r_112 σ_113 ⟨x_114, ⟨h_115, ⟨rfl, rfl⟩⟩⟩
      cbv
      refine cal [] (t := hTri _ _ _ _ (halves_tri _ _ _ _ _ _ _ (by assumption) (by assumption) (by (exact U32.congr u3 (frc ‹_›))) (by (exact U32.congr u2 (frc ‹_›))))) (k := ?k_116)
      rintro r_117 σ_118 (⟨h_119, ⟨x_120, ⟨x_121, ⟨x_122, ⟨x_123, ⟨h_124, ⟨rfl, rfl⟩⟩⟩⟩⟩⟩⟩ | ⟨h_125, ⟨rfl, rfl⟩⟩)
      · cbv
        refine cal [] (t := hTri _ _ _ _ (same_tri _ _ _ _ _ _ _ _ _ _ _ _ (by assumption) (by assumption) (by assumption) (by assumption))) (k := ?k_126)
        rintro r_127 σ_128 ⟨b_129, ⟨h_130, ⟨rfl, rfl⟩⟩⟩
        cbv
        rcases b_129 with _ | _
        · simp only [boolS] at e_104
          simp only [boolS] at h_130
          cbv
          generalize e_131 : H Int _ = v_132
          simp only [hH, zeroS] at e_131
          obtain rfl : v_132 = 2 := e_131.symm
          exact rnd _ (h := ⟨⟨(by omega), (by assumption)⟩, ⟨(by simp_all; done), (by (exact fun _ => (by first | exact j0 ‹_› ‹_› ‹_› | exact j1 ‹_› ‹_› ‹_› ‹_› ‹_› | exact j2 ‹_› ‹_› ‹_› ‹_› ‹_›)))⟩⟩) (s := q3) (m := by intros; subst_vars; simp [AM.hd]; done)
        · simp only [boolS] at e_104
          simp only [boolS] at h_130
          cbv
          refine cal [] (t := hTri _ _ _ _ (same_tri _ _ _ _ _ _ _ _ _ _ _ _ (by assumption) (by assumption) (by assumption) (by assumption))) (k := ?k_133)
          rintro r_134 σ_135 ⟨b_136, ⟨h_137, ⟨rfl, rfl⟩⟩⟩
          cbv
          rcases b_136 with _ | _
          · simp only [boolS] at h_137
            cbv
            generalize e_138 : H Int _ = v_139
            simp only [hH, zeroS] at e_138
            obtain rfl : v_139 = 2 := e_138.symm
            exact rnd _ (h := ⟨⟨(by omega), (by assumption)⟩, ⟨(by simp_all; done), (by (exact fun _ => (by first | exact j0 ‹_› ‹_› ‹_› | exact j1 ‹_› ‹_› ‹_› ‹_› ‹_› | exact j2 ‹_› ‹_› ‹_› ‹_› ‹_›)))⟩⟩) (s := q3) (m := by intros; subst_vars; simp [AM.hd]; done)
          · simp only [boolS] at h_137
            cbv
            exact fin (h := (Or.inr (Or.inl ⟨_, ⟨_, ⟨_, ⟨(by (exact jy ‹_› ‹_› ‹_› ‹_› ‹_› ‹_›)), ⟨(by assumption), ⟨(by assumption), ⟨rfl, rfl⟩⟩⟩⟩⟩⟩⟩)))
      · cbv
        generalize e_140 : H Int _ = v_141
        simp only [hH, zeroS] at e_140
        obtain rfl : v_141 = 2 := e_140.symm
        generalize e_142 : (fun ix => x_109 ((hd ix + 0) :: ix.tail)) = c_143
        have f_144 := fun (j : Int) => congrFun e_142 [j]
        simp only [AM.hd, List.tail_cons, Int.add_zero] at f_144
        generalize e_145 : (fun ix => x_114 ((hd ix + 0) :: ix.tail)) = c_146
        have f_147 := fun (j : Int) => congrFun e_145 [j]
        simp only [AM.hd, List.tail_cons, Int.add_zero] at f_147
        exact rnd _ (h := ⟨⟨(by omega), (by omega)⟩, ⟨(by simp_all; done), (by (exact fun _ => (by first | exact j0 ‹_› ‹_› ‹_› | exact j1 ‹_› ‹_› ‹_› ‹_› ‹_› | exact j2 ‹_› ‹_› ‹_› ‹_› ‹_›)))⟩⟩) (s := q3) (m := by intros; subst_vars; simp [AM.hd]; done)
    · cbv
      split
      case h_1 => rename_i hh; exact absurd hh (by rw [hH]; simp; try omega)
      cbv
      generalize e_148 : H Int _ = v_149
      simp only [hH, zeroS] at e_148
      replace e_148 := (IntWalk.i64_in _ (by omega)).symm.trans e_148
      exact rnd _ (h := ⟨⟨(by omega), (by omega)⟩, (by grind)⟩) (s := q3)
  · rename_i h_150
    simp only [hH, decide_eq_false_iff_not, Int.not_lt, Int.not_le] at h_150
    cbv
    exact fin (h := (Or.inr (Or.inr ⟨(by grind), ⟨rfl, rfl⟩⟩)))
end
end Go.Proofs.Ytilmhjojbolbeaa.AM

