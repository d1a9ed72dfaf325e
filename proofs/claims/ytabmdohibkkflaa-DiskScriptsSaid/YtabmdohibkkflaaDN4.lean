/-
  What functions of the program compute. No condition beside those that each theorem states.
-/
import Derived.Test.YtabmdohibkkflaaDN3
import Derived.Test.YtabmdohibkkflaaDN2
set_option linter.all false

namespace Go.Proofs.Ytabmdohibkkflaa.AM
open Go
set_option maxRecDepth 100000
set_option maxHeartbeats 4000000
/-! the document's disk, its calls -/
section
variable (n m k r w f u q : Int) (pg : Ix → Str) (wn : Ix → Int) (ws : Ix → Str)
theorem burnR (hu : -1 ≤ u ∧ u ≤ 9223372036854775807) : TriS Try.prog 60 [.pt 0 0] (refS 0 1 2 n m k r w f u pg wn ws) (fun x σ => ∃ u', u' = burnt u ∧ x = .tu [] ∧ σ = refS 0 1 2 n m k r w f u' pg wn ws) := by
  refine tri_of TT_ok mixed (OR := ORD60) (fn := Try.f60) (c := body Try.f60) (by kernel_rfl) (by kernel_rfl) (by kernel_rfl) (by kernel_rfl) (by simp [Try.f60]) fun H Tri hH hTri => ?_
  cbv
  split
  · rename_i h12000
    simp only [hH, decide_eq_true_eq] at h12000
    cbv
    generalize e12002 : H Int _ = v12001
    simp only [hH, Int.zero_add, Int.add_zero] at e12002
    replace e12002 := (IntWalk.i64_in _ (by omega)).symm.trans e12002
    generalize e12004 : H Bool _ = b12003
    simp only [hH] at e12004
    replace e12004 := boolN e12004
    refine' ⟨_, _, ⟨_, ⟨?p12005, ⟨rfl, rfl⟩⟩⟩, ?c12006, ?s12007⟩
    case s12007 => cbv <;> repeat' first | exact rfl | exact trivial | exact Or.inr trivial | exact Or.inl rfl | apply And.intro | omega | (split <;> first | exact trivial | (exfalso; simp_all; done)) | (subst_vars; simp [o0]; done)
    case c12006 => rfl
    case p12005 => omega
  · rename_i h12008
    simp only [hH, decide_eq_false_iff_not, Int.not_lt, Int.not_le] at h12008
    cbv
    generalize e12010 : H Bool _ = b12009
    simp only [hH] at e12010
    replace e12010 := boolN e12010
    refine' ⟨_, _, ⟨_, ⟨?p12011, ⟨rfl, rfl⟩⟩⟩, ?c12012, ?s12013⟩
    case s12013 => cbv <;> repeat' first | exact rfl | exact trivial | exact Or.inr trivial | exact Or.inl rfl | apply And.intro | omega | (split <;> first | exact trivial | (exfalso; simp_all; done)) | (subst_vars; simp [o0]; done)
    case c12012 => rfl
    case p12011 => omega
theorem writeR_ok (s : Str) (hu : -1 ≤ u ∧ u ≤ 9223372036854775807) (hq : wok n u q s) (hm : 0 ≤ m ∧ m ≤ 1000000000000) (hw : 0 ≤ w ∧ w ≤ 1000000000000) :
    TriS Try.prog 32 [.pt 0 0, .i .i64 q, .s s] (refS 0 1 2 n m k r w f u pg wn ws) (fun x σ => ∃ u' m' w' wn' ws', u' = burnt u ∧ m' = m + 1 ∧ w' = w + 1 ∧ (wn' = fun ix => bif decide (hd ix < m) then wn ix else q) ∧ (ws' = fun ix => bif decide (hd ix < m) then ws ix else s) ∧ x = .i .i64 0 ∧ σ = refS 0 1 100 n m' m' r w' f u' pg wn' ws') := by
  obtain ⟨hq, hs, hu2⟩ := hq
  refine tri_of TT_ok mixed (OR := ORD32) (fn := Try.f32) (c := body Try.f32) (by kernel_rfl) (by kernel_rfl) (by kernel_rfl) (by kernel_rfl) (by simp [Try.f32]) fun H Tri hH hTri => ?_
  cbv
  split
  case h_1 => rename_i hh; exact absurd hh (by rw [hH]; simp; omega)
  cbv
  split
  case h_1 => rename_i hh; exact absurd hh (by rw [hH]; simp; omega)
  cbv
  generalize e17001 : H Int _ = v17000
  simp only [hH, Int.zero_add, Int.add_zero] at e17001
  obtain ⟨e17001, e17001a, e17001b⟩ := castN e17001.symm
  split
  case h_1 => rename_i hh; exact absurd hh (by rw [hH]; simp; omega)
  cbv
  split
  case h_1 => rename_i hh; exact absurd hh (by rw [hH]; simp; omega)
  cbv
  generalize e17003 : H Bool _ = b17002
  simp only [hH] at e17003
  replace e17003 := boolN e17003
  generalize e17005 : H Bool _ = b17004
  simp only [hH] at e17005
  replace e17005 := boolN e17005
  generalize e17007 : H Bool _ = b17006
  simp only [hH] at e17007
  replace e17007 := boolN e17007
  generalize e17009 : H Bool _ = b17008
  simp only [hH] at e17009
  replace e17009 := boolN e17009
  refine' ⟨[0, 1, 2], ⟨⟨rfl, rfl⟩, rfl⟩, _, _, ?x17011, ?s17012, _, hTri _ _ _ _ (burnR _ _ _ _ _ _ _ _ _ _ ?a17010), ?k17013⟩
  case x17011 => cbv <;> rfl
  case s17012 => cbv <;> rfl
  case a17010 => assumption
  rintro r17016 σ17017 ⟨v17014, ⟨h17015, ⟨rfl, rfl⟩⟩⟩
  cbv
  generalize e17019 : H Int _ = v17018
  simp only [hH, Int.zero_add, Int.add_zero] at e17019
  replace e17019 := (IntWalk.i64_in _ (by omega)).symm.trans e17019
  generalize e17021 : H Int _ = v17020
  simp only [hH, Int.zero_add, Int.add_zero] at e17021
  generalize e17023 : (fun ix => bif decide (hd ix < m) then wn ix else q) = c17022
  generalize e17025 : (fun ix => bif decide (hd ix < m) then ws ix else s) = c17024
  refine ⟨by rw [hH]; simp, ?_⟩
  cbv
  refine ⟨by rw [hH]; simp; omega, ?_⟩
  cbv
  refine' ⟨_, _, ⟨_, ⟨_, ⟨_, ⟨_, ⟨_, ⟨?p17026, ⟨?p17027, ⟨?p17028, ⟨?p17029, ⟨?p17030, ⟨rfl, rfl⟩⟩⟩⟩⟩⟩⟩⟩⟩⟩⟩, ?c17031, ?s17032⟩
  case s17032 => cbv <;> repeat' first | exact rfl | exact trivial | exact Or.inr trivial | exact Or.inl rfl | apply And.intro | omega | (split <;> first | exact trivial | (exfalso; simp_all; done)) | (subst_vars; simp [o0]; done)
  case c17031 => rfl
  case p17026 => assumption
  case p17027 => omega
  case p17028 => omega
  case p17029 => rfl
  case p17030 => rfl
theorem writeR_bad (s : Str) (hu : -1 ≤ u ∧ u ≤ 9223372036854775807) (hq : ¬ wok n u q s) :
    TriS Try.prog 32 [.pt 0 0, .i .i64 q, .s s] (refS 0 1 2 n m k r w f u pg wn ws) (fun x σ => x = .i .i64 1 ∧ σ = refS 0 1 2 n m k r w f u pg wn ws) := by
  unfold wok at hq
  refine tri_of TT_ok mixed (OR := ORD32) (fn := Try.f32) (c := body Try.f32) (by kernel_rfl) (by kernel_rfl) (by kernel_rfl) (by kernel_rfl) (by simp [Try.f32]) fun H Tri hH hTri => ?_
  cbv
  split
  · rename_i h22000
    simp only [hH, decide_eq_true_eq] at h22000
    cbv
    generalize e22002 : H Bool _ = b22001
    simp only [hH] at e22002
    replace e22002 := boolN e22002
    refine' ⟨_, _, ⟨rfl, rfl⟩, ?c22003, ?s22004⟩
    case s22004 => cbv <;> repeat' first | exact rfl | exact trivial | exact Or.inr trivial | exact Or.inl rfl | apply And.intro | omega | (split <;> first | exact trivial | (exfalso; simp_all; done)) | (subst_vars; simp [o0]; done)
    case c22003 => rfl
  · rename_i h22005
    simp only [hH, decide_eq_false_iff_not, Int.not_lt, Int.not_le] at h22005
    cbv
    split
    · rename_i h22006
      simp only [hH, decide_eq_true_eq] at h22006
      cbv
      generalize e22008 : H Bool _ = b22007
      simp only [hH] at e22008
      replace e22008 := boolN e22008
      generalize e22010 : H Bool _ = b22009
      simp only [hH] at e22010
      replace e22010 := boolN e22010
      refine' ⟨_, _, ⟨rfl, rfl⟩, ?c22011, ?s22012⟩
      case s22012 => cbv <;> repeat' first | exact rfl | exact trivial | exact Or.inr trivial | exact Or.inl rfl | apply And.intro | omega | (split <;> first | exact trivial | (exfalso; simp_all; done)) | (subst_vars; simp [o0]; done)
      case c22011 => rfl
    · rename_i h22013
      simp only [hH, decide_eq_false_iff_not, Int.not_lt, Int.not_le] at h22013
      cbv
      generalize e22015 : H Int _ = v22014
      simp only [hH, Int.zero_add, Int.add_zero] at e22015
      obtain ⟨e22015, e22015a, e22015b⟩ := castN e22015.symm
      split
      · rename_i h22016
        simp only [hH, decide_eq_true_eq] at h22016
        cbv
        generalize e22018 : H Bool _ = b22017
        simp only [hH] at e22018
        replace e22018 := boolN e22018
        generalize e22020 : H Bool _ = b22019
        simp only [hH] at e22020
        replace e22020 := boolN e22020
        generalize e22022 : H Bool _ = b22021
        simp only [hH] at e22022
        replace e22022 := boolN e22022
        refine' ⟨_, _, ⟨rfl, rfl⟩, ?c22023, ?s22024⟩
        case s22024 => cbv <;> repeat' first | exact rfl | exact trivial | exact Or.inr trivial | exact Or.inl rfl | apply And.intro | omega | (split <;> first | exact trivial | (exfalso; simp_all; done)) | (subst_vars; simp [o0]; done)
        case c22023 => rfl
      · rename_i h22025
        simp only [hH, decide_eq_false_iff_not, Int.not_lt, Int.not_le] at h22025
        cbv
        split
        case h_2 => rename_i hh; exact absurd hh (by rw [hH]; simp; omega)
        cbv
        generalize e22027 : H Bool _ = b22026
        simp only [hH] at e22027
        replace e22027 := boolN e22027
        generalize e22029 : H Bool _ = b22028
        simp only [hH] at e22029
        replace e22029 := boolN e22029
        generalize e22031 : H Bool _ = b22030
        simp only [hH] at e22031
        replace e22031 := boolN e22031
        generalize e22033 : H Bool _ = b22032
        simp only [hH] at e22033
        replace e22033 := boolN e22033
        refine' ⟨_, _, ⟨rfl, rfl⟩, ?c22034, ?s22035⟩
        case s22035 => cbv <;> repeat' first | exact rfl | exact trivial | exact Or.inr trivial | exact Or.inl rfl | apply And.intro | omega | (split <;> first | exact trivial | (exfalso; simp_all; done)) | (subst_vars; simp [o0]; done)
        case c22034 => rfl
theorem readR_ok (hq : 0 ≤ q ∧ q < n) (hm : 0 ≤ m ∧ m ≤ 1000000000000) (hr : 0 ≤ r ∧ r ≤ 1000000000000) :
    TriS Try.prog 33 [.pt 0 0, .i .i64 q] (refS 0 1 2 n m k r w f u pg wn ws) (fun x σ => ∃ r' s, r' = r + 1 ∧ s = (lastW wn ws q m.toNat).getD (pg [q]) ∧ x = .tu [.s s, .i .i64 0] ∧ σ = refS 0 1 2 n m k r' w f u pg wn ws) := by
  obtain ⟨m1, hm1⟩ : ∃ m1, m1 = m - 1 := ⟨_, rfl⟩
  refine tri_of TT_ok mixed (OR := ORD33) (fn := Try.f33) (c := body Try.f33) (by kernel_rfl) (by kernel_rfl) (by kernel_rfl) (by kernel_rfl) (by simp [Try.f33]) fun H Tri hH hTri => ?_
  cbv
  split
  case h_1 => rename_i hh; exact absurd hh (by rw [hH]; simp; omega)
  cbv
  split
  case h_1 => rename_i hh; exact absurd hh (by rw [hH]; simp; omega)
  cbv
  generalize e27001 : H Int _ = v27000
  simp only [hH, Int.zero_add, Int.add_zero] at e27001
  replace e27001 := (IntWalk.i64_in _ (by omega)).symm.trans e27001
  generalize e27003 : H Int _ = v27002
  simp only [hH, Int.zero_add, Int.add_zero] at e27003
  replace e27003 := (IntWalk.i64_in _ (by omega)).symm.trans e27003
  refine ⟨0, Int, fun (i : Int) => ⟨[(0, V.pt 0 0), (1, V.i IntKind.i64 q), (6, .i .i64 i), (5, V.i IntKind.i64 0), (4, V.s [])], [(0, O.st [V.sl 1 0 n 1 false, V.sl 2 0 m 2 false, V.i IntKind.i64 v27002, V.i IntKind.i64 w, V.i IntKind.i64 f, V.i IntKind.i64 u] 66), (1, O.ar n [C.s pg] 9), (2, O.ar k [C.i IntKind.i64 wn, C.s ws] 103)], 100⟩, fun (i : Int) => (-1 ≤ i ∧ i < m) ∧ (∀ j, i < j → j < m → wn [j] ≠ q), fun (i : Int) => (i + 1).toNat, ⟨m1, ⟨?p27007, ?p27008⟩, ?s27005⟩, ?r27006⟩
  case s27005 => cbv <;> repeat' first | exact rfl | exact trivial | exact Or.inr trivial | exact Or.inl rfl | apply And.intro | omega | (split <;> first | exact trivial | (exfalso; simp_all; done)) | (subst_vars; simp [o0]; done)
  case p27007 => omega
  case p27008 => omega
  rintro i ⟨hi, hc⟩
  cbv
  split
  · rename_i h27009
    simp only [hH, decide_eq_true_eq] at h27009
    cbv
    generalize e27011 : H Int _ = v27010
    simp only [hH, Int.zero_add, Int.add_zero] at e27011
    generalize e27013 : H Int _ = v27012
    simp only [hH, Int.zero_add, Int.add_zero] at e27013
    subst e27013
    refine ⟨by rw [hH]; simp; omega, ?_⟩
    cbv
    split
    · rename_i h27014
      simp only [hH, decide_eq_true_eq] at h27014
      cbv
      generalize e27016 : H Int _ = v27015
      simp only [hH, Int.zero_add, Int.add_zero] at e27016
      subst e27016
      generalize e27018 : H (List UInt8) _ = s27017
      simp only [hH, Int.zero_add, Int.add_zero] at e27018
      refine ⟨by rw [hH]; simp; omega, ?_⟩
      cbv
      generalize e27020 : H Bool _ = b27019
      simp only [hH] at e27020
      replace e27020 := boolN e27020
      generalize e27022 : H Bool _ = b27021
      simp only [hH] at e27022
      replace e27022 := boolN e27022
      refine' ⟨_, _, ⟨_, ⟨_, ⟨?p27023, ⟨?p27024, ⟨rfl, rfl⟩⟩⟩⟩⟩, ?c27025, ?s27026⟩
      case s27026 => cbv <;> repeat' first | exact rfl | exact trivial | exact Or.inr trivial | exact Or.inl rfl | apply And.intro | omega | (split <;> first | exact trivial | (exfalso; simp_all; done)) | (subst_vars; simp [o0]; done)
      case c27025 => rfl
      case p27023 => omega
      case p27024 => (subst_vars; rw [lastW_at (j := i) (by omega) (by omega) (by first | rfl | assumption) (fun j' a b => hc j' a (by omega)), Option.getD_some])
    · rename_i h27027
      simp only [hH, decide_eq_false_iff_not, Int.not_lt, Int.not_le] at h27027
      cbv
      generalize e27029 : H Int _ = v27028
      simp only [hH, Int.zero_add, Int.add_zero] at e27029
      replace e27029 := (IntWalk.i64_in _ (by omega)).symm.trans e27029
      generalize e27031 : H Bool _ = b27030
      simp only [hH] at e27031
      replace e27031 := boolN e27031
      generalize e27033 : H Bool _ = b27032
      simp only [hH] at e27033
      replace e27033 := boolN e27033
      refine' ⟨_, ⟨⟨?p27034, ?p27035⟩, ?p27036⟩, ?m27037, ?s27038⟩
      case s27038 => cbv <;> repeat' first | exact rfl | exact trivial | exact Or.inr trivial | exact Or.inl rfl | apply And.intro | omega | (split <;> first | exact trivial | (exfalso; simp_all; done)) | (subst_vars; simp [o0]; done)
      case m27037 => simp; omega
      case p27034 => omega
      case p27035 => omega
      case p27036 => grind
  · rename_i h27039
    simp only [hH, decide_eq_false_iff_not, Int.not_lt, Int.not_le] at h27039
    cbv
    generalize e27041 : H Int _ = v27040
    simp only [hH, Int.zero_add, Int.add_zero] at e27041
    subst e27041
    generalize e27043 : H (List UInt8) _ = s27042
    simp only [hH, Int.zero_add, Int.add_zero] at e27043
    refine ⟨by rw [hH]; simp; omega, ?_⟩
    cbv
    generalize e27045 : H Bool _ = b27044
    simp only [hH] at e27045
    replace e27045 := boolN e27045
    refine' ⟨_, _, ⟨_, ⟨_, ⟨?p27046, ⟨?p27047, ⟨rfl, rfl⟩⟩⟩⟩⟩, ?c27048, ?s27049⟩
    case s27049 => cbv <;> repeat' first | exact rfl | exact trivial | exact Or.inr trivial | exact Or.inl rfl | apply And.intro | omega | (split <;> first | exact trivial | (exfalso; simp_all; done)) | (subst_vars; simp [o0]; done)
    case c27048 => rfl
    case p27046 => omega
    case p27047 => (subst_vars; rw [lastW_none (fun j' a b => hc j' (by omega) (by omega)), Option.getD_none])
theorem readR_bad (hq : ¬ (0 ≤ q ∧ q < n)) : TriS Try.prog 33 [.pt 0 0, .i .i64 q] (refS 0 1 2 n m k r w f u pg wn ws) (fun x σ => x = .tu [.s [], .i .i64 1] ∧ σ = refS 0 1 2 n m k r w f u pg wn ws) := by
  refine tri_of TT_ok mixed (OR := ORD33) (fn := Try.f33) (c := body Try.f33) (by kernel_rfl) (by kernel_rfl) (by kernel_rfl) (by kernel_rfl) (by simp [Try.f33]) fun H Tri hH hTri => ?_
  cbv
  split
  · rename_i h33000
    simp only [hH, decide_eq_true_eq] at h33000
    cbv
    generalize e33002 : H Bool _ = b33001
    simp only [hH] at e33002
    replace e33002 := boolN e33002
    refine' ⟨_, _, ⟨rfl, rfl⟩, ?c33003, ?s33004⟩
    case s33004 => cbv <;> repeat' first | exact rfl | exact trivial | exact Or.inr trivial | exact Or.inl rfl | apply And.intro | omega | (split <;> first | exact trivial | (exfalso; simp_all; done)) | (subst_vars; simp [o0]; done)
    case c33003 => rfl
  · rename_i h33005
    simp only [hH, decide_eq_false_iff_not, Int.not_lt, Int.not_le] at h33005
    cbv
    split
    case h_2 => rename_i hh; exact absurd hh (by rw [hH]; simp; omega)
    cbv
    generalize e33007 : H Bool _ = b33006
    simp only [hH] at e33007
    replace e33007 := boolN e33007
    generalize e33009 : H Bool _ = b33008
    simp only [hH] at e33009
    replace e33009 := boolN e33009
    refine' ⟨_, _, ⟨rfl, rfl⟩, ?c33010, ?s33011⟩
    case s33011 => cbv <;> repeat' first | exact rfl | exact trivial | exact Or.inr trivial | exact Or.inl rfl | apply And.intro | omega | (split <;> first | exact trivial | (exfalso; simp_all; done)) | (subst_vars; simp [o0]; done)
    case c33010 => rfl
theorem flushR_ok (hu : -1 ≤ u ∧ u ≤ 9223372036854775807) (hu2 : u ≠ 0) (hm : 0 ≤ m ∧ m ≤ 1000000000000) (hf : 0 ≤ f ∧ f ≤ 1000000000000) (hw : ∀ j, 0 ≤ j → j < m → 0 ≤ wn [j] ∧ wn [j] < n) :
    TriS Try.prog 34 [.pt 0 0] (refS 0 1 2 n m k r w f u pg wn ws) (fun x σ => ∃ u' f' pg' wn' ws', u' = burnt u ∧ f' = f + 1 ∧ pg' = flushed pg wn ws m.toNat ∧ x = .i .i64 m ∧ σ = refS 0 1 100 n 0 0 r w f' u' pg' wn' ws') := by
  refine tri_of TT_ok mixed (OR := ORD34) (fn := Try.f34) (c := body Try.f34) (by kernel_rfl) (by kernel_rfl) (by kernel_rfl) (by kernel_rfl) (by simp [Try.f34]) fun H Tri hH hTri => ?_
  cbv
  split
  case h_1 => rename_i hh; exact absurd hh (by rw [hH]; simp; omega)
  cbv
  generalize e37001 : H Bool _ = b37000
  simp only [hH] at e37001
  replace e37001 := boolN e37001
  refine' ⟨[0, 1, 2], ⟨⟨rfl, rfl⟩, rfl⟩, _, _, ?x37003, ?s37004, _, hTri _ _ _ _ (burnR _ _ _ _ _ _ _ _ _ _ ?a37002), ?k37005⟩
  case x37003 => cbv <;> rfl
  case s37004 => cbv <;> rfl
  case a37002 => assumption
  rintro r37008 σ37009 ⟨v37006, ⟨h37007, ⟨rfl, rfl⟩⟩⟩
  cbv
  refine ⟨0, Int × (Ix → Str), fun ((i, p) : Int × (Ix → Str)) => ⟨[(2, V.i IntKind.i64 0), (0, V.pt 0 0), (3, .i .i64 i)], [(0, O.st [V.sl 1 0 n 1 false, V.sl 2 0 m 2 false, V.i IntKind.i64 r, V.i IntKind.i64 w, V.i IntKind.i64 f, V.i IntKind.i64 v37006] 66), (1, .ar n [.s p] 9), (2, O.ar k [C.i IntKind.i64 wn, C.s ws] 103)], 120⟩, fun ((i, p) : Int × (Ix → Str)) => (0 ≤ i ∧ i ≤ m) ∧ (p = flushed pg wn ws i.toNat), fun ((i, p) : Int × (Ix → Str)) => (m - i).toNat, ⟨(0, pg), ⟨?p37013, ?p37014⟩, ?s37011⟩, ?r37012⟩
  case s37011 => cbv <;> repeat' first | exact rfl | exact trivial | exact Or.inr trivial | exact Or.inl rfl | apply And.intro | omega | (split <;> first | exact trivial | (exfalso; simp_all; done)) | (subst_vars; simp [o0]; done)
  case p37013 => omega
  case p37014 => rfl
  rintro ⟨i, p⟩ ⟨hi, hp⟩
  cbv
  split
  · rename_i h37015
    simp only [hH, decide_eq_true_eq] at h37015
    cbv
    generalize e37017 : H Int _ = v37016
    simp only [hH, Int.zero_add, Int.add_zero] at e37017
    generalize e37019 : H Int _ = v37018
    simp only [hH, Int.zero_add, Int.add_zero] at e37019
    replace e37019 := (IntWalk.i64_in _ (by omega)).symm.trans e37019
    generalize e37021 : H Int _ = v37020
    simp only [hH, Int.zero_add, Int.add_zero] at e37021
    subst e37021
    generalize e37023 : H Int _ = v37022
    simp only [hH, Int.zero_add, Int.add_zero] at e37023
    subst e37023
    generalize e37025 : H (List UInt8) _ = s37024
    simp only [hH, Int.zero_add, Int.add_zero] at e37025
    generalize e37027 : (fun ix => bif decide (hd ix = v37016) then s37024 else p ix) = c37026
    refine ⟨by rw [hH]; simp; omega, ?_⟩
    cbv
    refine ⟨by rw [hH]; simp; omega, ?_⟩
    cbv
    refine ⟨?q37028, ?_⟩
    case q37028 => grind
    cbv
    generalize e37030 : H Bool _ = b37029
    simp only [hH] at e37030
    replace e37030 := boolN e37030
    refine' ⟨(_, _), ⟨⟨?p37031, ?p37032⟩, ?p37033⟩, ?m37034, ?s37035⟩
    case s37035 => cbv <;> repeat' first | exact rfl | exact trivial | exact Or.inr trivial | exact Or.inl rfl | apply And.intro | omega | (split <;> first | exact trivial | (exfalso; simp_all; done)) | (subst_vars; simp [o0]; done)
    case m37034 => simp; omega
    case p37031 => omega
    case p37032 => omega
    case p37033 => (subst_vars; rw [show (i + 1).toNat = i.toNat + 1 by omega, flushed, Int.toNat_of_nonneg hi.1])
  · rename_i h37036
    simp only [hH, decide_eq_false_iff_not, Int.not_lt, Int.not_le] at h37036
    cbv
    generalize e37038 : H Int _ = v37037
    simp only [hH, Int.zero_add, Int.add_zero] at e37038
    replace e37038 := (IntWalk.i64_in _ (by omega)).symm.trans e37038
    generalize e37040 : H Bool _ = b37039
    simp only [hH] at e37040
    replace e37040 := boolN e37040
    refine' ⟨_, _, ⟨_, ⟨_, ⟨_, ⟨_, ⟨_, ⟨?p37041, ⟨?p37042, ⟨?p37043, ⟨rfl, rfl⟩⟩⟩⟩⟩⟩⟩⟩⟩, ?c37044, ?s37045⟩
    case s37045 => cbv <;> repeat' first | exact rfl | exact trivial | exact Or.inr trivial | exact Or.inl rfl | apply And.intro | omega | (split <;> first | exact trivial | (exfalso; simp_all; done)) | (subst_vars; simp [o0]; done)
    case c37044 => rfl
    case p37041 => assumption
    case p37042 => omega
    case p37043 => grind
    exact fun _ => 0
    exact fun _ => []
theorem flushR_dead : TriS Try.prog 34 [.pt 0 0] (refS 0 1 2 n m k r w f 0 pg wn ws) (fun x σ => x = .i .i64 0 ∧ σ = refS 0 1 2 n m k r w f 0 pg wn ws) := by
  refine tri_of TT_ok mixed (OR := ORD34) (fn := Try.f34) (c := body Try.f34) (by kernel_rfl) (by kernel_rfl) (by kernel_rfl) (by kernel_rfl) (by simp [Try.f34]) fun H Tri hH hTri => ?_
  cbv
  split
  case h_2 => rename_i hh; exact absurd hh (by rw [hH]; simp; try omega)
  cbv
  generalize e42001 : H Bool _ = b42000
  simp only [hH] at e42001
  replace e42001 := boolN e42001
  refine' ⟨_, _, ⟨rfl, rfl⟩, ?c42002, ?s42003⟩
  case s42003 => cbv <;> repeat' first | exact rfl | exact trivial | exact Or.inr trivial | exact Or.inl rfl | apply And.intro | omega | (split <;> first | exact trivial | (exfalso; simp_all; done)) | (subst_vars; simp [o0]; done)
  case c42002 => rfl
theorem waitsR (hm : 0 ≤ m ∧ m ≤ 1000000000) : TriS Try.prog 40 [.pt 0 0] (refS 0 1 2 n m k r w f u pg wn ws) (fun x σ => ∃ c, (∀ j, 0 ≤ j → j < m → c [j] = wn [j]) ∧ x = .sl 100 0 m 1 false ∧ σ = refS 0 1 2 n m k r w f u pg wn ws ++ [(100, .ar m [.i .i64 c] 3)]) := by
  refine tri_of TT_ok mixed (OR := ORD40) (fn := Try.f40) (c := body Try.f40) (by kernel_rfl) (by kernel_rfl) (by kernel_rfl) (by kernel_rfl) (by simp [Try.f40]) fun H Tri hH hTri => ?_
  cbv
  refine ⟨0, Int × (Ix → Int), fun ((q, c) : Int × (Ix → Int)) => ⟨[(2, V.l 0 [] true), (0, V.pt 0 0), (4, .i .i64 q), (3, .sl 101 0 q 1 false)], [(0, O.st [V.sl 1 0 n 1 false, V.sl 2 0 m 2 false, V.i IntKind.i64 r, V.i IntKind.i64 w, V.i IntKind.i64 f, V.i IntKind.i64 u] 66), (1, O.ar n [C.s pg] 9), (2, O.ar k [C.i IntKind.i64 wn, C.s ws] 103), (101, .ar q [.i .i64 c] 3)], 102⟩, fun ((q, c) : Int × (Ix → Int)) => (0 ≤ q ∧ q ≤ m) ∧ (∀ j, 0 ≤ j → j < q → c [j] = wn [j]), fun ((q, c) : Int × (Ix → Int)) => (m - q).toNat, ⟨(0, wn), ⟨?p45003, ?p45004⟩, ?s45001⟩, ?r45002⟩
  case s45001 => cbv <;> repeat' first | exact rfl | exact trivial | exact Or.inr trivial | exact Or.inl rfl | apply And.intro | omega | (split <;> first | exact trivial | (exfalso; simp_all; done)) | (subst_vars; simp [o0]; done)
  case p45003 => omega
  case p45004 => omega
  rintro ⟨q, c⟩ ⟨hq, hc⟩
  cbv
  split
  · rename_i h45005
    simp only [hH, decide_eq_true_eq] at h45005
    cbv
    generalize e45007 : H Int _ = v45006
    simp only [hH, Int.zero_add, Int.add_zero] at e45007
    replace e45007 := (IntWalk.i64_in _ (by omega)).symm.trans e45007
    generalize e45009 : H Int _ = v45008
    simp only [hH, Int.zero_add, Int.add_zero] at e45009
    generalize e45011 : H Int _ = v45010
    simp only [hH, Int.zero_add, Int.add_zero] at e45011
    generalize e45013 : H Int _ = v45012
    simp only [hH, Int.zero_add, Int.add_zero] at e45013
    subst e45013
    generalize e45015 : (fun ix => bif decide (hd ix < q) then c ix else v45010) = c45014
    refine ⟨by rw [hH]; simp; omega, ?_⟩
    cbv
    refine ⟨by rw [hH]; simp, ?_⟩
    cbv
    refine ⟨by rw [hH]; simp; omega, ?_⟩
    cbv
    generalize e45017 : H Bool _ = b45016
    simp only [hH] at e45017
    replace e45017 := boolN e45017
    refine' ⟨(_, _), ⟨⟨?p45018, ?p45019⟩, ?p45020⟩, ?m45021, ?s45022⟩
    case s45022 => cbv <;> repeat' first | exact rfl | exact trivial | exact Or.inr trivial | exact Or.inl rfl | apply And.intro | omega | (split <;> first | exact trivial | (exfalso; simp_all; done)) | (subst_vars; simp [o0]; done)
    case m45021 => simp; omega
    case p45018 => omega
    case p45019 => omega
    case p45020 => (intro j _ _; subst_vars; simp only [hH, AM.hd, Int.zero_add, Bool.cond_decide]; grind)
  · rename_i h45023
    simp only [hH, decide_eq_false_iff_not, Int.not_lt, Int.not_le] at h45023
    cbv
    generalize e45025 : H Bool _ = b45024
    simp only [hH] at e45025
    replace e45025 := boolN e45025
    refine' ⟨_, _, ⟨_, ⟨?p45026, ⟨rfl, rfl⟩⟩⟩, ?c45027, ?s45028⟩
    case s45028 => cbv <;> repeat' first | exact rfl | exact trivial | exact Or.inr trivial | exact Or.inl rfl | apply And.intro | omega | (split <;> first | exact trivial | (exfalso; simp_all; done)) | (subst_vars; simp [o0]; done)
    case c45027 => rfl
    case p45026 => grind
theorem has_no (x : Int) (g : Ix → Int) (fl : Bool) (hm : 0 ≤ m ∧ m ≤ 1000000000) (h : ∀ j, 0 ≤ j → j < m → g [j] ≠ x) : TriS Try.prog 61 [.l m [.i .i64 g] fl, .i .i64 x] [] (fun r σ => r = .b false ∧ σ = []) := by
  refine tri_of TT_ok mixed (OR := ORD61) (fn := Try.f61) (c := body Try.f61) (by kernel_rfl) (by kernel_rfl) (by kernel_rfl) (by kernel_rfl) (by simp [Try.f61]) fun H Tri hH hTri => ?_
  cbv
  refine ⟨0, Int, fun (i : Int) => ⟨[(0, V.l m [C.i IntKind.i64 g] fl), (1, V.i IntKind.i64 x), (5, .i .i64 i), (4, V.b false)], [], 100⟩, fun (i : Int) => (0 ≤ i ∧ i ≤ m), fun (i : Int) => (m - i).toNat, ⟨0, ?p49003, ?s49001⟩, ?r49002⟩
  case s49001 => cbv <;> repeat' first | exact rfl | exact trivial | exact Or.inr trivial | exact Or.inl rfl | apply And.intro | omega | (split <;> first | exact trivial | (exfalso; simp_all; done)) | (subst_vars; simp [o0]; done)
  case p49003 => omega
  rintro i hi
  cbv
  split
  · rename_i h49004
    simp only [hH, decide_eq_true_eq] at h49004
    cbv
    generalize e49006 : H Int _ = v49005
    simp only [hH, Int.zero_add, Int.add_zero] at e49006
    generalize e49008 : (fun ix => g (i :: ix)) = c49007
    refine ⟨by rw [hH]; simp; omega, ?_⟩
    cbv
    split
    · rename_i h49009
      simp only [hH, decide_eq_true_eq] at h49009
      cbv
      generalize e49011 : H Bool _ = b49010
      simp only [hH] at e49011
      replace e49011 := boolN e49011
      generalize e49013 : H Bool _ = b49012
      simp only [hH] at e49013
      replace e49013 := boolN e49013
      (exfalso; grind)
    · rename_i h49016
      simp only [hH, decide_eq_false_iff_not, Int.not_lt, Int.not_le] at h49016
      cbv
      generalize e49018 : H Int _ = v49017
      simp only [hH, Int.zero_add, Int.add_zero] at e49018
      replace e49018 := (IntWalk.i64_in _ (by omega)).symm.trans e49018
      generalize e49020 : H Bool _ = b49019
      simp only [hH] at e49020
      replace e49020 := boolN e49020
      generalize e49022 : H Bool _ = b49021
      simp only [hH] at e49022
      replace e49022 := boolN e49022
      refine' ⟨_, ⟨?p49023, ?p49024⟩, ?m49025, ?s49026⟩
      case s49026 => cbv <;> repeat' first | exact rfl | exact trivial | exact Or.inr trivial | exact Or.inl rfl | apply And.intro | omega | (split <;> first | exact trivial | (exfalso; simp_all; done)) | (subst_vars; simp [o0]; done)
      case m49025 => simp; omega
      case p49023 => omega
      case p49024 => omega
  · rename_i h49027
    simp only [hH, decide_eq_false_iff_not, Int.not_lt, Int.not_le] at h49027
    cbv
    generalize e49029 : H Bool _ = b49028
    simp only [hH] at e49029
    replace e49029 := boolN e49029
    refine' ⟨_, _, ⟨rfl, rfl⟩, ?c49030, ?s49031⟩
    case s49031 => cbv <;> repeat' first | exact rfl | exact trivial | exact Or.inr trivial | exact Or.inl rfl | apply And.intro | omega | (split <;> first | exact trivial | (exfalso; simp_all; done)) | (subst_vars; simp [o0]; done)
    case c49030 => rfl
theorem has_ex (x : Int) (g : Ix → Int) (fl : Bool) (hm : 0 ≤ m ∧ m ≤ 1000000000) : TriS Try.prog 61 [.l m [.i .i64 g] fl, .i .i64 x] [] (fun r σ => ∃ b : Bool, (b = true ↔ ∃ j, 0 ≤ j ∧ j < m ∧ g [j] = x) ∧ r = .b b ∧ σ = []) := by
  refine tri_of TT_ok mixed (OR := ORD61) (fn := Try.f61) (c := body Try.f61) (by kernel_rfl) (by kernel_rfl) (by kernel_rfl) (by kernel_rfl) (by simp [Try.f61]) fun H Tri hH hTri => ?_
  cbv
  refine ⟨0, Int, fun (i : Int) => ⟨[(0, V.l m [C.i IntKind.i64 g] fl), (1, V.i IntKind.i64 x), (5, .i .i64 i), (4, V.b false)], [], 100⟩, fun (i : Int) => (0 ≤ i ∧ i ≤ m) ∧ (∀ j, 0 ≤ j → j < i → g [j] ≠ x), fun (i : Int) => (m - i).toNat, ⟨0, ⟨?p53003, ?p53004⟩, ?s53001⟩, ?r53002⟩
  case s53001 => cbv <;> repeat' first | exact rfl | exact trivial | exact Or.inr trivial | exact Or.inl rfl | apply And.intro | omega | (split <;> first | exact trivial | (exfalso; simp_all; done)) | (subst_vars; simp [o0]; done)
  case p53003 => omega
  case p53004 => omega
  rintro i ⟨hi, hc⟩
  cbv
  split
  · rename_i h53005
    simp only [hH, decide_eq_true_eq] at h53005
    cbv
    generalize e53007 : H Int _ = v53006
    simp only [hH, Int.zero_add, Int.add_zero] at e53007
    generalize e53009 : (fun ix => g (i :: ix)) = c53008
    refine ⟨by rw [hH]; simp; omega, ?_⟩
    cbv
    split
    · rename_i h53010
      simp only [hH, decide_eq_true_eq] at h53010
      cbv
      generalize e53012 : H Bool _ = b53011
      simp only [hH] at e53012
      replace e53012 := boolN e53012
      generalize e53014 : H Bool _ = b53013
      simp only [hH] at e53014
      replace e53014 := boolN e53014
      refine' ⟨_, _, ⟨_, ⟨?p53015, ⟨rfl, rfl⟩⟩⟩, ?c53016, ?s53017⟩
      case s53017 => cbv <;> repeat' first | exact rfl | exact trivial | exact Or.inr trivial | exact Or.inl rfl | apply And.intro | omega | (split <;> first | exact trivial | (exfalso; simp_all; done)) | (subst_vars; simp [o0]; done)
      case c53016 => rfl
      case p53015 => grind
    · rename_i h53018
      simp only [hH, decide_eq_false_iff_not, Int.not_lt, Int.not_le] at h53018
      cbv
      generalize e53020 : H Int _ = v53019
      simp only [hH, Int.zero_add, Int.add_zero] at e53020
      replace e53020 := (IntWalk.i64_in _ (by omega)).symm.trans e53020
      generalize e53022 : H Bool _ = b53021
      simp only [hH] at e53022
      replace e53022 := boolN e53022
      generalize e53024 : H Bool _ = b53023
      simp only [hH] at e53024
      replace e53024 := boolN e53024
      refine' ⟨_, ⟨⟨?p53025, ?p53026⟩, ?p53027⟩, ?m53028, ?s53029⟩
      case s53029 => cbv <;> repeat' first | exact rfl | exact trivial | exact Or.inr trivial | exact Or.inl rfl | apply And.intro | omega | (split <;> first | exact trivial | (exfalso; simp_all; done)) | (subst_vars; simp [o0]; done)
      case m53028 => simp; omega
      case p53025 => omega
      case p53026 => omega
      case p53027 => grind
  · rename_i h53030
    simp only [hH, decide_eq_false_iff_not, Int.not_lt, Int.not_le] at h53030
    cbv
    generalize e53032 : H Bool _ = b53031
    simp only [hH] at e53032
    replace e53032 := boolN e53032
    refine' ⟨_, _, ⟨_, ⟨?p53033, ⟨rfl, rfl⟩⟩⟩, ?c53034, ?s53035⟩
    case s53035 => cbv <;> repeat' first | exact rfl | exact trivial | exact Or.inr trivial | exact Or.inl rfl | apply And.intro | omega | (split <;> first | exact trivial | (exfalso; simp_all; done)) | (subst_vars; simp [o0]; done)
    case c53034 => rfl
    case p53033 => grind
end
theorem texts_tri (n n' : Int) (a b : Ix → Str) (fa fb : Bool) (hn : 0 ≤ n ∧ n ≤ 1000000000) : TriS Try.prog 29 [.l n [.s a] fa, .l n' [.s b] fb] [] (fun r σ => ∃ t : Bool, (t = true ↔ n = n' ∧ ∀ j, 0 ≤ j → j < n → a [j] = b [j]) ∧ r = .b t ∧ σ = []) := by
  refine tri_of TT_ok mixed (OR := ORD29) (fn := Try.f29) (c := body Try.f29) (by kernel_rfl) (by kernel_rfl) (by kernel_rfl) (by kernel_rfl) (by simp [Try.f29]) fun H Tri hH hTri => ?_
  cbv
  split
  · rename_i h58000
    simp only [hH, decide_eq_true_eq] at h58000
    cbv
    generalize e58002 : H Bool _ = b58001
    simp only [hH] at e58002
    replace e58002 := boolN e58002
    refine' ⟨_, _, ⟨_, ⟨?p58003, ⟨rfl, rfl⟩⟩⟩, ?c58004, ?s58005⟩
    case s58005 => cbv <;> repeat' first | exact rfl | exact trivial | exact Or.inr trivial | exact Or.inl rfl | apply And.intro | omega | (split <;> first | exact trivial | (exfalso; simp_all; done)) | (subst_vars; simp [o0]; done)
    case c58004 => rfl
    case p58003 => simp; omega
  · rename_i h58006
    simp only [hH, decide_eq_false_iff_not, Int.not_lt, Int.not_le] at h58006
    cbv
    refine ⟨0, Int, fun (i : Int) => ⟨[(0, V.l n [C.s a] fa), (1, V.l n' [C.s b] fb), (5, .i .i64 i), (4, V.b false)], [], 100⟩, fun (i : Int) => (0 ≤ i ∧ i ≤ n) ∧ (∀ j, 0 ≤ j → j < i → a [j] = b [j]), fun (i : Int) => (n - i).toNat, ⟨0, ⟨?p58010, ?p58011⟩, ?s58008⟩, ?r58009⟩
    case s58008 => cbv <;> repeat' first | exact rfl | exact trivial | exact Or.inr trivial | exact Or.inl rfl | apply And.intro | omega | (split <;> first | exact trivial | (exfalso; simp_all; done)) | (subst_vars; simp [o0]; done)
    case p58010 => omega
    case p58011 => omega
    rintro i ⟨hi, hc⟩
    cbv
    split
    · rename_i h58012
      simp only [hH, decide_eq_true_eq] at h58012
      cbv
      generalize e58014 : H (List UInt8) _ = s58013
      simp only [hH, Int.zero_add, Int.add_zero] at e58014
      generalize e58016 : H (List UInt8) _ = s58015
      simp only [hH, Int.zero_add, Int.add_zero] at e58016
      generalize e58018 : (fun ix => b (i :: ix)) = c58017
      generalize e58020 : (fun ix => a (i :: ix)) = c58019
      refine ⟨by rw [hH]; simp; omega, ?_⟩
      cbv
      refine ⟨by rw [hH]; simp; omega, ?_⟩
      cbv
      split
      · rename_i h58021
        simp only [hH, decide_eq_true_eq] at h58021
        cbv
        generalize e58023 : H Bool _ = b58022
        simp only [hH] at e58023
        replace e58023 := boolN e58023
        generalize e58025 : H Bool _ = b58024
        simp only [hH] at e58025
        replace e58025 := boolN e58025
        refine' ⟨_, _, ⟨_, ⟨?p58026, ⟨rfl, rfl⟩⟩⟩, ?c58027, ?s58028⟩
        case s58028 => cbv <;> repeat' first | exact rfl | exact trivial | exact Or.inr trivial | exact Or.inl rfl | apply And.intro | omega | (split <;> first | exact trivial | (exfalso; simp_all; done)) | (subst_vars; simp [o0]; done)
        case c58027 => rfl
        case p58026 => grind
      · rename_i h58029
        simp only [hH, decide_eq_false_iff_not, Int.not_lt, Int.not_le] at h58029
        cbv
        generalize e58031 : H Int _ = v58030
        simp only [hH, Int.zero_add, Int.add_zero] at e58031
        replace e58031 := (IntWalk.i64_in _ (by omega)).symm.trans e58031
        generalize e58033 : H Bool _ = b58032
        simp only [hH] at e58033
        replace e58033 := boolN e58033
        generalize e58035 : H Bool _ = b58034
        simp only [hH] at e58035
        replace e58035 := boolN e58035
        refine' ⟨_, ⟨⟨?p58036, ?p58037⟩, ?p58038⟩, ?m58039, ?s58040⟩
        case s58040 => cbv <;> repeat' first | exact rfl | exact trivial | exact Or.inr trivial | exact Or.inl rfl | apply And.intro | omega | (split <;> first | exact trivial | (exfalso; simp_all; done)) | (subst_vars; simp [o0]; done)
        case m58039 => simp; omega
        case p58036 => omega
        case p58037 => omega
        case p58038 => grind
    · rename_i h58041
      simp only [hH, decide_eq_false_iff_not, Int.not_lt, Int.not_le] at h58041
      cbv
      generalize e58043 : H Bool _ = b58042
      simp only [hH] at e58043
      replace e58043 := boolN e58043
      refine' ⟨_, _, ⟨_, ⟨?p58044, ⟨rfl, rfl⟩⟩⟩, ?c58045, ?s58046⟩
      case s58046 => cbv <;> repeat' first | exact rfl | exact trivial | exact Or.inr trivial | exact Or.inl rfl | apply And.intro | omega | (split <;> first | exact trivial | (exfalso; simp_all; done)) | (subst_vars; simp [o0]; done)
      case c58045 => rfl
      case p58044 => grind
theorem ints_tri (n n' : Int) (a b : Ix → Int) (fa fb : Bool) (hn : 0 ≤ n ∧ n ≤ 1000000000) : TriS Try.prog 38 [.l n [.i .i64 a] fa, .l n' [.i .i64 b] fb] [] (fun r σ => ∃ t : Bool, (t = true ↔ n = n' ∧ ∀ j, 0 ≤ j → j < n → a [j] = b [j]) ∧ r = .b t ∧ σ = []) := by
  refine tri_of TT_ok mixed (OR := ORD38) (fn := Try.f38) (c := body Try.f38) (by kernel_rfl) (by kernel_rfl) (by kernel_rfl) (by kernel_rfl) (by simp [Try.f38]) fun H Tri hH hTri => ?_
  cbv
  split
  · rename_i h62000
    simp only [hH, decide_eq_true_eq] at h62000
    cbv
    generalize e62002 : H Bool _ = b62001
    simp only [hH] at e62002
    replace e62002 := boolN e62002
    refine' ⟨_, _, ⟨_, ⟨?p62003, ⟨rfl, rfl⟩⟩⟩, ?c62004, ?s62005⟩
    case s62005 => cbv <;> repeat' first | exact rfl | exact trivial | exact Or.inr trivial | exact Or.inl rfl | apply And.intro | omega | (split <;> first | exact trivial | (exfalso; simp_all; done)) | (subst_vars; simp [o0]; done)
    case c62004 => rfl
    case p62003 => simp; omega
  · rename_i h62006
    simp only [hH, decide_eq_false_iff_not, Int.not_lt, Int.not_le] at h62006
    cbv
    refine ⟨0, Int, fun (i : Int) => ⟨[(0, V.l n [C.i IntKind.i64 a] fa), (1, V.l n' [C.i IntKind.i64 b] fb), (5, .i .i64 i), (4, V.b false)], [], 100⟩, fun (i : Int) => (0 ≤ i ∧ i ≤ n) ∧ (∀ j, 0 ≤ j → j < i → a [j] = b [j]), fun (i : Int) => (n - i).toNat, ⟨0, ⟨?p62010, ?p62011⟩, ?s62008⟩, ?r62009⟩
    case s62008 => cbv <;> repeat' first | exact rfl | exact trivial | exact Or.inr trivial | exact Or.inl rfl | apply And.intro | omega | (split <;> first | exact trivial | (exfalso; simp_all; done)) | (subst_vars; simp [o0]; done)
    case p62010 => omega
    case p62011 => omega
    rintro i ⟨hi, hc⟩
    cbv
    split
    · rename_i h62012
      simp only [hH, decide_eq_true_eq] at h62012
      cbv
      generalize e62014 : H Int _ = v62013
      simp only [hH, Int.zero_add, Int.add_zero] at e62014
      generalize e62016 : H Int _ = v62015
      simp only [hH, Int.zero_add, Int.add_zero] at e62016
      generalize e62018 : (fun ix => b (i :: ix)) = c62017
      generalize e62020 : (fun ix => a (i :: ix)) = c62019
      refine ⟨by rw [hH]; simp; omega, ?_⟩
      cbv
      refine ⟨by rw [hH]; simp; omega, ?_⟩
      cbv
      split
      · rename_i h62021
        simp only [hH, decide_eq_true_eq] at h62021
        cbv
        generalize e62023 : H Bool _ = b62022
        simp only [hH] at e62023
        replace e62023 := boolN e62023
        generalize e62025 : H Bool _ = b62024
        simp only [hH] at e62025
        replace e62025 := boolN e62025
        refine' ⟨_, _, ⟨_, ⟨?p62026, ⟨rfl, rfl⟩⟩⟩, ?c62027, ?s62028⟩
        case s62028 => cbv <;> repeat' first | exact rfl | exact trivial | exact Or.inr trivial | exact Or.inl rfl | apply And.intro | omega | (split <;> first | exact trivial | (exfalso; simp_all; done)) | (subst_vars; simp [o0]; done)
        case c62027 => rfl
        case p62026 => grind
      · rename_i h62029
        simp only [hH, decide_eq_false_iff_not, Int.not_lt, Int.not_le] at h62029
        cbv
        generalize e62031 : H Int _ = v62030
        simp only [hH, Int.zero_add, Int.add_zero] at e62031
        replace e62031 := (IntWalk.i64_in _ (by omega)).symm.trans e62031
        generalize e62033 : H Bool _ = b62032
        simp only [hH] at e62033
        replace e62033 := boolN e62033
        generalize e62035 : H Bool _ = b62034
        simp only [hH] at e62035
        replace e62035 := boolN e62035
        refine' ⟨_, ⟨⟨?p62036, ?p62037⟩, ?p62038⟩, ?m62039, ?s62040⟩
        case s62040 => cbv <;> repeat' first | exact rfl | exact trivial | exact Or.inr trivial | exact Or.inl rfl | apply And.intro | omega | (split <;> first | exact trivial | (exfalso; simp_all; done)) | (subst_vars; simp [o0]; done)
        case m62039 => simp; omega
        case p62036 => omega
        case p62037 => omega
        case p62038 => grind
    · rename_i h62041
      simp only [hH, decide_eq_false_iff_not, Int.not_lt, Int.not_le] at h62041
      cbv
      generalize e62043 : H Bool _ = b62042
      simp only [hH] at e62043
      replace e62043 := boolN e62043
      refine' ⟨_, _, ⟨_, ⟨?p62044, ⟨rfl, rfl⟩⟩⟩, ?c62045, ?s62046⟩
      case s62046 => cbv <;> repeat' first | exact rfl | exact trivial | exact Or.inr trivial | exact Or.inl rfl | apply And.intro | omega | (split <;> first | exact trivial | (exfalso; simp_all; done)) | (subst_vars; simp [o0]; done)
      case c62045 => rfl
      case p62044 => grind
end Go.Proofs.Ytabmdohibkkflaa.AM

namespace Go.Proofs.Ytabmdohibkkflaa.AM
open Go
set_option maxRecDepth 100000
set_option maxHeartbeats 4000000
/-! crashes of the document's disk; disks of an image -/
section
variable (n m k r w f u q : Int) (pg : Ix → Str) (wn : Ix → Int) (ws : Ix → Str)
theorem has_mem (K x : Int) (g : Ix → Int) (fl : Bool) (hm : 0 ≤ K ∧ K ≤ 1000000000) : TriS Try.prog 61 [.l K [.i .i64 g] fl, .i .i64 x] [] (fun r σ => ∃ b : Bool, (b = true ↔ x ∈ rng K g) ∧ r = .b b ∧ σ = []) := by
  refine (has_ex K x g fl hm).mono ?_
  rintro r σ ⟨b, h, rfl, rfl⟩
  exact ⟨b, h.trans mem_rng.symm, rfl, rfl⟩
theorem crashR_ok (K t a : Int) (kf : Ix → Int) (fl : Bool) (hm : 0 ≤ m ∧ m ≤ 1000000000) (hK : 0 ≤ K ∧ K ≤ 1000000000) (hw : ∀ j, 0 ≤ j → j < m → 0 ≤ wn [j] ∧ wn [j] < n) (hl : ∀ j, 0 ≤ j → j < m → (ws [j]).length = 256) (hc : crashOk m K t a kf) : TriS Try.prog 36 [.pt 0 0, .l K [.i .i64 kf] fl, .i .i64 t, .i .i64 a] (refS 0 1 2 n m k r w f u pg wn ws)
    (fun x σ => ∃ pg' wn' ws', pg' = crashed pg wn ws K t a kf m.toNat ∧ x = .i .i64 0 ∧ σ = refS 0 1 100 n 0 0 r w f (-1) pg' wn' ws') := by
  have h2 := hc.1
  have h3 := hc.2.1
  have h4 := hc.2.2
  have h5 : t ∉ rng K kf := fun h => by obtain ⟨j, j0, j1, e⟩ := mem_rng.1 h; exact (h3 j j0 j1).2.2 e
  refine tri_of TT_ok mixed (OR := ORD36) (fn := Try.f36) (c := body Try.f36) (by kernel_rfl) (by kernel_rfl) (by kernel_rfl) (by kernel_rfl) (by simp [Try.f36]) fun H Tri hH hTri => ?_
  cbv
  refine ⟨0, Int, fun (i : Int) => ⟨[(0, V.pt 0 0), (1, V.l K [C.i IntKind.i64 kf] fl), (2, V.i IntKind.i64 t), (3, V.i IntKind.i64 a), (9, .i .i64 i), (8, V.i IntKind.i64 0)], [(0, O.st [V.sl 1 0 n 1 false, V.sl 2 0 m 2 false, V.i IntKind.i64 r, V.i IntKind.i64 w, V.i IntKind.i64 f, V.i IntKind.i64 u] 66), (1, O.ar n [C.s pg] 9), (2, O.ar k [C.i IntKind.i64 wn, C.s ws] 103)], 100⟩, fun (i : Int) => (0 ≤ i ∧ i ≤ K), fun (i : Int) => (K - i).toNat, ⟨0, ?p21003, ?s21001⟩, ?r21002⟩
  case s21001 => cbv <;> repeat' first | exact rfl | exact trivial | exact Or.inr trivial | exact Or.inl rfl | apply And.intro | omega | (split <;> first | exact trivial | (exfalso; simp_all; done)) | (subst_vars; simp [o0]; done)
  case p21003 => omega
  rintro i hi
  cbv
  split
  · rename_i h21004
    simp only [hH, decide_eq_true_eq] at h21004
    cbv
    generalize e21006 : H Int _ = v21005
    simp only [hH, Int.zero_add, Int.add_zero, o0, Int.sub_zero] at e21006
    generalize e21008 : (fun ix => kf (i :: ix)) = c21007
    refine ⟨by rw [hH]; simp; omega, ?_⟩
    cbv
    split
    case h_1 => rename_i hh; exact absurd hh (by simp only [hH]; (grind))
    cbv
    generalize e21010 : H Int _ = v21009
    simp only [hH, Int.zero_add, Int.add_zero, o0, Int.sub_zero] at e21010
    generalize e21012 : (fun ix => kf (i :: ix)) = c21011
    refine ⟨by rw [hH]; simp; omega, ?_⟩
    cbv
    split
    case h_1 => rename_i hh; exact absurd hh (by simp only [hH]; (grind))
    cbv
    generalize e21014 : H Int _ = v21013
    simp only [hH, Int.zero_add, Int.add_zero, o0, Int.sub_zero] at e21014
    generalize e21016 : (fun ix => kf (i :: ix)) = c21015
    refine ⟨by rw [hH]; simp; omega, ?_⟩
    cbv
    split
    case h_1 => rename_i hh; exact absurd hh (by simp only [hH]; (grind))
    cbv
    generalize e21018 : H Int _ = v21017
    simp only [hH, Int.zero_add, Int.add_zero, o0, Int.sub_zero] at e21018
    generalize e21020 : H Int _ = v21019
    simp only [hH, Int.zero_add, Int.add_zero, o0, Int.sub_zero] at e21020
    subst e21020
    generalize e21022 : (fun ix => kf (i :: ix)) = c21021
    generalize e21024 : (fun ix => kf ((hd ix + 0) :: ix.tail)) = c21023
    have f21025 := fun (j : Int) => congrFun e21024 [j]
    simp only [AM.hd, List.tail_cons, Int.add_zero] at f21025
    refine ⟨by rw [hH]; simp [o0]; omega, ?_⟩
    cbv
    refine ⟨by rw [hH]; simp; omega, ?_⟩
    cbv
    generalize e21027 : H Bool _ = b21026
    simp only [hH] at e21027
    replace e21027 := boolN e21027
    generalize e21029 : H Bool _ = b21028
    simp only [hH] at e21029
    replace e21029 := boolN e21029
    generalize e21031 : H Bool _ = b21030
    simp only [hH] at e21031
    replace e21031 := boolN e21031
    generalize e21033 : H Bool _ = b21032
    simp only [hH] at e21033
    replace e21033 := boolN e21033
    refine' ⟨[], ⟨⟨rfl, rfl⟩, rfl⟩, _, _, ?x21036, ?s21037, _, hTri _ _ _ _ (has_no _ _ _ _ ?a21034 ?a21035), ?k21038⟩
    case x21036 => cbv <;> rfl
    case s21037 => cbv <;> rfl
    case a21034 => omega
    case a21035 => (intro j _ _; subst_vars; simp only [hH, AM.hd, Int.zero_add, Bool.cond_decide]; grind)
    rintro r21039 σ21040 ⟨rfl, rfl⟩
    cbv
    generalize e21042 : H Int _ = v21041
    simp only [hH, Int.zero_add, Int.add_zero, o0, Int.sub_zero] at e21042
    replace e21042 := (IntWalk.i64_in _ (by omega)).symm.trans e21042
    refine' ⟨_, ⟨?p21043, ?p21044⟩, ?m21045, ?s21046⟩
    case s21046 => cbv <;> repeat' first | exact rfl | exact trivial | exact Or.inr trivial | exact Or.inl rfl | apply And.intro | omega | (split <;> first | exact trivial | (exfalso; simp_all; done)) | (subst_vars; simp [o0]; done)
    case m21045 => simp; omega
    case p21043 => omega
    case p21044 => omega
  · rename_i h21047
    simp only [hH, decide_eq_false_iff_not, Int.not_lt, Int.not_le] at h21047
    cbv
    split
    case h_1 => rename_i hh; exact absurd hh (by rw [hH]; simp; omega)
    cbv
    split
    case h_1 => rename_i hh; exact absurd hh (by rw [hH]; simp; omega)
    cbv
    split
    · rename_i h21048
      simp only [hH, decide_eq_true_eq] at h21048
      cbv
      split
      case h_1 => rename_i hh; exact absurd hh (by rw [hH]; simp; omega)
      cbv
      split
      case h_1 => rename_i hh; exact absurd hh (by rw [hH]; simp; omega)
      cbv
      refine ⟨0, Int × (Ix → Str), fun ((i, p) : Int × (Ix → Str)) => ⟨[(0, V.pt 0 0), (1, V.l K [C.i IntKind.i64 kf] fl), (2, V.i IntKind.i64 t), (3, V.i IntKind.i64 a), (8, V.i IntKind.i64 0), (10, .i .i64 i)], [(0, O.st [V.sl 1 0 n 1 false, V.sl 2 0 m 2 false, V.i IntKind.i64 r, V.i IntKind.i64 w, V.i IntKind.i64 f, V.i IntKind.i64 u] 66), (1, .ar n [.s p] 9), (2, O.ar k [C.i IntKind.i64 wn, C.s ws] 103)], 100⟩, fun ((i, p) : Int × (Ix → Str)) => (0 ≤ i ∧ i ≤ m) ∧ (p = crashed pg wn ws K t a kf i.toNat), fun ((i, p) : Int × (Ix → Str)) => (m - i).toNat, ⟨(0, pg), ⟨?p21052, ?p21053⟩, ?s21050⟩, ?r21051⟩
      case s21050 => cbv <;> repeat' first | exact rfl | exact trivial | exact Or.inr trivial | exact Or.inl rfl | apply And.intro | omega | (split <;> first | exact trivial | (exfalso; simp_all; done)) | (subst_vars; simp [o0]; done)
      case p21052 => omega
      case p21053 => rfl
      rintro ⟨i, p⟩ ⟨hi, hp⟩
      cbv
      split
      · rename_i h21054
        simp only [hH, decide_eq_true_eq] at h21054
        cbv
        generalize e21056 : H Bool _ = b21055
        simp only [hH] at e21056
        replace e21056 := boolN e21056
        refine' ⟨[], ⟨⟨rfl, rfl⟩, rfl⟩, _, _, ?x21063, ?s21064, _, hTri _ _ _ _ (has_mem _ _ _ _ ?a21062), ?k21065⟩
        case x21063 => cbv <;> rfl
        case s21064 => cbv <;> rfl
        case a21062 => assumption
        rintro r21068 σ21069 ⟨b21066, ⟨h21067, ⟨rfl, rfl⟩⟩⟩
        cbv
        rcases b21066 with _ | _
        · simp only [Bool.false_eq_true, Bool.true_eq_false, reduceCtorEq, false_iff, true_iff, forall_const, not_false_eq_true, false_implies] at h21067
          cbv
          split
          · rename_i h21070
            simp only [hH, decide_eq_true_eq] at h21070
            cbv
            generalize e21072 : H Int _ = v21071
            simp only [hH, Int.zero_add, Int.add_zero, o0, Int.sub_zero] at e21072
            subst e21072
            generalize e21074 : H (List UInt8) _ = s21073
            simp only [hH, Int.zero_add, Int.add_zero, o0, Int.sub_zero] at e21074
            refine ⟨by rw [hH]; simp; omega, ?_⟩
            cbv
            generalize e21076 : H Bool _ = b21075
            simp only [hH] at e21076
            replace e21076 := boolN e21076
            refine' ⟨[], ⟨⟨rfl, rfl⟩, rfl⟩, _, _, ?x21079, ?s21080, _, hTri _ _ _ _ (tornR_tri _ _ ?a21077 ?a21078), ?k21081⟩
            case x21079 => cbv <;> rfl
            case s21080 => cbv <;> rfl
            case a21077 => grind
            case a21078 => omega
            rintro r21084 σ21085 ⟨x21082, ⟨h21083, ⟨rfl, rfl⟩⟩⟩
            cbv
            generalize e21087 : H Int _ = v21086
            simp only [hH, Int.zero_add, Int.add_zero, o0, Int.sub_zero] at e21087
            generalize e21089 : H Int _ = v21088
            simp only [hH, Int.zero_add, Int.add_zero, o0, Int.sub_zero] at e21089
            replace e21089 := (IntWalk.i64_in _ (by omega)).symm.trans e21089
            generalize e21091 : H Int _ = v21090
            simp only [hH, Int.zero_add, Int.add_zero, o0, Int.sub_zero] at e21091
            subst e21091
            generalize e21093 : H Int _ = v21092
            simp only [hH, Int.zero_add, Int.add_zero, o0, Int.sub_zero] at e21093
            subst e21093
            generalize e21095 : (fun ix => bif decide (hd ix = v21086) then x21082 else p ix) = c21094
            refine ⟨by rw [hH]; simp; omega, ?_⟩
            cbv
            refine ⟨?q21096, ?_⟩
            case q21096 => grind
            cbv
            refine' ⟨(_, _), ⟨⟨?p21097, ?p21098⟩, ?p21099⟩, ?m21100, ?s21101⟩
            case s21101 => cbv <;> repeat' first | exact rfl | exact trivial | exact Or.inr trivial | exact Or.inl rfl | apply And.intro | omega | (split <;> first | exact trivial | (exfalso; simp_all; done)) | (subst_vars; simp [o0]; done)
            case m21100 => simp; omega
            case p21097 => omega
            case p21098 => omega
            case p21099 => (have e1 : (i + 1).toNat = i.toNat + 1 := (by omega); have e2 := Int.toNat_of_nonneg hi.1; subst_vars; rw [e1, crashed, e2]; simp [*])
          · rename_i h21102
            simp only [hH, decide_eq_false_iff_not, Int.not_lt, Int.not_le] at h21102
            cbv
            generalize e21104 : H Int _ = v21103
            simp only [hH, Int.zero_add, Int.add_zero, o0, Int.sub_zero] at e21104
            replace e21104 := (IntWalk.i64_in _ (by omega)).symm.trans e21104
            generalize e21106 : H Bool _ = b21105
            simp only [hH] at e21106
            replace e21106 := boolN e21106
            refine' ⟨(_, _), ⟨⟨?p21107, ?p21108⟩, ?p21109⟩, ?m21110, ?s21111⟩
            case s21111 => cbv <;> repeat' first | exact rfl | exact trivial | exact Or.inr trivial | exact Or.inl rfl | apply And.intro | omega | (split <;> first | exact trivial | (exfalso; simp_all; done)) | (subst_vars; simp [o0]; done)
            case m21110 => simp; omega
            case p21107 => omega
            case p21108 => omega
            case p21109 => (have e1 : (i + 1).toNat = i.toNat + 1 := (by omega); have e2 := Int.toNat_of_nonneg hi.1; subst_vars; rw [e1, crashed, e2]; simp [*])
        · simp only [Bool.false_eq_true, Bool.true_eq_false, reduceCtorEq, false_iff, true_iff, forall_const, not_false_eq_true, false_implies] at h21067
          cbv
          generalize e21113 : H Int _ = v21112
          simp only [hH, Int.zero_add, Int.add_zero, o0, Int.sub_zero] at e21113
          generalize e21115 : H Int _ = v21114
          simp only [hH, Int.zero_add, Int.add_zero, o0, Int.sub_zero] at e21115
          subst e21115
          generalize e21117 : H Int _ = v21116
          simp only [hH, Int.zero_add, Int.add_zero, o0, Int.sub_zero] at e21117
          subst e21117
          generalize e21119 : H (List UInt8) _ = s21118
          simp only [hH, Int.zero_add, Int.add_zero, o0, Int.sub_zero] at e21119
          generalize e21121 : (fun ix => bif decide (hd ix = v21112) then s21118 else p ix) = c21120
          refine ⟨by rw [hH]; simp; omega, ?_⟩
          cbv
          refine ⟨by rw [hH]; simp; omega, ?_⟩
          cbv
          refine ⟨?q21122, ?_⟩
          case q21122 => grind
          cbv
          split
          case h_1 => rename_i hh; exact absurd hh (by simp only [hH]; (grind))
          cbv
          generalize e21124 : H Int _ = v21123
          simp only [hH, Int.zero_add, Int.add_zero, o0, Int.sub_zero] at e21124
          replace e21124 := (IntWalk.i64_in _ (by omega)).symm.trans e21124
          generalize e21126 : H Bool _ = b21125
          simp only [hH] at e21126
          replace e21126 := boolN e21126
          refine' ⟨(_, _), ⟨⟨?p21127, ?p21128⟩, ?p21129⟩, ?m21130, ?s21131⟩
          case s21131 => cbv <;> repeat' first | exact rfl | exact trivial | exact Or.inr trivial | exact Or.inl rfl | apply And.intro | omega | (split <;> first | exact trivial | (exfalso; simp_all; done)) | (subst_vars; simp [o0]; done)
          case m21130 => simp; omega
          case p21127 => omega
          case p21128 => omega
          case p21129 => (have e1 : (i + 1).toNat = i.toNat + 1 := (by omega); have e2 := Int.toNat_of_nonneg hi.1; subst_vars; rw [e1, crashed, e2, if_neg (by grind), if_pos (by assumption)])
      · rename_i h21132
        simp only [hH, decide_eq_false_iff_not, Int.not_lt, Int.not_le] at h21132
        cbv
        generalize e21134 : H Bool _ = b21133
        simp only [hH] at e21134
        replace e21134 := boolN e21134
        refine' ⟨_, _, ⟨_, ⟨_, ⟨_, ⟨?p21135, ⟨rfl, rfl⟩⟩⟩⟩⟩, ?c21136, ?s21137⟩
        case s21137 => cbv <;> repeat' first | exact rfl | exact trivial | exact Or.inr trivial | exact Or.inl rfl | apply And.intro | omega | (split <;> first | exact trivial | (exfalso; simp_all; done)) | (subst_vars; simp [o0]; done)
        case c21136 => rfl
        case p21135 => grind
        exact fun _ => 0
        exact fun _ => []
    · rename_i h21138
      simp only [hH, decide_eq_false_iff_not, Int.not_lt, Int.not_le] at h21138
      cbv
      refine ⟨0, Int × (Ix → Str), fun ((i, p) : Int × (Ix → Str)) => ⟨[(0, V.pt 0 0), (1, V.l K [C.i IntKind.i64 kf] fl), (2, V.i IntKind.i64 t), (3, V.i IntKind.i64 a), (8, V.i IntKind.i64 0), (10, .i .i64 i)], [(0, O.st [V.sl 1 0 n 1 false, V.sl 2 0 m 2 false, V.i IntKind.i64 r, V.i IntKind.i64 w, V.i IntKind.i64 f, V.i IntKind.i64 u] 66), (1, .ar n [.s p] 9), (2, O.ar k [C.i IntKind.i64 wn, C.s ws] 103)], 100⟩, fun ((i, p) : Int × (Ix → Str)) => (0 ≤ i ∧ i ≤ m) ∧ (p = crashed pg wn ws K t a kf i.toNat), fun ((i, p) : Int × (Ix → Str)) => (m - i).toNat, ⟨(0, pg), ⟨?p21142, ?p21143⟩, ?s21140⟩, ?r21141⟩
      case s21140 => cbv <;> repeat' first | exact rfl | exact trivial | exact Or.inr trivial | exact Or.inl rfl | apply And.intro | omega | (split <;> first | exact trivial | (exfalso; simp_all; done)) | (subst_vars; simp [o0]; done)
      case p21142 => omega
      case p21143 => rfl
      rintro ⟨i, p⟩ ⟨hi, hp⟩
      cbv
      split
      · rename_i h21144
        simp only [hH, decide_eq_true_eq] at h21144
        cbv
        generalize e21146 : H Bool _ = b21145
        simp only [hH] at e21146
        replace e21146 := boolN e21146
        refine' ⟨[], ⟨⟨rfl, rfl⟩, rfl⟩, _, _, ?x21153, ?s21154, _, hTri _ _ _ _ (has_mem _ _ _ _ ?a21152), ?k21155⟩
        case x21153 => cbv <;> rfl
        case s21154 => cbv <;> rfl
        case a21152 => assumption
        rintro r21158 σ21159 ⟨b21156, ⟨h21157, ⟨rfl, rfl⟩⟩⟩
        cbv
        rcases b21156 with _ | _
        · simp only [Bool.false_eq_true, Bool.true_eq_false, reduceCtorEq, false_iff, true_iff, forall_const, not_false_eq_true, false_implies] at h21157
          cbv
          split
          case h_1 => rename_i hh; exact absurd hh (by rw [hH]; simp; omega)
          cbv
          generalize e21161 : H Int _ = v21160
          simp only [hH, Int.zero_add, Int.add_zero, o0, Int.sub_zero] at e21161
          replace e21161 := (IntWalk.i64_in _ (by omega)).symm.trans e21161
          generalize e21163 : H Bool _ = b21162
          simp only [hH] at e21163
          replace e21163 := boolN e21163
          refine' ⟨(_, _), ⟨⟨?p21164, ?p21165⟩, ?p21166⟩, ?m21167, ?s21168⟩
          case s21168 => cbv <;> repeat' first | exact rfl | exact trivial | exact Or.inr trivial | exact Or.inl rfl | apply And.intro | omega | (split <;> first | exact trivial | (exfalso; simp_all; done)) | (subst_vars; simp [o0]; done)
          case m21167 => simp; omega
          case p21164 => omega
          case p21165 => omega
          case p21166 => (have e1 : (i + 1).toNat = i.toNat + 1 := (by omega); have e2 := Int.toNat_of_nonneg hi.1; subst_vars; rw [e1, crashed, e2, if_neg (by grind), if_neg (by assumption)])
        · simp only [Bool.false_eq_true, Bool.true_eq_false, reduceCtorEq, false_iff, true_iff, forall_const, not_false_eq_true, false_implies] at h21157
          cbv
          generalize e21170 : H Int _ = v21169
          simp only [hH, Int.zero_add, Int.add_zero, o0, Int.sub_zero] at e21170
          generalize e21172 : H Int _ = v21171
          simp only [hH, Int.zero_add, Int.add_zero, o0, Int.sub_zero] at e21172
          subst e21172
          generalize e21174 : H Int _ = v21173
          simp only [hH, Int.zero_add, Int.add_zero, o0, Int.sub_zero] at e21174
          subst e21174
          generalize e21176 : H (List UInt8) _ = s21175
          simp only [hH, Int.zero_add, Int.add_zero, o0, Int.sub_zero] at e21176
          generalize e21178 : (fun ix => bif decide (hd ix = v21169) then s21175 else p ix) = c21177
          refine ⟨by rw [hH]; simp; omega, ?_⟩
          cbv
          refine ⟨by rw [hH]; simp; omega, ?_⟩
          cbv
          refine ⟨?q21179, ?_⟩
          case q21179 => grind
          cbv
          split
          case h_1 => rename_i hh; exact absurd hh (by rw [hH]; simp; omega)
          cbv
          generalize e21181 : H Int _ = v21180
          simp only [hH, Int.zero_add, Int.add_zero, o0, Int.sub_zero] at e21181
          replace e21181 := (IntWalk.i64_in _ (by omega)).symm.trans e21181
          generalize e21183 : H Bool _ = b21182
          simp only [hH] at e21183
          replace e21183 := boolN e21183
          refine' ⟨(_, _), ⟨⟨?p21184, ?p21185⟩, ?p21186⟩, ?m21187, ?s21188⟩
          case s21188 => cbv <;> repeat' first | exact rfl | exact trivial | exact Or.inr trivial | exact Or.inl rfl | apply And.intro | omega | (split <;> first | exact trivial | (exfalso; simp_all; done)) | (subst_vars; simp [o0]; done)
          case m21187 => simp; omega
          case p21184 => omega
          case p21185 => omega
          case p21186 => (have e1 : (i + 1).toNat = i.toNat + 1 := (by omega); have e2 := Int.toNat_of_nonneg hi.1; subst_vars; rw [e1, crashed, e2, if_neg (by grind), if_pos (by assumption)])
      · rename_i h21189
        simp only [hH, decide_eq_false_iff_not, Int.not_lt, Int.not_le] at h21189
        cbv
        generalize e21191 : H Bool _ = b21190
        simp only [hH] at e21191
        replace e21191 := boolN e21191
        refine' ⟨_, _, ⟨_, ⟨_, ⟨_, ⟨?p21192, ⟨rfl, rfl⟩⟩⟩⟩⟩, ?c21193, ?s21194⟩
        case s21194 => cbv <;> repeat' first | exact rfl | exact trivial | exact Or.inr trivial | exact Or.inl rfl | apply And.intro | omega | (split <;> first | exact trivial | (exfalso; simp_all; done)) | (subst_vars; simp [o0]; done)
        case c21193 => rfl
        case p21192 => grind
        exact fun _ => 0
        exact fun _ => []
theorem crashR_bad (K t a : Int) (kf : Ix → Int) (fl : Bool) (hK : 0 ≤ K ∧ K ≤ 1000000000) (hc : ¬ crashOk m K t a kf) : TriS Try.prog 36 [.pt 0 0, .l K [.i .i64 kf] fl, .i .i64 t, .i .i64 a] (refS 0 1 2 n m k r w f u pg wn ws)
    (fun x σ => x = .i .i64 1 ∧ σ = refS 0 1 2 n m k r w f u pg wn ws) := by
  have hc' : ¬ ((-1 ≤ t ∧ t < m ∧ (t ≠ -1 → 0 ≤ a ∧ a ≤ 256)) ∧ ∀ i, 0 ≤ i → i < K → (0 ≤ kf [i] ∧ kf [i] < m ∧ kf [i] ≠ t) ∧ ∀ j, 0 ≤ j → j < i → kf [j] ≠ kf [i]) := fun h => hc ⟨h.1, fun i h0 h1 => (h.2 i h0 h1).1, fun i j h0 h1 h2 => (h.2 j (by omega) h2).2 i h0 h1⟩
  clear hc
  refine tri_of TT_ok mixed (OR := ORD36) (fn := Try.f36) (c := body Try.f36) (by kernel_rfl) (by kernel_rfl) (by kernel_rfl) (by kernel_rfl) (by simp [Try.f36]) fun H Tri hH hTri => ?_
  cbv
  refine ⟨0, Int, fun (i : Int) => ⟨[(0, V.pt 0 0), (1, V.l K [C.i IntKind.i64 kf] fl), (2, V.i IntKind.i64 t), (3, V.i IntKind.i64 a), (9, .i .i64 i), (8, V.i IntKind.i64 0)], [(0, O.st [V.sl 1 0 n 1 false, V.sl 2 0 m 2 false, V.i IntKind.i64 r, V.i IntKind.i64 w, V.i IntKind.i64 f, V.i IntKind.i64 u] 66), (1, O.ar n [C.s pg] 9), (2, O.ar k [C.i IntKind.i64 wn, C.s ws] 103)], 100⟩, fun (i : Int) => (0 ≤ i ∧ i ≤ K) ∧ (∀ i', 0 ≤ i' → i' < i → (0 ≤ kf [i'] ∧ kf [i'] < m ∧ kf [i'] ≠ t) ∧ ∀ j, 0 ≤ j → j < i' → kf [j] ≠ kf [i']), fun (i : Int) => (K - i).toNat, ⟨0, ⟨?p35003, ?p35004⟩, ?s35001⟩, ?r35002⟩
  case s35001 => cbv <;> repeat' first | exact rfl | exact trivial | exact Or.inr trivial | exact Or.inl rfl | apply And.intro | omega | (split <;> first | exact trivial | (exfalso; simp_all; done)) | (subst_vars; simp [o0]; done)
  case p35003 => omega
  case p35004 => omega
  rintro i ⟨hi, hi2⟩
  cbv
  split
  · rename_i h35005
    simp only [hH, decide_eq_true_eq] at h35005
    cbv
    generalize e35007 : H Int _ = v35006
    simp only [hH, Int.zero_add, Int.add_zero, o0, Int.sub_zero] at e35007
    generalize e35009 : (fun ix => kf (i :: ix)) = c35008
    refine ⟨by rw [hH]; simp; omega, ?_⟩
    cbv
    split
    · rename_i h35010
      simp only [hH, decide_eq_true_eq] at h35010
      cbv
      generalize e35012 : H Bool _ = b35011
      simp only [hH] at e35012
      replace e35012 := boolN e35012
      generalize e35014 : H Bool _ = b35013
      simp only [hH] at e35014
      replace e35014 := boolN e35014
      refine' ⟨_, _, ⟨rfl, rfl⟩, ?c35015, ?s35016⟩
      case s35016 => cbv <;> repeat' first | exact rfl | exact trivial | exact Or.inr trivial | exact Or.inl rfl | apply And.intro | omega | (split <;> first | exact trivial | (exfalso; simp_all; done)) | (subst_vars; simp [o0]; done)
      case c35015 => rfl
    · rename_i h35017
      simp only [hH, decide_eq_false_iff_not, Int.not_lt, Int.not_le] at h35017
      cbv
      generalize e35019 : H Int _ = v35018
      simp only [hH, Int.zero_add, Int.add_zero, o0, Int.sub_zero] at e35019
      generalize e35021 : (fun ix => kf (i :: ix)) = c35020
      refine ⟨by rw [hH]; simp; omega, ?_⟩
      cbv
      split
      · rename_i h35022
        simp only [hH, decide_eq_true_eq] at h35022
        cbv
        generalize e35024 : H Bool _ = b35023
        simp only [hH] at e35024
        replace e35024 := boolN e35024
        generalize e35026 : H Bool _ = b35025
        simp only [hH] at e35026
        replace e35026 := boolN e35026
        generalize e35028 : H Bool _ = b35027
        simp only [hH] at e35028
        replace e35028 := boolN e35028
        refine' ⟨_, _, ⟨rfl, rfl⟩, ?c35029, ?s35030⟩
        case s35030 => cbv <;> repeat' first | exact rfl | exact trivial | exact Or.inr trivial | exact Or.inl rfl | apply And.intro | omega | (split <;> first | exact trivial | (exfalso; simp_all; done)) | (subst_vars; simp [o0]; done)
        case c35029 => rfl
      · rename_i h35031
        simp only [hH, decide_eq_false_iff_not, Int.not_lt, Int.not_le] at h35031
        cbv
        generalize e35033 : H Int _ = v35032
        simp only [hH, Int.zero_add, Int.add_zero, o0, Int.sub_zero] at e35033
        generalize e35035 : (fun ix => kf (i :: ix)) = c35034
        refine ⟨by rw [hH]; simp; omega, ?_⟩
        cbv
        split
        · rename_i h35036
          simp only [hH, decide_eq_true_eq] at h35036
          cbv
          generalize e35038 : H Bool _ = b35037
          simp only [hH] at e35038
          replace e35038 := boolN e35038
          generalize e35040 : H Bool _ = b35039
          simp only [hH] at e35040
          replace e35040 := boolN e35040
          generalize e35042 : H Bool _ = b35041
          simp only [hH] at e35042
          replace e35042 := boolN e35042
          generalize e35044 : H Bool _ = b35043
          simp only [hH] at e35044
          replace e35044 := boolN e35044
          refine' ⟨_, _, ⟨rfl, rfl⟩, ?c35045, ?s35046⟩
          case s35046 => cbv <;> repeat' first | exact rfl | exact trivial | exact Or.inr trivial | exact Or.inl rfl | apply And.intro | omega | (split <;> first | exact trivial | (exfalso; simp_all; done)) | (subst_vars; simp [o0]; done)
          case c35045 => rfl
        · rename_i h35047
          simp only [hH, decide_eq_false_iff_not, Int.not_lt, Int.not_le] at h35047
          cbv
          generalize e35049 : H Int _ = v35048
          simp only [hH, Int.zero_add, Int.add_zero, o0, Int.sub_zero] at e35049
          generalize e35051 : H Int _ = v35050
          simp only [hH, Int.zero_add, Int.add_zero, o0, Int.sub_zero] at e35051
          subst e35051
          generalize e35053 : (fun ix => kf (i :: ix)) = c35052
          generalize e35055 : (fun ix => kf ((hd ix + 0) :: ix.tail)) = c35054
          have f35056 := fun (j : Int) => congrFun e35055 [j]
          simp only [AM.hd, List.tail_cons, Int.add_zero] at f35056
          refine ⟨by rw [hH]; simp [o0]; omega, ?_⟩
          cbv
          refine ⟨by rw [hH]; simp; omega, ?_⟩
          cbv
          generalize e35058 : H Bool _ = b35057
          simp only [hH] at e35058
          replace e35058 := boolN e35058
          generalize e35060 : H Bool _ = b35059
          simp only [hH] at e35060
          replace e35060 := boolN e35060
          generalize e35062 : H Bool _ = b35061
          simp only [hH] at e35062
          replace e35062 := boolN e35062
          generalize e35064 : H Bool _ = b35063
          simp only [hH] at e35064
          replace e35064 := boolN e35064
          refine' ⟨[], ⟨⟨rfl, rfl⟩, rfl⟩, _, _, ?x35066, ?s35067, _, hTri _ _ _ _ (has_ex _ _ _ _ ?a35065), ?k35068⟩
          case x35066 => cbv <;> rfl
          case s35067 => cbv <;> rfl
          case a35065 => omega
          rintro r35071 σ35072 ⟨b35069, ⟨h35070, ⟨rfl, rfl⟩⟩⟩
          cbv
          rcases b35069 with _ | _
          · simp only [Bool.false_eq_true, Bool.true_eq_false, reduceCtorEq, false_iff, true_iff, forall_const, not_false_eq_true, false_implies] at h35070
            cbv
            generalize e35074 : H Int _ = v35073
            simp only [hH, Int.zero_add, Int.add_zero, o0, Int.sub_zero] at e35074
            replace e35074 := (IntWalk.i64_in _ (by omega)).symm.trans e35074
            refine' ⟨_, ⟨⟨?p35075, ?p35076⟩, ?p35077⟩, ?m35078, ?s35079⟩
            case s35079 => cbv <;> repeat' first | exact rfl | exact trivial | exact Or.inr trivial | exact Or.inl rfl | apply And.intro | omega | (split <;> first | exact trivial | (exfalso; simp_all; done)) | (subst_vars; simp [o0]; done)
            case m35078 => simp; omega
            case p35075 => omega
            case p35076 => omega
            case p35077 => (intro j j0 j1; by_cases hji : j < i; exact hi2 j j0 hji; obtain rfl : j = i := (by omega); refine ⟨by omega, fun j' a b e => ?_⟩; grind)
          · simp only [Bool.false_eq_true, Bool.true_eq_false, reduceCtorEq, false_iff, true_iff, forall_const, not_false_eq_true, false_implies] at h35070
            cbv
            refine' ⟨_, _, ⟨rfl, rfl⟩, ?c35080, ?s35081⟩
            case s35081 => cbv <;> repeat' first | exact rfl | exact trivial | exact Or.inr trivial | exact Or.inl rfl | apply And.intro | omega | (split <;> first | exact trivial | (exfalso; simp_all; done)) | (subst_vars; simp [o0]; done)
            case c35080 => rfl
  · rename_i h35082
    simp only [hH, decide_eq_false_iff_not, Int.not_lt, Int.not_le] at h35082
    cbv
    split
    · rename_i h35083
      simp only [hH, decide_eq_true_eq] at h35083
      cbv
      generalize e35085 : H Bool _ = b35084
      simp only [hH] at e35085
      replace e35085 := boolN e35085
      generalize e35087 : H Bool _ = b35086
      simp only [hH] at e35087
      replace e35087 := boolN e35087
      refine' ⟨_, _, ⟨rfl, rfl⟩, ?c35088, ?s35089⟩
      case s35089 => cbv <;> repeat' first | exact rfl | exact trivial | exact Or.inr trivial | exact Or.inl rfl | apply And.intro | omega | (split <;> first | exact trivial | (exfalso; simp_all; done)) | (subst_vars; simp [o0]; done)
      case c35088 => rfl
    · rename_i h35090
      simp only [hH, decide_eq_false_iff_not, Int.not_lt, Int.not_le] at h35090
      cbv
      split
      · rename_i h35091
        simp only [hH, decide_eq_true_eq] at h35091
        cbv
        generalize e35093 : H Bool _ = b35092
        simp only [hH] at e35093
        replace e35093 := boolN e35093
        generalize e35095 : H Bool _ = b35094
        simp only [hH] at e35095
        replace e35095 := boolN e35095
        generalize e35097 : H Bool _ = b35096
        simp only [hH] at e35097
        replace e35097 := boolN e35097
        refine' ⟨_, _, ⟨rfl, rfl⟩, ?c35098, ?s35099⟩
        case s35099 => cbv <;> repeat' first | exact rfl | exact trivial | exact Or.inr trivial | exact Or.inl rfl | apply And.intro | omega | (split <;> first | exact trivial | (exfalso; simp_all; done)) | (subst_vars; simp [o0]; done)
        case c35098 => rfl
      · rename_i h35100
        simp only [hH, decide_eq_false_iff_not, Int.not_lt, Int.not_le] at h35100
        cbv
        split
        · rename_i h35101
          simp only [hH, decide_eq_true_eq] at h35101
          cbv
          split
          · rename_i h35102
            simp only [hH, decide_eq_true_eq] at h35102
            cbv
            generalize e35104 : H Bool _ = b35103
            simp only [hH] at e35104
            replace e35104 := boolN e35104
            generalize e35106 : H Bool _ = b35105
            simp only [hH] at e35106
            replace e35106 := boolN e35106
            generalize e35108 : H Bool _ = b35107
            simp only [hH] at e35108
            replace e35108 := boolN e35108
            generalize e35110 : H Bool _ = b35109
            simp only [hH] at e35110
            replace e35110 := boolN e35110
            generalize e35112 : H Bool _ = b35111
            simp only [hH] at e35112
            replace e35112 := boolN e35112
            refine' ⟨_, _, ⟨rfl, rfl⟩, ?c35113, ?s35114⟩
            case s35114 => cbv <;> repeat' first | exact rfl | exact trivial | exact Or.inr trivial | exact Or.inl rfl | apply And.intro | omega | (split <;> first | exact trivial | (exfalso; simp_all; done)) | (subst_vars; simp [o0]; done)
            case c35113 => rfl
          · rename_i h35115
            simp only [hH, decide_eq_false_iff_not, Int.not_lt, Int.not_le] at h35115
            cbv
            split
            · rename_i h35116
              simp only [hH, decide_eq_true_eq] at h35116
              cbv
              generalize e35118 : H Bool _ = b35117
              simp only [hH] at e35118
              replace e35118 := boolN e35118
              generalize e35120 : H Bool _ = b35119
              simp only [hH] at e35120
              replace e35120 := boolN e35120
              generalize e35122 : H Bool _ = b35121
              simp only [hH] at e35122
              replace e35122 := boolN e35122
              generalize e35124 : H Bool _ = b35123
              simp only [hH] at e35124
              replace e35124 := boolN e35124
              generalize e35126 : H Bool _ = b35125
              simp only [hH] at e35126
              replace e35126 := boolN e35126
              generalize e35128 : H Bool _ = b35127
              simp only [hH] at e35128
              replace e35128 := boolN e35128
              refine' ⟨_, _, ⟨rfl, rfl⟩, ?c35129, ?s35130⟩
              case s35130 => cbv <;> repeat' first | exact rfl | exact trivial | exact Or.inr trivial | exact Or.inl rfl | apply And.intro | omega | (split <;> first | exact trivial | (exfalso; simp_all; done)) | (subst_vars; simp [o0]; done)
              case c35129 => rfl
            · rename_i h35131
              simp only [hH, decide_eq_false_iff_not, Int.not_lt, Int.not_le] at h35131
              cbv
              exact absurd ⟨by omega, fun i' a b => hi2 i' a (by omega)⟩ hc'
        · rename_i h35132
          simp only [hH, decide_eq_false_iff_not, Int.not_lt, Int.not_le] at h35132
          cbv
          exact absurd ⟨by omega, fun i' a b => hi2 i' a (by omega)⟩ hc'
end
end Go.Proofs.Ytabmdohibkkflaa.AM

namespace Go.Proofs.Ytabmdohibkkflaa.AM
open Go
set_option maxRecDepth 100000
set_option maxHeartbeats 4000000
section
variable (n m k r w f u q : Int) (pg : Ix → Str) (wn : Ix → Int) (ws : Ix → Str)
theorem readP_ok (hq : 0 ≤ q ∧ q < n) (hm : 0 ≤ m ∧ m ≤ 1000000000000) (hr : 0 ≤ r ∧ r ≤ 1000000000000) :
    TriS Try.prog 30 [.pt 0 0, .i .i64 q] (diskS 0 1 2 n m k r w f u pg wn ws) (fun x σ => ∃ r' s, r' = r + 1 ∧ s = (lastW wn ws q m.toNat).getD (pg [q]) ∧ x = .tu [.s s, .i .i64 0] ∧ σ = diskS 0 1 2 n m k r' w f u pg wn ws) :=
  (read_tri n m k r w f u q pg wn ws hq hm hr).mono (by rintro x σ ⟨rfl, rfl⟩; exact ⟨_, _, rfl, rfl, rfl, rfl⟩)
theorem newP_ok (n : Int) (hn : 1 ≤ n ∧ n ≤ 1000) : TriS Try.prog 13 [.i .i64 n] []
    (fun r σ => ∃ (c : Ix → Str) (wn : Ix → Int) (ws : Ix → Str), (∀ j : Int, 0 ≤ j → j < n → c [j] = blankF) ∧ r = .tu [.pt 100 0, .i .i64 0] ∧ σ = diskS 100 101 102 n 0 0 0 0 0 (-1) c wn ws) :=
  (disk_new n hn).mono (by rintro x σ ⟨c, h, rfl, rfl⟩; exact ⟨c, _, _, h, rfl, rfl⟩)
theorem ofR_ok (n : Int) (c : Ix → Str) (hn : 1 ≤ n ∧ n ≤ 1000) (hc : ∀ j : Int, 0 ≤ j → j < n → (c [j]).length = 256) : TriS Try.prog 43 [.l n [.s c] false] []
    (fun r σ => ∃ (c' : Ix → Str) (wn : Ix → Int) (ws : Ix → Str), (∀ j : Int, 0 ≤ j → j < n → c' [j] = c [j]) ∧ r = .tu [.pt 100 0, .i .i64 0] ∧ σ = refS 100 101 102 n 0 0 0 0 0 (-1) c' wn ws) := by
  refine tri_of TT_ok mixed (OR := ORD43) (fn := Try.f43) (c := body Try.f43) (by kernel_rfl) (by kernel_rfl) (by kernel_rfl) (by kernel_rfl) (by simp [Try.f43]) fun H Tri hH hTri => ?_
  cbv
  split
  case h_1 => rename_i hh; exact absurd hh (by rw [hH]; simp; omega)
  cbv
  split
  case h_1 => rename_i hh; exact absurd hh (by rw [hH]; simp; omega)
  cbv
  refine ⟨0, Int × (Ix → Str), fun ((i, c') : Int × (Ix → Str)) => ⟨[(4, V.pt 100 0), (0, V.l n [C.s c] false), (5, .i .i64 i), (3, V.i IntKind.i64 0), (2, V.v (Value.pointer none))], [(100, .st [.sl 103 0 i 1 false, .l 0 [] true, .i .i64 0, .i .i64 0, .i .i64 0, .i .i64 (-1)] 66), (103, .ar i [.s c'] 9)], 104⟩, fun ((i, c') : Int × (Ix → Str)) => (0 ≤ i ∧ i ≤ n) ∧ (∀ j, 0 ≤ j → j < i → c' [j] = c [j]), fun ((i, c') : Int × (Ix → Str)) => (n - i).toNat, ⟨(0, fun _ => []), ⟨?p19003, ?p19004⟩, ?s19001⟩, ?r19002⟩
  case s19001 => cbv <;> repeat' first | exact rfl | exact trivial | exact Or.inr trivial | exact Or.inl rfl | apply And.intro | omega | (split <;> first | exact trivial | (exfalso; simp_all; done)) | (subst_vars; simp [o0]; done)
  case p19003 => omega
  case p19004 => omega
  rintro ⟨i, c'⟩ ⟨hi, hc'⟩
  cbv
  split
  · rename_i h19005
    simp only [hH, decide_eq_true_eq] at h19005
    cbv
    generalize e19007 : H Int _ = v19006
    simp only [hH, Int.zero_add, Int.add_zero, o0, Int.sub_zero] at e19007
    obtain ⟨e19007, e19007a, e19007b⟩ := castN e19007.symm
    generalize e19009 : H (List UInt8) _ = s19008
    simp only [hH, Int.zero_add, Int.add_zero, o0, Int.sub_zero] at e19009
    generalize e19011 : (fun ix => c (i :: ix)) = c19010
    refine ⟨by rw [hH]; simp; omega, ?_⟩
    cbv
    split
    case h_1 => rename_i hh; exact absurd hh (by simp only [hH]; (grind))
    cbv
    generalize e19013 : H Int _ = v19012
    simp only [hH, Int.zero_add, Int.add_zero, o0, Int.sub_zero] at e19013
    replace e19013 := (IntWalk.i64_in _ (by omega)).symm.trans e19013
    generalize e19015 : H Int _ = v19014
    simp only [hH, Int.zero_add, Int.add_zero, o0, Int.sub_zero] at e19015
    generalize e19017 : H (List UInt8) _ = s19016
    simp only [hH, Int.zero_add, Int.add_zero, o0, Int.sub_zero] at e19017
    generalize e19019 : (fun ix => c (i :: ix)) = c19018
    generalize e19021 : (fun ix => bif decide (hd ix < i) then c' ix else s19016) = c19020
    refine ⟨by rw [hH]; simp; omega, ?_⟩
    cbv
    refine ⟨by rw [hH]; simp, ?_⟩
    cbv
    refine ⟨by rw [hH]; simp; omega, ?_⟩
    cbv
    generalize e19023 : H Bool _ = b19022
    simp only [hH] at e19023
    replace e19023 := boolN e19023
    generalize e19025 : H Bool _ = b19024
    simp only [hH] at e19025
    replace e19025 := boolN e19025
    refine' ⟨(_, _), ⟨⟨?p19026, ?p19027⟩, ?p19028⟩, ?m19029, ?s19030⟩
    case s19030 => cbv <;> repeat' first | exact rfl | exact trivial | exact Or.inr trivial | exact Or.inl rfl | apply And.intro | omega | (split <;> first | exact trivial | (exfalso; simp_all; done)) | (subst_vars; simp [o0]; done)
    case m19029 => simp; omega
    case p19026 => omega
    case p19027 => omega
    case p19028 => (intro j _ _; subst_vars; simp only [hH, AM.hd, Int.zero_add, Bool.cond_decide]; grind)
  · rename_i h19031
    simp only [hH, decide_eq_false_iff_not, Int.not_lt, Int.not_le] at h19031
    cbv
    generalize e19033 : H Bool _ = b19032
    simp only [hH] at e19033
    replace e19033 := boolN e19033
    refine' ⟨_, _, ⟨_, ⟨_, ⟨_, ⟨?p19034, ⟨rfl, rfl⟩⟩⟩⟩⟩, ?c19035, ?s19036⟩
    case s19036 => cbv <;> repeat' first | exact rfl | exact trivial | exact Or.inr trivial | exact Or.inl rfl | apply And.intro | omega | (split <;> first | exact trivial | (exfalso; simp_all; done)) | (subst_vars; simp [o0]; done)
    case c19035 => rfl
    case p19034 => grind
    exact fun _ => 0
    exact fun _ => []
theorem ofR_bad (n : Int) (c : Ix → Str) (hn : 0 ≤ n ∧ n ≤ 1000000000) (hc : ¬ (1 ≤ n ∧ n ≤ 1000 ∧ ∀ j : Int, 0 ≤ j → j < n → (c [j]).length = 256)) : TriS Try.prog 43 [.l n [.s c] false] []
    (fun r σ => r = .tu [nilp, .i .i64 1] ∧ σ = []) := by
  refine tri_of TT_ok mixed (OR := ORD43) (fn := Try.f43) (c := body Try.f43) (by kernel_rfl) (by kernel_rfl) (by kernel_rfl) (by kernel_rfl) (by simp [Try.f43]) fun H Tri hH hTri => ?_
  cbv
  split
  · rename_i h25000
    simp only [hH, decide_eq_true_eq] at h25000
    cbv
    generalize e25002 : H Bool _ = b25001
    simp only [hH] at e25002
    replace e25002 := boolN e25002
    refine' ⟨_, _, ⟨rfl, rfl⟩, ?c25003, ?s25004⟩
    case s25004 => cbv <;> repeat' first | exact rfl | exact trivial | exact Or.inr trivial | exact Or.inl rfl | apply And.intro | omega | (split <;> first | exact trivial | (exfalso; simp_all; done)) | (subst_vars; simp [o0]; done)
    case c25003 => rfl
  · rename_i h25005
    simp only [hH, decide_eq_false_iff_not, Int.not_lt, Int.not_le] at h25005
    cbv
    split
    · rename_i h25006
      simp only [hH, decide_eq_true_eq] at h25006
      cbv
      generalize e25008 : H Bool _ = b25007
      simp only [hH] at e25008
      replace e25008 := boolN e25008
      generalize e25010 : H Bool _ = b25009
      simp only [hH] at e25010
      replace e25010 := boolN e25010
      refine' ⟨_, _, ⟨rfl, rfl⟩, ?c25011, ?s25012⟩
      case s25012 => cbv <;> repeat' first | exact rfl | exact trivial | exact Or.inr trivial | exact Or.inl rfl | apply And.intro | omega | (split <;> first | exact trivial | (exfalso; simp_all; done)) | (subst_vars; simp [o0]; done)
      case c25011 => rfl
    · rename_i h25013
      simp only [hH, decide_eq_false_iff_not, Int.not_lt, Int.not_le] at h25013
      cbv
      refine ⟨0, Int × (Ix → Str), fun ((i, c') : Int × (Ix → Str)) => ⟨[(4, V.pt 100 0), (0, V.l n [C.s c] false), (5, .i .i64 i), (3, V.i IntKind.i64 0), (2, V.v (Value.pointer none))], [(100, .st [.sl 103 0 i 1 false, .l 0 [] true, .i .i64 0, .i .i64 0, .i .i64 0, .i .i64 (-1)] 66), (103, .ar i [.s c'] 9)], 104⟩, fun ((i, c') : Int × (Ix → Str)) => (0 ≤ i ∧ i ≤ n) ∧ (∀ j, 0 ≤ j → j < i → (c [j]).length = 256), fun ((i, c') : Int × (Ix → Str)) => (n - i).toNat, ⟨(0, fun _ => []), ⟨?p25017, ?p25018⟩, ?s25015⟩, ?r25016⟩
      case s25015 => cbv <;> repeat' first | exact rfl | exact trivial | exact Or.inr trivial | exact Or.inl rfl | apply And.intro | omega | (split <;> first | exact trivial | (exfalso; simp_all; done)) | (subst_vars; simp [o0]; done)
      case p25017 => omega
      case p25018 => omega
      rintro ⟨i, c'⟩ ⟨hi, hc'⟩
      cbv
      split
      · rename_i h25019
        simp only [hH, decide_eq_true_eq] at h25019
        cbv
        generalize e25021 : H Int _ = v25020
        simp only [hH, Int.zero_add, Int.add_zero, o0, Int.sub_zero] at e25021
        obtain ⟨e25021, e25021a, e25021b⟩ := castN e25021.symm
        generalize e25023 : H (List UInt8) _ = s25022
        simp only [hH, Int.zero_add, Int.add_zero, o0, Int.sub_zero] at e25023
        generalize e25025 : (fun ix => c (i :: ix)) = c25024
        refine ⟨by rw [hH]; simp; omega, ?_⟩
        cbv
        split
        · rename_i h25026
          simp only [hH, decide_eq_true_eq] at h25026
          cbv
          generalize e25028 : H Bool _ = b25027
          simp only [hH] at e25028
          replace e25028 := boolN e25028
          generalize e25030 : H Bool _ = b25029
          simp only [hH] at e25030
          replace e25030 := boolN e25030
          refine' ⟨_, _, ⟨rfl, rfl⟩, ?c25031, ?s25032⟩
          case s25032 => cbv <;> repeat' first | exact rfl | exact trivial | exact Or.inr trivial | exact Or.inl rfl | apply And.intro | omega | (split <;> first | exact trivial | (exfalso; simp_all; done)) | (subst_vars; simp [o0]; done)
          case c25031 => rfl
        · rename_i h25033
          simp only [hH, decide_eq_false_iff_not, Int.not_lt, Int.not_le] at h25033
          cbv
          generalize e25035 : H Int _ = v25034
          simp only [hH, Int.zero_add, Int.add_zero, o0, Int.sub_zero] at e25035
          replace e25035 := (IntWalk.i64_in _ (by omega)).symm.trans e25035
          generalize e25037 : H Int _ = v25036
          simp only [hH, Int.zero_add, Int.add_zero, o0, Int.sub_zero] at e25037
          generalize e25039 : H (List UInt8) _ = s25038
          simp only [hH, Int.zero_add, Int.add_zero, o0, Int.sub_zero] at e25039
          generalize e25041 : (fun ix => c (i :: ix)) = c25040
          generalize e25043 : (fun ix => bif decide (hd ix < i) then c' ix else s25038) = c25042
          refine ⟨by rw [hH]; simp; omega, ?_⟩
          cbv
          refine ⟨by rw [hH]; simp, ?_⟩
          cbv
          refine ⟨by rw [hH]; simp; omega, ?_⟩
          cbv
          generalize e25045 : H Bool _ = b25044
          simp only [hH] at e25045
          replace e25045 := boolN e25045
          generalize e25047 : H Bool _ = b25046
          simp only [hH] at e25047
          replace e25047 := boolN e25047
          refine' ⟨(_, _), ⟨⟨?p25048, ?p25049⟩, ?p25050⟩, ?m25051, ?s25052⟩
          case s25052 => cbv <;> repeat' first | exact rfl | exact trivial | exact Or.inr trivial | exact Or.inl rfl | apply And.intro | omega | (split <;> first | exact trivial | (exfalso; simp_all; done)) | (subst_vars; simp [o0]; done)
          case m25051 => simp; omega
          case p25048 => omega
          case p25049 => omega
          case p25050 => grind
      · rename_i h25053
        simp only [hH, decide_eq_false_iff_not, Int.not_lt, Int.not_le] at h25053
        cbv
        generalize e25055 : H Bool _ = b25054
        simp only [hH] at e25055
        replace e25055 := boolN e25055
        (exfalso; grind)
end
theorem torn0 (c : Int) : tornF (filledF c) (0 : Int).toNat = filledF 238 := by simp [tornF, filledF]
theorem live04 : TriS Try.prog 22 [] [] (fun r σ => r = .b true ∧ σ = []) := by
  refine tri_of TT_ok mixed (OR := ORD22) (fn := Try.f22) (c := body Try.f22) (by kernel_rfl) (by kernel_rfl) (by kernel_rfl) (by kernel_rfl) (by simp [Try.f22]) fun H Tri hH hTri => ?_
  cbv
  refine' ⟨[], ⟨⟨rfl, rfl⟩, rfl⟩, _, _, ?x31001, ?s31002, _, hTri _ _ _ _ (newP_ok _ ?a31000), ?k31003⟩
  case x31001 => cbv <;> rfl
  case s31002 => cbv <;> rfl
  case a31000 => omega
  rintro r31008 σ31009 ⟨x31004, ⟨x31005, ⟨x31006, ⟨h31007, ⟨rfl, rfl⟩⟩⟩⟩⟩
  cbv
  refine' ⟨[], ⟨⟨rfl, rfl⟩, rfl⟩, _, _, ?x31015, ?s31016, _, hTri _ _ _ _ (disk_new_bad _ ?a31014), ?k31017⟩
  case x31015 => cbv <;> rfl
  case s31016 => cbv <;> rfl
  case a31014 => omega
  rintro r31018 σ31019 ⟨rfl, rfl⟩
  cbv
  split
  case h_1 => rename_i hh; exact absurd hh (by rw [hH]; simp; try omega)
  cbv
  split
  case h_1 => rename_i hh; exact absurd hh (by rw [hH]; simp; try omega)
  cbv
  generalize e31021 : H Bool _ = b31020
  simp only [hH] at e31021
  replace e31021 := boolN e31021
  obtain rfl : b31020 = false := Bool.eq_false_iff.2 fun q => absurd (e31021.1 q) (by decide)
  generalize e31023 : H Bool _ = b31022
  simp only [hH] at e31023
  replace e31023 := boolN e31023
  obtain rfl : b31022 = false := Bool.eq_false_iff.2 fun q => absurd (e31023.1 q) (by decide)
  refine' ⟨[], ⟨⟨rfl, rfl⟩, rfl⟩, _, _, ?x31024, ?s31025, _, hTri _ _ _ _ (filled_tri _), ?k31026⟩
  case x31024 => cbv <;> rfl
  case s31025 => cbv <;> rfl
  rintro r31029 σ31030 ⟨x31027, ⟨h31028, ⟨rfl, rfl⟩⟩⟩
  cbv
  refine' ⟨[200, 201, 202], ⟨⟨rfl, rfl⟩, rfl⟩, _, _, ?x31042, ?s31043, _, hTri _ _ _ _ (writeP_ok _ _ _ _ _ _ _ _ _ _ _ _ ?a31038 ?a31039 ?a31040 ?a31041), ?k31044⟩
  case x31042 => cbv <;> rfl
  case s31043 => cbv <;> rfl
  case a31038 => omega
  case a31039 => (subst_vars; exact ⟨by omega, filled_len _, by simp⟩)
  case a31040 => omega
  case a31041 => omega
  rintro r31055 σ31056 ⟨v31045, ⟨v31046, ⟨v31047, ⟨x31048, ⟨x31049, ⟨h31050, ⟨h31051, ⟨h31052, ⟨h31053, ⟨h31054, ⟨rfl, rfl⟩⟩⟩⟩⟩⟩⟩⟩⟩⟩⟩
  cbv
  refine' ⟨[200, 201, 260], ⟨⟨rfl, rfl⟩, rfl⟩, _, _, ?x31062, ?s31063, _, hTri _ _ _ _ (flushP_ok _ _ _ _ _ _ _ _ _ _ ?a31057 ?a31058 ?a31059 ?a31060 ?a31061), ?k31064⟩
  case x31062 => cbv <;> rfl
  case s31063 => cbv <;> rfl
  case a31057 => omega
  case a31058 => omega
  case a31059 => omega
  case a31060 => omega
  case a31061 => (intro j _ _; subst_vars; simp only [hH, AM.hd, Int.zero_add, Bool.cond_decide]; grind)
  rintro r31073 σ31074 ⟨v31065, ⟨v31066, ⟨x31067, ⟨x31068, ⟨x31069, ⟨h31070, ⟨h31071, ⟨h31072, ⟨rfl, rfl⟩⟩⟩⟩⟩⟩⟩⟩⟩
  cbv
  refine' ⟨[], ⟨⟨rfl, rfl⟩, rfl⟩, _, _, ?x31075, ?s31076, _, hTri _ _ _ _ (filled_tri _), ?k31077⟩
  case x31075 => cbv <;> rfl
  case s31076 => cbv <;> rfl
  rintro r31080 σ31081 ⟨x31078, ⟨h31079, ⟨rfl, rfl⟩⟩⟩
  cbv
  refine' ⟨[200, 201, 260], ⟨⟨rfl, rfl⟩, rfl⟩, _, _, ?x31093, ?s31094, _, hTri _ _ _ _ (writeP_ok _ _ _ _ _ _ _ _ _ _ _ _ ?a31089 ?a31090 ?a31091 ?a31092), ?k31095⟩
  case x31093 => cbv <;> rfl
  case s31094 => cbv <;> rfl
  case a31089 => omega
  case a31090 => (subst_vars; exact ⟨by omega, filled_len _, by simp⟩)
  case a31091 => omega
  case a31092 => omega
  rintro r31106 σ31107 ⟨v31096, ⟨v31097, ⟨v31098, ⟨x31099, ⟨x31100, ⟨h31101, ⟨h31102, ⟨h31103, ⟨h31104, ⟨h31105, ⟨rfl, rfl⟩⟩⟩⟩⟩⟩⟩⟩⟩⟩⟩
  cbv
  refine' ⟨[], ⟨⟨rfl, rfl⟩, rfl⟩, _, _, ?x31108, ?s31109, _, hTri _ _ _ _ (filled_tri _), ?k31110⟩
  case x31108 => cbv <;> rfl
  case s31109 => cbv <;> rfl
  rintro r31113 σ31114 ⟨x31111, ⟨h31112, ⟨rfl, rfl⟩⟩⟩
  cbv
  refine' ⟨[200, 201, 320], ⟨⟨rfl, rfl⟩, rfl⟩, _, _, ?x31126, ?s31127, _, hTri _ _ _ _ (writeP_ok _ _ _ _ _ _ _ _ _ _ _ _ ?a31122 ?a31123 ?a31124 ?a31125), ?k31128⟩
  case x31126 => cbv <;> rfl
  case s31127 => cbv <;> rfl
  case a31122 => omega
  case a31123 => (subst_vars; exact ⟨by omega, filled_len _, by simp⟩)
  case a31124 => omega
  case a31125 => omega
  rintro r31139 σ31140 ⟨v31129, ⟨v31130, ⟨v31131, ⟨x31132, ⟨x31133, ⟨h31134, ⟨h31135, ⟨h31136, ⟨h31137, ⟨h31138, ⟨rfl, rfl⟩⟩⟩⟩⟩⟩⟩⟩⟩⟩⟩
  cbv
  refine' ⟨[200, 201, 360], ⟨⟨rfl, rfl⟩, rfl⟩, _, _, ?x31144, ?s31145, _, hTri _ _ _ _ (readP_ok _ _ _ _ _ _ _ _ _ _ _ ?a31141 ?a31142 ?a31143), ?k31146⟩
  case x31144 => cbv <;> rfl
  case s31145 => cbv <;> rfl
  case a31141 => omega
  case a31142 => omega
  case a31143 => omega
  rintro r31151 σ31152 ⟨v31147, ⟨x31148, ⟨h31149, ⟨h31150, ⟨rfl, rfl⟩⟩⟩⟩⟩
  cbv
  refine' ⟨[200, 201, 360], ⟨⟨rfl, rfl⟩, rfl⟩, _, _, ?x31166, ?s31167, _, hTri _ _ _ _ (crashP_ok _ _ _ _ _ _ _ _ _ _ _ _ _ _ _ ?a31161 ?a31162 ?a31163 ?a31164 ?a31165), ?k31168⟩
  case x31166 => cbv <;> rfl
  case s31167 => cbv <;> rfl
  case a31161 => omega
  case a31162 => omega
  case a31163 => (intro j _ _; subst_vars; simp only [hH, AM.hd, Int.zero_add, Bool.cond_decide]; grind)
  case a31164 => (intro j j0 j1; subst_vars; rcases (by omega : j = 0 ∨ j = 1) with rfl | rfl <;> simp [AM.hd, filled_len])
  case a31165 => (subst_vars; exact ⟨by omega, fun i i0 i1 => (by obtain rfl : i = 0 := (by omega); simp [AM.hd]), fun i j i0 i1 i2 => (by omega)⟩)
  rintro r31173 σ31174 ⟨x31169, ⟨x31170, ⟨x31171, ⟨h31172, ⟨rfl, rfl⟩⟩⟩⟩⟩
  cbv
  refine' ⟨[200, 201, 360], ⟨⟨rfl, rfl⟩, rfl⟩, _, _, ?x31178, ?s31179, _, hTri _ _ _ _ (readP_ok _ _ _ _ _ _ _ _ _ _ _ ?a31175 ?a31176 ?a31177), ?k31180⟩
  case x31178 => cbv <;> rfl
  case s31179 => cbv <;> rfl
  case a31175 => omega
  case a31176 => omega
  case a31177 => omega
  rintro r31185 σ31186 ⟨v31181, ⟨x31182, ⟨h31183, ⟨h31184, ⟨rfl, rfl⟩⟩⟩⟩⟩
  cbv
  refine' ⟨[200, 201, 360], ⟨⟨rfl, rfl⟩, rfl⟩, _, _, ?x31187, ?s31188, _, hTri _ _ _ _ (counts_tri _ _ _ _ _ _ _ _ _ _), ?k31189⟩
  case x31187 => cbv <;> rfl
  case s31188 => cbv <;> rfl
  rintro r31190 σ31191 ⟨rfl, rfl⟩
  cbv
  refine' ⟨[200, 201, 360], ⟨⟨rfl, rfl⟩, rfl⟩, _, _, ?x31193, ?s31194, _, hTri _ _ _ _ (imageP _ _ _ _ _ _ _ _ _ _ ?a31192), ?k31195⟩
  case x31193 => cbv <;> rfl
  case s31194 => cbv <;> rfl
  case a31192 => omega
  rintro r31198 σ31199 ⟨x31196, ⟨h31197, ⟨rfl, rfl⟩⟩⟩
  cbv
  split
  case h_1 => rename_i hh; exact absurd hh (by rw [hH]; simp; try omega)
  cbv
  split
  case h_2 => rename_i hh; exact absurd hh (by rw [hH]; simp; try omega)
  cbv
  split
  case h_2 => rename_i hh; exact absurd hh (by rw [hH]; simp; omega)
  cbv
  split
  case h_2 => rename_i hh; exact absurd hh (by rw [hH]; simp; try omega)
  cbv
  split
  case h_2 => rename_i hh; exact absurd hh (by rw [hH]; simp; try omega)
  cbv
  generalize e31201 : H Bool _ = b31200
  simp only [hH] at e31201
  replace e31201 := boolN e31201
  obtain rfl : b31200 = true := e31201.2 (by decide)
  generalize e31203 : H Bool _ = b31202
  simp only [hH] at e31203
  replace e31203 := boolN e31203
  generalize e31205 : H Bool _ = b31204
  simp only [hH] at e31205
  replace e31205 := boolN e31205
  obtain rfl : b31204 = false := Bool.eq_false_iff.2 fun q => absurd (e31205.1 q) (by decide)
  refine' ⟨[], ⟨⟨rfl, rfl⟩, rfl⟩, _, _, ?x31206, ?s31207, _, hTri _ _ _ _ (filled_tri _), ?k31208⟩
  case x31206 => cbv <;> rfl
  case s31207 => cbv <;> rfl
  rintro r31211 σ31212 ⟨x31209, ⟨h31210, ⟨rfl, rfl⟩⟩⟩
  cbv
  split
  case h_2 => rename_i hh; exact absurd hh (by simp only [hH]; (subst_vars; simp [lastW, flushed, crashed, AM.hd, rng, tornF, filledF]; done))
  cbv
  split
  case h_2 => rename_i hh; exact absurd hh (by rw [hH]; simp; try omega)
  cbv
  split
  case h_2 => rename_i hh; exact absurd hh (by rw [hH]; simp; try omega)
  cbv
  generalize e31214 : H Bool _ = b31213
  simp only [hH] at e31214
  replace e31214 := boolN e31214
  obtain rfl : b31213 = true := e31214.2 (by decide)
  generalize e31216 : H Bool _ = b31215
  simp only [hH] at e31216
  replace e31216 := boolN e31216
  refine' ⟨[], ⟨⟨rfl, rfl⟩, rfl⟩, _, _, ?x31217, ?s31218, _, hTri _ _ _ _ (filled_tri _), ?k31219⟩
  case x31217 => cbv <;> rfl
  case s31218 => cbv <;> rfl
  rintro r31222 σ31223 ⟨x31220, ⟨h31221, ⟨rfl, rfl⟩⟩⟩
  cbv
  split
  case h_2 => rename_i hh; exact absurd hh (by simp only [hH]; (subst_vars; simp [lastW, flushed, crashed, AM.hd, rng, tornF, filledF]; done))
  cbv
  generalize e31225 : H Int _ = v31224
  simp only [hH, Int.zero_add, Int.add_zero, o0, Int.sub_zero] at e31225
  subst e31225
  generalize e31227 : H (List UInt8) _ = s31226
  simp only [hH, Int.zero_add, Int.add_zero, o0, Int.sub_zero] at e31227
  refine ⟨by rw [hH]; simp, ?_⟩
  cbv
  generalize e31229 : H Bool _ = b31228
  simp only [hH] at e31229
  replace e31229 := boolN e31229
  refine' ⟨[], ⟨⟨rfl, rfl⟩, rfl⟩, _, _, ?x31230, ?s31231, _, hTri _ _ _ _ (filled_tri _), ?k31232⟩
  case x31230 => cbv <;> rfl
  case s31231 => cbv <;> rfl
  rintro r31235 σ31236 ⟨x31233, ⟨h31234, ⟨rfl, rfl⟩⟩⟩
  cbv
  generalize e31238 : H Int _ = v31237
  simp only [hH, Int.zero_add, Int.add_zero, o0, Int.sub_zero] at e31238
  subst e31238
  generalize e31240 : H (List UInt8) _ = s31239
  simp only [hH, Int.zero_add, Int.add_zero, o0, Int.sub_zero] at e31240
  refine ⟨?q31241, ?_⟩
  case q31241 => simp_all; done
  cbv
  split
  case h_2 => rename_i hh; exact absurd hh (by simp only [hH]; (have h9 := ‹∀ j : Int, 0 ≤ j → j < 3 → (_ : Ix → Str) [j] = (_ : Ix → Str) [j]› 1 (by omega) (by omega); subst_vars; rw [h9]; simp [lastW, flushed, crashed, AM.hd, rng, tornF, filledF]; done))
  cbv
  split
  case h_2 => rename_i hh; exact absurd hh (by rw [hH]; simp; omega)
  cbv
  split
  case h_2 => rename_i hh; exact absurd hh (by rw [hH]; simp; omega)
  cbv
  split
  case h_2 => rename_i hh; exact absurd hh (by rw [hH]; simp; omega)
  cbv
  generalize e31243 : H Bool _ = b31242
  simp only [hH] at e31243
  replace e31243 := boolN e31243
  generalize e31245 : H Bool _ = b31244
  simp only [hH] at e31245
  replace e31245 := boolN e31245
  generalize e31247 : H Bool _ = b31246
  simp only [hH] at e31247
  replace e31247 := boolN e31247
  generalize e31249 : H Bool _ = b31248
  simp only [hH] at e31249
  replace e31249 := boolN e31249
  refine' ⟨[200, 201, 360], ⟨⟨rfl, rfl⟩, rfl⟩, _, _, ?x31250, ?s31251, _, hTri _ _ _ _ (size_tri _ _ _ _ _ _ _ _ _ _), ?k31252⟩
  case x31250 => cbv <;> rfl
  case s31251 => cbv <;> rfl
  rintro r31253 σ31254 ⟨rfl, rfl⟩
  cbv
  split
  case h_2 => rename_i hh; exact absurd hh (by rw [hH]; simp; try omega)
  cbv
  generalize e31256 : H Bool _ = b31255
  simp only [hH] at e31256
  replace e31256 := boolN e31256
  obtain rfl : b31255 = true := e31256.2 (by decide)
  refine' ⟨[200, 201, 360], ⟨⟨rfl, rfl⟩, rfl⟩, _, _, ?x31258, ?s31259, _, hTri _ _ _ _ (waitsP _ _ _ _ _ _ _ _ _ _ ?a31257), ?k31260⟩
  case x31258 => cbv <;> rfl
  case s31259 => cbv <;> rfl
  case a31257 => omega
  rintro r31263 σ31264 ⟨x31261, ⟨h31262, ⟨rfl, rfl⟩⟩⟩
  cbv
  generalize e31266 : H Bool _ = b31265
  simp only [hH] at e31266
  replace e31266 := boolN e31266
  obtain rfl : b31265 = true := e31266.2 (by decide)
  refine' ⟨_, _, ⟨rfl, rfl⟩, ?c31267, ?s31268⟩
  case s31268 => cbv <;> repeat' first | exact rfl | exact trivial | exact Or.inr trivial | exact Or.inl rfl | apply And.intro | omega | (split <;> first | exact trivial | (exfalso; simp_all; done)) | (subst_vars; simp [o0]; done)
  case c31267 => rfl
end Go.Proofs.Ytabmdohibkkflaa.AM

namespace Go.Proofs.Ytabmdohibkkflaa.AM
open Go
set_option maxRecDepth 100000
set_option maxHeartbeats 4000000
/-! a disk that is none -/
theorem hasN (q : Int) : TriS Try.prog 52 [nilp, .i .i64 q] [] (fun r σ => r = .b false ∧ σ = []) := by
  refine tri_of TT_ok mixed (OR := ORD52) (fn := Try.f52) (c := body Try.f52) (by kernel_rfl) (by kernel_rfl) (by kernel_rfl) (by kernel_rfl) (by simp [Try.f52]) fun H Tri hH hTri => ?_
  cbv
  refine' ⟨_, _, ⟨rfl, rfl⟩, ?c10000, ?s10001⟩
  case s10001 => cbv <;> repeat' first | exact rfl | exact trivial | exact Or.inr trivial | exact Or.inl rfl | apply And.intro | omega | (split <;> first | exact trivial | (exfalso; simp_all; done)) | (subst_vars; simp [o0]; done)
  case c10000 => rfl
theorem mayN (K t a : Int) (kf : Ix → Int) (fl : Bool) : TriS Try.prog 55 [nilp, .l K [.i .i64 kf] fl, .i .i64 t, .i .i64 a] [] (fun r σ => r = .b false ∧ σ = []) := by
  refine tri_of TT_ok mixed (OR := ORD55) (fn := Try.f55) (c := body Try.f55) (by kernel_rfl) (by kernel_rfl) (by kernel_rfl) (by kernel_rfl) (by simp [Try.f55]) fun H Tri hH hTri => ?_
  cbv
  refine' ⟨_, _, ⟨rfl, rfl⟩, ?c13000, ?s13001⟩
  case s13001 => cbv <;> repeat' first | exact rfl | exact trivial | exact Or.inr trivial | exact Or.inl rfl | apply And.intro | omega | (split <;> first | exact trivial | (exfalso; simp_all; done)) | (subst_vars; simp [o0]; done)
  case c13000 => rfl
theorem nRead (q : Int) : TriS Try.prog 30 [nilp, .i .i64 q] [] (fun r σ => r = .tu [.s [], .i .i64 1] ∧ σ = []) := by
  refine tri_of2 TT_ok mixed (OR := ORD30) (fn := Try.f30) (c := body Try.f30) (by kernel_rfl) (by kernel_rfl) (by kernel_rfl) (by kernel_rfl) (by simp [Try.f30]) fun H Tri TrI hH hTri hTrI => ?_
  cbv
  refine' ⟨[], ⟨⟨rfl, rfl⟩, rfl⟩, _, _, ?x16000, ?s16001, _, hTri _ _ _ _ (hasN _), ?k16002⟩
  case x16000 => cbv <;> rfl
  case s16001 => cbv <;> rfl
  rintro r16003 σ16004 ⟨rfl, rfl⟩
  cbv
  refine' ⟨_, _, ⟨rfl, rfl⟩, ?c16005, ?s16006⟩
  case s16006 => cbv <;> repeat' first | exact rfl | exact trivial | exact Or.inr trivial | exact Or.inl rfl | apply And.intro | omega | (split <;> first | exact trivial | (exfalso; simp_all; done)) | (subst_vars; simp [o0]; done)
  case c16005 => rfl
theorem nFuse (q : Int) : TriS Try.prog 35 [nilp, .i .i64 q] [] (fun r σ => r = .tu [] ∧ σ = []) := by
  refine tri_of TT_ok mixed (OR := ORD35) (fn := Try.f35) (c := body Try.f35) (by kernel_rfl) (by kernel_rfl) (by kernel_rfl) (by kernel_rfl) (by simp [Try.f35]) fun H Tri hH hTri => ?_
  cbv
  refine' ⟨_, _, ⟨rfl, rfl⟩, ?c19000, ?s19001⟩
  case s19001 => cbv <;> repeat' first | exact rfl | exact trivial | exact Or.inr trivial | exact Or.inl rfl | apply And.intro | omega | (split <;> first | exact trivial | (exfalso; simp_all; done)) | (subst_vars; simp [o0]; done)
  case c19000 => rfl
theorem nCounts  : TriS Try.prog 37 [nilp] [] (fun r σ => r = .tu [.i .i64 0, .i .i64 0, .i .i64 0] ∧ σ = []) := by
  refine tri_of TT_ok mixed (OR := ORD37) (fn := Try.f37) (c := body Try.f37) (by kernel_rfl) (by kernel_rfl) (by kernel_rfl) (by kernel_rfl) (by simp [Try.f37]) fun H Tri hH hTri => ?_
  cbv
  refine' ⟨_, _, ⟨rfl, rfl⟩, ?c22000, ?s22001⟩
  case s22001 => cbv <;> repeat' first | exact rfl | exact trivial | exact Or.inr trivial | exact Or.inl rfl | apply And.intro | omega | (split <;> first | exact trivial | (exfalso; simp_all; done)) | (subst_vars; simp [o0]; done)
  case c22000 => rfl
theorem nWrite (q : Int) (s : Str) : TriS Try.prog 23 [nilp, .i .i64 q, .s s] [] (fun r σ => r = .i .i64 1 ∧ σ = []) := by
  refine tri_of TT_ok mixed (OR := ORD23) (fn := Try.f23) (c := body Try.f23) (by kernel_rfl) (by kernel_rfl) (by kernel_rfl) (by kernel_rfl) (by simp [Try.f23]) fun H Tri hH hTri => ?_
  cbv
  refine' ⟨[], ⟨⟨rfl, rfl⟩, rfl⟩, _, _, ?x25000, ?s25001, _, hTri _ _ _ _ (hasN _), ?k25002⟩
  case x25000 => cbv <;> rfl
  case s25001 => cbv <;> rfl
  rintro r25003 σ25004 ⟨rfl, rfl⟩
  cbv
  refine' ⟨_, _, ⟨rfl, rfl⟩, ?c25005, ?s25006⟩
  case s25006 => cbv <;> repeat' first | exact rfl | exact trivial | exact Or.inr trivial | exact Or.inl rfl | apply And.intro | omega | (split <;> first | exact trivial | (exfalso; simp_all; done)) | (subst_vars; simp [o0]; done)
  case c25005 => rfl
theorem nFlush  : TriS Try.prog 25 [nilp] [] (fun r σ => r = .i .i64 0 ∧ σ = []) := by
  refine tri_of TT_ok mixed (OR := ORD25) (fn := Try.f25) (c := body Try.f25) (by kernel_rfl) (by kernel_rfl) (by kernel_rfl) (by kernel_rfl) (by simp [Try.f25]) fun H Tri hH hTri => ?_
  cbv
  refine' ⟨_, _, ⟨rfl, rfl⟩, ?c28000, ?s28001⟩
  case s28001 => cbv <;> repeat' first | exact rfl | exact trivial | exact Or.inr trivial | exact Or.inl rfl | apply And.intro | omega | (split <;> first | exact trivial | (exfalso; simp_all; done)) | (subst_vars; simp [o0]; done)
  case c28000 => rfl
theorem nCrash (K t a : Int) (kf : Ix → Int) (fl : Bool) : TriS Try.prog 26 [nilp, .l K [.i .i64 kf] fl, .i .i64 t, .i .i64 a] [] (fun r σ => r = .i .i64 1 ∧ σ = []) := by
  refine tri_of TT_ok mixed (OR := ORD26) (fn := Try.f26) (c := body Try.f26) (by kernel_rfl) (by kernel_rfl) (by kernel_rfl) (by kernel_rfl) (by simp [Try.f26]) fun H Tri hH hTri => ?_
  cbv
  refine' ⟨[], ⟨⟨rfl, rfl⟩, rfl⟩, _, _, ?x31000, ?s31001, _, hTri _ _ _ _ (mayN _ _ _ _ _), ?k31002⟩
  case x31000 => cbv <;> rfl
  case s31001 => cbv <;> rfl
  rintro r31003 σ31004 ⟨rfl, rfl⟩
  cbv
  refine' ⟨_, _, ⟨rfl, rfl⟩, ?c31005, ?s31006⟩
  case s31006 => cbv <;> repeat' first | exact rfl | exact trivial | exact Or.inr trivial | exact Or.inl rfl | apply And.intro | omega | (split <;> first | exact trivial | (exfalso; simp_all; done)) | (subst_vars; simp [o0]; done)
  case c31005 => rfl
theorem nImage  : TriS Try.prog 27 [nilp] [] (fun r σ => r = .l 0 [] true ∧ σ = []) := by
  refine tri_of TT_ok mixed (OR := ORD27) (fn := Try.f27) (c := body Try.f27) (by kernel_rfl) (by kernel_rfl) (by kernel_rfl) (by kernel_rfl) (by simp [Try.f27]) fun H Tri hH hTri => ?_
  cbv
  refine' ⟨_, _, ⟨rfl, rfl⟩, ?c34000, ?s34001⟩
  case s34001 => cbv <;> repeat' first | exact rfl | exact trivial | exact Or.inr trivial | exact Or.inl rfl | apply And.intro | omega | (split <;> first | exact trivial | (exfalso; simp_all; done)) | (subst_vars; simp [o0]; done)
  case c34000 => rfl
theorem nWaits  : TriS Try.prog 39 [nilp] [] (fun r σ => r = .l 0 [] true ∧ σ = []) := by
  refine tri_of TT_ok mixed (OR := ORD39) (fn := Try.f39) (c := body Try.f39) (by kernel_rfl) (by kernel_rfl) (by kernel_rfl) (by kernel_rfl) (by simp [Try.f39]) fun H Tri hH hTri => ?_
  cbv
  refine' ⟨_, _, ⟨rfl, rfl⟩, ?c37000, ?s37001⟩
  case s37001 => cbv <;> repeat' first | exact rfl | exact trivial | exact Or.inr trivial | exact Or.inl rfl | apply And.intro | omega | (split <;> first | exact trivial | (exfalso; simp_all; done)) | (subst_vars; simp [o0]; done)
  case c37000 => rfl
theorem nSize  : TriS Try.prog 41 [nilp] [] (fun r σ => r = .i .i64 0 ∧ σ = []) := by
  refine tri_of TT_ok mixed (OR := ORD41) (fn := Try.f41) (c := body Try.f41) (by kernel_rfl) (by kernel_rfl) (by kernel_rfl) (by kernel_rfl) (by simp [Try.f41]) fun H Tri hH hTri => ?_
  cbv
  refine' ⟨_, _, ⟨rfl, rfl⟩, ?c40000, ?s40001⟩
  case s40001 => cbv <;> repeat' first | exact rfl | exact trivial | exact Or.inr trivial | exact Or.inl rfl | apply And.intro | omega | (split <;> first | exact trivial | (exfalso; simp_all; done)) | (subst_vars; simp [o0]; done)
  case c40000 => rfl
theorem texts_same (n : Int) (a b : Ix → Str) (fa fb : Bool) (hn : 0 ≤ n ∧ n ≤ 1000000000) (h : ∀ j, 0 ≤ j → j < n → a [j] = b [j]) : TriS Try.prog 29 [.l n [.s a] fa, .l n [.s b] fb] [] (fun r σ => r = .b true ∧ σ = []) :=
  (texts_tri n n a b fa fb hn).mono (by rintro r σ ⟨t, ht, rfl, rfl⟩; obtain rfl : t = true := ht.2 ⟨rfl, h⟩; exact ⟨rfl, rfl⟩)
theorem ints_same (n : Int) (a b : Ix → Int) (fa fb : Bool) (hn : 0 ≤ n ∧ n ≤ 1000000000) (h : ∀ j, 0 ≤ j → j < n → a [j] = b [j]) : TriS Try.prog 38 [.l n [.i .i64 a] fa, .l n [.i .i64 b] fb] [] (fun r σ => r = .b true ∧ σ = []) :=
  (ints_tri n n a b fa fb hn).mono (by rintro r σ ⟨t, ht, rfl, rfl⟩; obtain rfl : t = true := ht.2 ⟨rfl, h⟩; exact ⟨rfl, rfl⟩)
theorem nil04 (dO q c K t a n : Int) (kf : Ix → Int) (img : Ix → Str) (hn : 0 ≤ n) (hK : 0 ≤ K) : TriS Try.prog 10 [.ag [.i .i64 dO, .i .i64 q, .i .u8 c, .l K [.i .i64 kf] false, .i .i64 t, .i .i64 a], .l n [.s img] false] [] (fun r _ => r = .b true) := by
  by_cases hc : 1 ≤ n ∧ n ≤ 1000 ∧ ∀ j : Int, 0 ≤ j → j < n → (img [j]).length = 256
  · refine tri_of TT_ok mixed (OR := ORD10) (fn := Try.f10) (c := body Try.f10) (by kernel_rfl) (by kernel_rfl) (by kernel_rfl) (by kernel_rfl) (by simp [Try.f10]) fun H Tri hH hTri => ?_
    cbv
    split
    · rename_i h48000
      simp only [hH, decide_eq_true_eq] at h48000
      cbv
      generalize e48002 : H Bool _ = b48001
      simp only [hH] at e48002
      replace e48002 := boolN e48002
      refine' ⟨[], ⟨⟨rfl, rfl⟩, rfl⟩, _, _, ?x48003, ?s48004, _, hTri _ _ _ _ live04, ?k48005⟩
      case x48003 => cbv <;> rfl
      case s48004 => cbv <;> rfl
      rintro r48006 σ48007 ⟨rfl, rfl⟩
      cbv
      refine' ⟨_, [], rfl, ?c48008, ?s48009⟩
      case s48009 => cbv <;> repeat' first | exact rfl | exact trivial | exact Or.inr trivial | exact Or.inl rfl | apply And.intro | omega | (split <;> first | exact trivial | (exfalso; simp_all; done)) | (subst_vars; simp [o0]; done)
      case c48008 => rfl
    · rename_i h48010
      simp only [hH, decide_eq_false_iff_not, Int.not_lt, Int.not_le] at h48010
      cbv
      split
      · rename_i h48011
        simp only [hH, decide_eq_true_eq] at h48011
        cbv
        generalize e48013 : H Bool _ = b48012
        simp only [hH] at e48013
        replace e48013 := boolN e48013
        generalize e48015 : H Bool _ = b48014
        simp only [hH] at e48015
        replace e48015 := boolN e48015
        refine' ⟨[], ⟨⟨rfl, rfl⟩, rfl⟩, _, _, ?x48016, ?s48017, _, hTri _ _ _ _ live04, ?k48018⟩
        case x48016 => cbv <;> rfl
        case s48017 => cbv <;> rfl
        rintro r48019 σ48020 ⟨rfl, rfl⟩
        cbv
        refine' ⟨_, [], rfl, ?c48021, ?s48022⟩
        case s48022 => cbv <;> repeat' first | exact rfl | exact trivial | exact Or.inr trivial | exact Or.inl rfl | apply And.intro | omega | (split <;> first | exact trivial | (exfalso; simp_all; done)) | (subst_vars; simp [o0]; done)
        case c48021 => rfl
      · rename_i h48023
        simp only [hH, decide_eq_false_iff_not, Int.not_lt, Int.not_le] at h48023
        cbv
        refine ⟨0, Int, fun (i : Int) => ⟨[(2, V.pt 100 0), (1, V.l n [C.s img] false), (5, .i .i64 i), (4, V.b false)], [(100, O.st [V.i IntKind.i64 dO, V.i IntKind.i64 q, V.i IntKind.u8 c, V.l K [C.i IntKind.i64 kf] false, V.i IntKind.i64 t, V.i IntKind.i64 a] 50)], 101⟩, fun (i : Int) => (0 ≤ i ∧ i ≤ n), fun (i : Int) => (n - i).toNat, ⟨0, ?p48027, ?s48025⟩, ?r48026⟩
        case s48025 => cbv <;> repeat' first | exact rfl | exact trivial | exact Or.inr trivial | exact Or.inl rfl | apply And.intro | omega | (split <;> first | exact trivial | (exfalso; simp_all; done)) | (subst_vars; simp [o0]; done)
        case p48027 => omega
        rintro i hi
        cbv
        split
        · rename_i h48028
          simp only [hH, decide_eq_true_eq] at h48028
          cbv
          generalize e48030 : H Int _ = v48029
          simp only [hH, Int.zero_add, Int.add_zero, o0, Int.sub_zero] at e48030
          obtain ⟨e48030, e48030a, e48030b⟩ := castN e48030.symm
          generalize e48032 : H (List UInt8) _ = s48031
          simp only [hH, Int.zero_add, Int.add_zero, o0, Int.sub_zero] at e48032
          generalize e48034 : (fun ix => img (i :: ix)) = c48033
          refine ⟨by rw [hH]; simp; omega, ?_⟩
          cbv
          split
          · rename_i h48035
            simp only [hH, decide_eq_true_eq] at h48035
            cbv
            generalize e48037 : H Bool _ = b48036
            simp only [hH] at e48037
            replace e48037 := boolN e48037
            generalize e48039 : H Bool _ = b48038
            simp only [hH] at e48039
            replace e48039 := boolN e48039
            refine' ⟨[], ⟨⟨rfl, rfl⟩, rfl⟩, _, _, ?x48040, ?s48041, _, hTri _ _ _ _ live04, ?k48042⟩
            case x48040 => cbv <;> rfl
            case s48041 => cbv <;> rfl
            rintro r48043 σ48044 ⟨rfl, rfl⟩
            cbv
            refine' ⟨_, [], rfl, ?c48045, ?s48046⟩
            case s48046 => cbv <;> repeat' first | exact rfl | exact trivial | exact Or.inr trivial | exact Or.inl rfl | apply And.intro | omega | (split <;> first | exact trivial | (exfalso; simp_all; done)) | (subst_vars; simp [o0]; done)
            case c48045 => rfl
          · rename_i h48047
            simp only [hH, decide_eq_false_iff_not, Int.not_lt, Int.not_le] at h48047
            cbv
            generalize e48049 : H Int _ = v48048
            simp only [hH, Int.zero_add, Int.add_zero, o0, Int.sub_zero] at e48049
            replace e48049 := (IntWalk.i64_in _ (by omega)).symm.trans e48049
            generalize e48051 : H Bool _ = b48050
            simp only [hH] at e48051
            replace e48051 := boolN e48051
            generalize e48053 : H Bool _ = b48052
            simp only [hH] at e48053
            replace e48053 := boolN e48053
            refine' ⟨_, ⟨?p48054, ?p48055⟩, ?m48056, ?s48057⟩
            case s48057 => cbv <;> repeat' first | exact rfl | exact trivial | exact Or.inr trivial | exact Or.inl rfl | apply And.intro | omega | (split <;> first | exact trivial | (exfalso; simp_all; done)) | (subst_vars; simp [o0]; done)
            case m48056 => simp; omega
            case p48054 => omega
            case p48055 => omega
        · rename_i h48058
          simp only [hH, decide_eq_false_iff_not, Int.not_lt, Int.not_le] at h48058
          cbv
          generalize e48060 : H Bool _ = b48059
          simp only [hH] at e48060
          replace e48060 := boolN e48060
          refine' ⟨[], ⟨⟨rfl, rfl⟩, rfl⟩, _, _, ?x48061, ?s48062, _, hTri _ _ _ _ (nRead _), ?k48063⟩
          case x48061 => cbv <;> rfl
          case s48062 => cbv <;> rfl
          rintro r48064 σ48065 ⟨rfl, rfl⟩
          cbv
          refine' ⟨[], ⟨⟨rfl, rfl⟩, rfl⟩, _, _, ?x48066, ?s48067, _, hTri _ _ _ _ (nFuse _), ?k48068⟩
          case x48066 => cbv <;> rfl
          case s48067 => cbv <;> rfl
          rintro r48069 σ48070 ⟨rfl, rfl⟩
          cbv
          refine' ⟨[], ⟨⟨rfl, rfl⟩, rfl⟩, _, _, ?x48071, ?s48072, _, hTri _ _ _ _ nCounts, ?k48073⟩
          case x48071 => cbv <;> rfl
          case s48072 => cbv <;> rfl
          rintro r48074 σ48075 ⟨rfl, rfl⟩
          cbv
          split
          case h_1 => rename_i hh; exact absurd hh (by rw [hH]; simp; try omega)
          cbv
          generalize e48077 : H Bool _ = b48076
          simp only [hH] at e48077
          replace e48077 := boolN e48077
          obtain rfl : b48076 = false := Bool.eq_false_iff.2 fun q => absurd (e48077.1 q) (by decide)
          refine' ⟨[], ⟨⟨rfl, rfl⟩, rfl⟩, _, _, ?x48078, ?s48079, _, hTri _ _ _ _ (filled_tri _), ?k48080⟩
          case x48078 => cbv <;> rfl
          case s48079 => cbv <;> rfl
          rintro r48083 σ48084 ⟨x48081, ⟨h48082, ⟨rfl, rfl⟩⟩⟩
          cbv
          refine' ⟨[], ⟨⟨rfl, rfl⟩, rfl⟩, _, _, ?x48085, ?s48086, _, hTri _ _ _ _ (nWrite _ _), ?k48087⟩
          case x48085 => cbv <;> rfl
          case s48086 => cbv <;> rfl
          rintro r48088 σ48089 ⟨rfl, rfl⟩
          cbv
          split
          case h_1 => rename_i hh; exact absurd hh (by rw [hH]; simp; try omega)
          cbv
          generalize e48091 : H Bool _ = b48090
          simp only [hH] at e48091
          replace e48091 := boolN e48091
          obtain rfl : b48090 = false := Bool.eq_false_iff.2 fun q => absurd (e48091.1 q) (by decide)
          refine' ⟨[], ⟨⟨rfl, rfl⟩, rfl⟩, _, _, ?x48092, ?s48093, _, hTri _ _ _ _ nFlush, ?k48094⟩
          case x48092 => cbv <;> rfl
          case s48093 => cbv <;> rfl
          rintro r48095 σ48096 ⟨rfl, rfl⟩
          cbv
          split
          case h_1 => rename_i hh; exact absurd hh (by rw [hH]; simp; try omega)
          cbv
          generalize e48098 : H Bool _ = b48097
          simp only [hH] at e48098
          replace e48098 := boolN e48098
          obtain rfl : b48097 = false := Bool.eq_false_iff.2 fun q => absurd (e48098.1 q) (by decide)
          refine' ⟨[], ⟨⟨rfl, rfl⟩, rfl⟩, _, _, ?x48099, ?s48100, _, hTri _ _ _ _ (nCrash _ _ _ _ _), ?k48101⟩
          case x48099 => cbv <;> rfl
          case s48100 => cbv <;> rfl
          rintro r48102 σ48103 ⟨rfl, rfl⟩
          cbv
          split
          case h_1 => rename_i hh; exact absurd hh (by rw [hH]; simp; try omega)
          cbv
          generalize e48105 : H Bool _ = b48104
          simp only [hH] at e48105
          replace e48105 := boolN e48105
          obtain rfl : b48104 = false := Bool.eq_false_iff.2 fun q => absurd (e48105.1 q) (by decide)
          refine' ⟨[], ⟨⟨rfl, rfl⟩, rfl⟩, _, _, ?x48106, ?s48107, _, hTri _ _ _ _ nImage, ?k48108⟩
          case x48106 => cbv <;> rfl
          case s48107 => cbv <;> rfl
          rintro r48109 σ48110 ⟨rfl, rfl⟩
          cbv
          split
          case h_1 => rename_i hh; exact absurd hh (by rw [hH]; simp; try omega)
          cbv
          generalize e48112 : H Bool _ = b48111
          simp only [hH] at e48112
          replace e48112 := boolN e48112
          obtain rfl : b48111 = false := Bool.eq_false_iff.2 fun q => absurd (e48112.1 q) (by decide)
          refine' ⟨[], ⟨⟨rfl, rfl⟩, rfl⟩, _, _, ?x48113, ?s48114, _, hTri _ _ _ _ nWaits, ?k48115⟩
          case x48113 => cbv <;> rfl
          case s48114 => cbv <;> rfl
          rintro r48116 σ48117 ⟨rfl, rfl⟩
          cbv
          split
          case h_1 => rename_i hh; exact absurd hh (by rw [hH]; simp; try omega)
          cbv
          generalize e48119 : H Bool _ = b48118
          simp only [hH] at e48119
          replace e48119 := boolN e48119
          obtain rfl : b48118 = false := Bool.eq_false_iff.2 fun q => absurd (e48119.1 q) (by decide)
          refine' ⟨[], ⟨⟨rfl, rfl⟩, rfl⟩, _, _, ?x48120, ?s48121, _, hTri _ _ _ _ nSize, ?k48122⟩
          case x48120 => cbv <;> rfl
          case s48121 => cbv <;> rfl
          rintro r48123 σ48124 ⟨rfl, rfl⟩
          cbv
          split
          case h_1 => rename_i hh; exact absurd hh (by rw [hH]; simp; try omega)
          cbv
          generalize e48126 : H Int _ = v48125
          simp only [hH, Int.zero_add, Int.add_zero, o0, Int.sub_zero] at e48126
          obtain rfl : v48125 = 0 := e48126.symm
          generalize e48128 : H Int _ = v48127
          simp only [hH, Int.zero_add, Int.add_zero, o0, Int.sub_zero] at e48128
          obtain rfl : v48127 = 0 := e48128.symm
          split
          case h_1 => rename_i hh; exact absurd hh (by rw [hH]; simp; try omega)
          cbv
          generalize e48130 : H Bool _ = b48129
          simp only [hH] at e48130
          replace e48130 := boolN e48130
          obtain rfl : b48129 = false := Bool.eq_false_iff.2 fun q => absurd (e48130.1 q) (by decide)
          refine' ⟨[], ⟨⟨rfl, rfl⟩, rfl⟩, _, _, ?x48133, ?s48134, _, hTri _ _ _ _ (disk_of _ _ ?a48131 ?a48132), ?k48135⟩
          case x48133 => cbv <;> rfl
          case s48134 => cbv <;> rfl
          case a48131 => omega
          case a48132 => simp_all; done
          rintro r48136 σ48137 ⟨rfl, rfl⟩
          cbv
          refine' ⟨[], ⟨⟨rfl, rfl⟩, rfl⟩, _, _, ?x48140, ?s48141, _, hTri _ _ _ _ (ofR_ok _ _ ?a48138 ?a48139), ?k48142⟩
          case x48140 => cbv <;> rfl
          case s48141 => cbv <;> rfl
          case a48138 => omega
          case a48139 => simp_all; done
          rintro r48147 σ48148 ⟨x48143, ⟨x48144, ⟨x48145, ⟨h48146, ⟨rfl, rfl⟩⟩⟩⟩⟩
          cbv
          split
          case h_1 => rename_i hh; exact absurd hh (by rw [hH]; simp; try omega)
          cbv
          split
          case h_1 => rename_i hh; exact absurd hh (by simp [hH])
          cbv
          generalize e48150 : H Bool _ = b48149
          simp only [hH] at e48150
          generalize e48152 : H Bool _ = b48151
          simp only [hH] at e48152
          replace e48152 := boolN e48152
          obtain rfl : b48151 = false := Bool.eq_false_iff.2 fun q => absurd (e48152.1 q) (by decide)
          refine' ⟨[401, 402, 403], ⟨⟨rfl, rfl⟩, rfl⟩, _, _, ?x48157, ?s48158, _, hTri _ _ _ _ (imageP _ _ _ _ _ _ _ _ _ _ ?a48156), ?k48159⟩
          case x48157 => cbv <;> rfl
          case s48158 => cbv <;> rfl
          case a48156 => omega
          rintro r48162 σ48163 ⟨x48160, ⟨h48161, ⟨rfl, rfl⟩⟩⟩
          cbv
          refine' ⟨[], ⟨⟨rfl, rfl⟩, rfl⟩, _, _, ?x48166, ?s48167, _, hTri _ _ _ _ (texts_same _ _ _ _ _ ?a48164 ?a48165), ?k48168⟩
          case x48166 => cbv <;> rfl
          case s48167 => cbv <;> rfl
          case a48164 => omega
          case a48165 => (intro j _ _; subst_vars; simp only [hH, AM.hd, Int.zero_add, Bool.cond_decide]; grind)
          rintro r48169 σ48170 ⟨rfl, rfl⟩
          cbv
          refine' ⟨[], ⟨⟨rfl, rfl⟩, rfl⟩, _, _, ?x48171, ?s48172, _, hTri _ _ _ _ live04, ?k48173⟩
          case x48171 => cbv <;> rfl
          case s48172 => cbv <;> rfl
          rintro r48174 σ48175 ⟨rfl, rfl⟩
          cbv
          refine' ⟨_, [], rfl, ?c48176, ?s48177⟩
          case s48177 => cbv <;> repeat' first | exact rfl | exact trivial | exact Or.inr trivial | exact Or.inl rfl | apply And.intro | omega | (split <;> first | exact trivial | (exfalso; simp_all; done)) | (subst_vars; simp [o0]; done)
          case c48176 => rfl
  · refine tri_of TT_ok mixed (OR := ORD10) (fn := Try.f10) (c := body Try.f10) (by kernel_rfl) (by kernel_rfl) (by kernel_rfl) (by kernel_rfl) (by simp [Try.f10]) fun H Tri hH hTri => ?_
    cbv
    split
    · rename_i h51000
      simp only [hH, decide_eq_true_eq] at h51000
      cbv
      generalize e51002 : H Bool _ = b51001
      simp only [hH] at e51002
      replace e51002 := boolN e51002
      refine' ⟨[], ⟨⟨rfl, rfl⟩, rfl⟩, _, _, ?x51003, ?s51004, _, hTri _ _ _ _ live04, ?k51005⟩
      case x51003 => cbv <;> rfl
      case s51004 => cbv <;> rfl
      rintro r51006 σ51007 ⟨rfl, rfl⟩
      cbv
      refine' ⟨_, [], rfl, ?c51008, ?s51009⟩
      case s51009 => cbv <;> repeat' first | exact rfl | exact trivial | exact Or.inr trivial | exact Or.inl rfl | apply And.intro | omega | (split <;> first | exact trivial | (exfalso; simp_all; done)) | (subst_vars; simp [o0]; done)
      case c51008 => rfl
    · rename_i h51010
      simp only [hH, decide_eq_false_iff_not, Int.not_lt, Int.not_le] at h51010
      cbv
      split
      · rename_i h51011
        simp only [hH, decide_eq_true_eq] at h51011
        cbv
        generalize e51013 : H Bool _ = b51012
        simp only [hH] at e51013
        replace e51013 := boolN e51013
        generalize e51015 : H Bool _ = b51014
        simp only [hH] at e51015
        replace e51015 := boolN e51015
        refine' ⟨[], ⟨⟨rfl, rfl⟩, rfl⟩, _, _, ?x51016, ?s51017, _, hTri _ _ _ _ live04, ?k51018⟩
        case x51016 => cbv <;> rfl
        case s51017 => cbv <;> rfl
        rintro r51019 σ51020 ⟨rfl, rfl⟩
        cbv
        refine' ⟨_, [], rfl, ?c51021, ?s51022⟩
        case s51022 => cbv <;> repeat' first | exact rfl | exact trivial | exact Or.inr trivial | exact Or.inl rfl | apply And.intro | omega | (split <;> first | exact trivial | (exfalso; simp_all; done)) | (subst_vars; simp [o0]; done)
        case c51021 => rfl
      · rename_i h51023
        simp only [hH, decide_eq_false_iff_not, Int.not_lt, Int.not_le] at h51023
        cbv
        refine ⟨0, Int, fun (i : Int) => ⟨[(2, V.pt 100 0), (1, V.l n [C.s img] false), (5, .i .i64 i), (4, V.b false)], [(100, O.st [V.i IntKind.i64 dO, V.i IntKind.i64 q, V.i IntKind.u8 c, V.l K [C.i IntKind.i64 kf] false, V.i IntKind.i64 t, V.i IntKind.i64 a] 50)], 101⟩, fun (i : Int) => (0 ≤ i ∧ i ≤ n), fun (i : Int) => (n - i).toNat, ⟨0, ?p51027, ?s51025⟩, ?r51026⟩
        case s51025 => cbv <;> repeat' first | exact rfl | exact trivial | exact Or.inr trivial | exact Or.inl rfl | apply And.intro | omega | (split <;> first | exact trivial | (exfalso; simp_all; done)) | (subst_vars; simp [o0]; done)
        case p51027 => omega
        rintro i hi
        cbv
        split
        · rename_i h51028
          simp only [hH, decide_eq_true_eq] at h51028
          cbv
          generalize e51030 : H Int _ = v51029
          simp only [hH, Int.zero_add, Int.add_zero, o0, Int.sub_zero] at e51030
          obtain ⟨e51030, e51030a, e51030b⟩ := castN e51030.symm
          generalize e51032 : H (List UInt8) _ = s51031
          simp only [hH, Int.zero_add, Int.add_zero, o0, Int.sub_zero] at e51032
          generalize e51034 : (fun ix => img (i :: ix)) = c51033
          refine ⟨by rw [hH]; simp; omega, ?_⟩
          cbv
          split
          · rename_i h51035
            simp only [hH, decide_eq_true_eq] at h51035
            cbv
            generalize e51037 : H Bool _ = b51036
            simp only [hH] at e51037
            replace e51037 := boolN e51037
            generalize e51039 : H Bool _ = b51038
            simp only [hH] at e51039
            replace e51039 := boolN e51039
            refine' ⟨[], ⟨⟨rfl, rfl⟩, rfl⟩, _, _, ?x51040, ?s51041, _, hTri _ _ _ _ live04, ?k51042⟩
            case x51040 => cbv <;> rfl
            case s51041 => cbv <;> rfl
            rintro r51043 σ51044 ⟨rfl, rfl⟩
            cbv
            refine' ⟨_, [], rfl, ?c51045, ?s51046⟩
            case s51046 => cbv <;> repeat' first | exact rfl | exact trivial | exact Or.inr trivial | exact Or.inl rfl | apply And.intro | omega | (split <;> first | exact trivial | (exfalso; simp_all; done)) | (subst_vars; simp [o0]; done)
            case c51045 => rfl
          · rename_i h51047
            simp only [hH, decide_eq_false_iff_not, Int.not_lt, Int.not_le] at h51047
            cbv
            generalize e51049 : H Int _ = v51048
            simp only [hH, Int.zero_add, Int.add_zero, o0, Int.sub_zero] at e51049
            replace e51049 := (IntWalk.i64_in _ (by omega)).symm.trans e51049
            generalize e51051 : H Bool _ = b51050
            simp only [hH] at e51051
            replace e51051 := boolN e51051
            generalize e51053 : H Bool _ = b51052
            simp only [hH] at e51053
            replace e51053 := boolN e51053
            refine' ⟨_, ⟨?p51054, ?p51055⟩, ?m51056, ?s51057⟩
            case s51057 => cbv <;> repeat' first | exact rfl | exact trivial | exact Or.inr trivial | exact Or.inl rfl | apply And.intro | omega | (split <;> first | exact trivial | (exfalso; simp_all; done)) | (subst_vars; simp [o0]; done)
            case m51056 => simp; omega
            case p51054 => omega
            case p51055 => omega
        · rename_i h51058
          simp only [hH, decide_eq_false_iff_not, Int.not_lt, Int.not_le] at h51058
          cbv
          generalize e51060 : H Bool _ = b51059
          simp only [hH] at e51060
          replace e51060 := boolN e51060
          refine' ⟨[], ⟨⟨rfl, rfl⟩, rfl⟩, _, _, ?x51061, ?s51062, _, hTri _ _ _ _ (nRead _), ?k51063⟩
          case x51061 => cbv <;> rfl
          case s51062 => cbv <;> rfl
          rintro r51064 σ51065 ⟨rfl, rfl⟩
          cbv
          refine' ⟨[], ⟨⟨rfl, rfl⟩, rfl⟩, _, _, ?x51066, ?s51067, _, hTri _ _ _ _ (nFuse _), ?k51068⟩
          case x51066 => cbv <;> rfl
          case s51067 => cbv <;> rfl
          rintro r51069 σ51070 ⟨rfl, rfl⟩
          cbv
          refine' ⟨[], ⟨⟨rfl, rfl⟩, rfl⟩, _, _, ?x51071, ?s51072, _, hTri _ _ _ _ nCounts, ?k51073⟩
          case x51071 => cbv <;> rfl
          case s51072 => cbv <;> rfl
          rintro r51074 σ51075 ⟨rfl, rfl⟩
          cbv
          split
          case h_1 => rename_i hh; exact absurd hh (by rw [hH]; simp; try omega)
          cbv
          generalize e51077 : H Bool _ = b51076
          simp only [hH] at e51077
          replace e51077 := boolN e51077
          obtain rfl : b51076 = false := Bool.eq_false_iff.2 fun q => absurd (e51077.1 q) (by decide)
          refine' ⟨[], ⟨⟨rfl, rfl⟩, rfl⟩, _, _, ?x51078, ?s51079, _, hTri _ _ _ _ (filled_tri _), ?k51080⟩
          case x51078 => cbv <;> rfl
          case s51079 => cbv <;> rfl
          rintro r51083 σ51084 ⟨x51081, ⟨h51082, ⟨rfl, rfl⟩⟩⟩
          cbv
          refine' ⟨[], ⟨⟨rfl, rfl⟩, rfl⟩, _, _, ?x51085, ?s51086, _, hTri _ _ _ _ (nWrite _ _), ?k51087⟩
          case x51085 => cbv <;> rfl
          case s51086 => cbv <;> rfl
          rintro r51088 σ51089 ⟨rfl, rfl⟩
          cbv
          split
          case h_1 => rename_i hh; exact absurd hh (by rw [hH]; simp; try omega)
          cbv
          generalize e51091 : H Bool _ = b51090
          simp only [hH] at e51091
          replace e51091 := boolN e51091
          obtain rfl : b51090 = false := Bool.eq_false_iff.2 fun q => absurd (e51091.1 q) (by decide)
          refine' ⟨[], ⟨⟨rfl, rfl⟩, rfl⟩, _, _, ?x51092, ?s51093, _, hTri _ _ _ _ nFlush, ?k51094⟩
          case x51092 => cbv <;> rfl
          case s51093 => cbv <;> rfl
          rintro r51095 σ51096 ⟨rfl, rfl⟩
          cbv
          split
          case h_1 => rename_i hh; exact absurd hh (by rw [hH]; simp; try omega)
          cbv
          generalize e51098 : H Bool _ = b51097
          simp only [hH] at e51098
          replace e51098 := boolN e51098
          obtain rfl : b51097 = false := Bool.eq_false_iff.2 fun q => absurd (e51098.1 q) (by decide)
          refine' ⟨[], ⟨⟨rfl, rfl⟩, rfl⟩, _, _, ?x51099, ?s51100, _, hTri _ _ _ _ (nCrash _ _ _ _ _), ?k51101⟩
          case x51099 => cbv <;> rfl
          case s51100 => cbv <;> rfl
          rintro r51102 σ51103 ⟨rfl, rfl⟩
          cbv
          split
          case h_1 => rename_i hh; exact absurd hh (by rw [hH]; simp; try omega)
          cbv
          generalize e51105 : H Bool _ = b51104
          simp only [hH] at e51105
          replace e51105 := boolN e51105
          obtain rfl : b51104 = false := Bool.eq_false_iff.2 fun q => absurd (e51105.1 q) (by decide)
          refine' ⟨[], ⟨⟨rfl, rfl⟩, rfl⟩, _, _, ?x51106, ?s51107, _, hTri _ _ _ _ nImage, ?k51108⟩
          case x51106 => cbv <;> rfl
          case s51107 => cbv <;> rfl
          rintro r51109 σ51110 ⟨rfl, rfl⟩
          cbv
          split
          case h_1 => rename_i hh; exact absurd hh (by rw [hH]; simp; try omega)
          cbv
          generalize e51112 : H Bool _ = b51111
          simp only [hH] at e51112
          replace e51112 := boolN e51112
          obtain rfl : b51111 = false := Bool.eq_false_iff.2 fun q => absurd (e51112.1 q) (by decide)
          refine' ⟨[], ⟨⟨rfl, rfl⟩, rfl⟩, _, _, ?x51113, ?s51114, _, hTri _ _ _ _ nWaits, ?k51115⟩
          case x51113 => cbv <;> rfl
          case s51114 => cbv <;> rfl
          rintro r51116 σ51117 ⟨rfl, rfl⟩
          cbv
          split
          case h_1 => rename_i hh; exact absurd hh (by rw [hH]; simp; try omega)
          cbv
          generalize e51119 : H Bool _ = b51118
          simp only [hH] at e51119
          replace e51119 := boolN e51119
          obtain rfl : b51118 = false := Bool.eq_false_iff.2 fun q => absurd (e51119.1 q) (by decide)
          refine' ⟨[], ⟨⟨rfl, rfl⟩, rfl⟩, _, _, ?x51120, ?s51121, _, hTri _ _ _ _ nSize, ?k51122⟩
          case x51120 => cbv <;> rfl
          case s51121 => cbv <;> rfl
          rintro r51123 σ51124 ⟨rfl, rfl⟩
          cbv
          split
          case h_1 => rename_i hh; exact absurd hh (by rw [hH]; simp; try omega)
          cbv
          generalize e51126 : H Int _ = v51125
          simp only [hH, Int.zero_add, Int.add_zero, o0, Int.sub_zero] at e51126
          obtain rfl : v51125 = 0 := e51126.symm
          generalize e51128 : H Int _ = v51127
          simp only [hH, Int.zero_add, Int.add_zero, o0, Int.sub_zero] at e51128
          obtain rfl : v51127 = 0 := e51128.symm
          split
          case h_1 => rename_i hh; exact absurd hh (by rw [hH]; simp; try omega)
          cbv
          generalize e51130 : H Bool _ = b51129
          simp only [hH] at e51130
          replace e51130 := boolN e51130
          obtain rfl : b51129 = false := Bool.eq_false_iff.2 fun q => absurd (e51130.1 q) (by decide)
          refine' ⟨[], ⟨⟨rfl, rfl⟩, rfl⟩, _, _, ?x51133, ?s51134, _, hTri _ _ _ _ (disk_of_bad _ _ ?a51131 ?a51132), ?k51135⟩
          case x51133 => cbv <;> rfl
          case s51134 => cbv <;> rfl
          case a51131 => omega
          case a51132 => assumption
          rintro r51136 σ51137 ⟨rfl, rfl⟩
          cbv
          refine' ⟨[], ⟨⟨rfl, rfl⟩, rfl⟩, _, _, ?x51140, ?s51141, _, hTri _ _ _ _ (ofR_bad _ _ ?a51138 ?a51139), ?k51142⟩
          case x51140 => cbv <;> rfl
          case s51141 => cbv <;> rfl
          case a51138 => omega
          case a51139 => assumption
          rintro r51143 σ51144 ⟨rfl, rfl⟩
          cbv
          split
          case h_1 => rename_i hh; exact absurd hh (by rw [hH]; simp; try omega)
          cbv
          split
          case h_1 => rename_i hh; exact absurd hh (by simp [hH])
          cbv
          generalize e51146 : H Bool _ = b51145
          simp only [hH] at e51146
          generalize e51148 : H Bool _ = b51147
          simp only [hH] at e51148
          replace e51148 := boolN e51148
          obtain rfl : b51147 = false := Bool.eq_false_iff.2 fun q => absurd (e51148.1 q) (by decide)
          refine' ⟨[], ⟨⟨rfl, rfl⟩, rfl⟩, _, _, ?x51149, ?s51150, _, hTri _ _ _ _ live04, ?k51151⟩
          case x51149 => cbv <;> rfl
          case s51150 => cbv <;> rfl
          rintro r51152 σ51153 ⟨rfl, rfl⟩
          cbv
          refine' ⟨_, [], rfl, ?c51154, ?s51155⟩
          case s51155 => cbv <;> repeat' first | exact rfl | exact trivial | exact Or.inr trivial | exact Or.inl rfl | apply And.intro | omega | (split <;> first | exact trivial | (exfalso; simp_all; done)) | (subst_vars; simp [o0]; done)
          case c51154 => rfl
end Go.Proofs.Ytabmdohibkkflaa.AM

namespace Go.Proofs.Ytabmdohibkkflaa.AM
open Go
/-- arguments of the laws: rows of whole numbers, of texts -/
theorem ints_arg {k : IntKind} {x : V} (h : VOk (.list [.int k]) x) : ∃ n f, x = .l n [.i k f] false ∧ (0 ≤ n ∧ n ≤ 9223372036854775807) := by
  obtain ⟨n, cs, rfl, ⟨h0, h1⟩, hc⟩ := h
  obtain ⟨_, _, rfl, ⟨a, rfl, -⟩, hc1⟩ := COks_cons hc
  obtain rfl := COks_nil hc1
  exact ⟨n, a, rfl, h0, by simpa [maxLen] using h1⟩
theorem strs_arg {x : V} (h : VOk (.list [.str]) x) : ∃ n f, x = .l n [.s f] false ∧ (0 ≤ n ∧ n ≤ 9223372036854775807) := by
  obtain ⟨n, cs, rfl, ⟨h0, h1⟩, hc⟩ := h
  obtain ⟨_, _, rfl, ⟨a, rfl, -⟩, hc1⟩ := COks_cons hc
  obtain rfl := COks_nil hc1
  exact ⟨n, a, rfl, h0, by simpa [maxLen] using h1⟩
theorem kind_arg {k : IntKind} {x : V} (h : VOk (.int k) x) : ∃ n, x = .i k n := by
  obtain ⟨n, rfl, -⟩ := h
  exact ⟨n, rfl⟩
/-- the calls of law 04 -/
theorem ops_arg {x : V} (h : VOk (.list [.int .i64, .int .i64, .int .u8, .list [.int .i64], .int .i64, .int .i64]) x) : ∃ L dO nn cc kn tt aa kf, x = .l L [.i .i64 dO, .i .i64 nn, .i .u8 cc, .l kn [.i .i64 kf], .i .i64 tt, .i .i64 aa] false ∧ 0 ≤ L ∧ (∀ ix, 0 ≤ kn ix) ∧ ∀ ix, -9223372036854775808 ≤ nn ix ∧ nn ix ≤ 9223372036854775807 := by
  obtain ⟨L, cs, rfl, ⟨h0, -⟩, hc⟩ := h
  obtain ⟨_, _, rfl, ⟨dO, rfl, -⟩, hc1⟩ := COks_cons hc
  obtain ⟨_, _, rfl, ⟨nn, rfl, hnn⟩, hc2⟩ := COks_cons hc1
  obtain ⟨_, _, rfl, ⟨cc, rfl, -⟩, hc3⟩ := COks_cons hc2
  obtain ⟨_, _, rfl, ⟨kn, _, rfl, hkn, hk⟩, hc4⟩ := COks_cons hc3
  obtain ⟨_, _, rfl, ⟨tt, rfl, -⟩, hc5⟩ := COks_cons hc4
  obtain ⟨_, _, rfl, ⟨aa, rfl, -⟩, hc6⟩ := COks_cons hc5
  obtain rfl := COks_nil hc6
  obtain ⟨_, _, rfl, ⟨kf, rfl, -⟩, hk1⟩ := COks_cons hk
  obtain rfl := COks_nil hk1
  have e : IntKind.i64.min = -9223372036854775808 := rfl
  exact ⟨L, dO, nn, cc, kn, tt, aa, kf, rfl, h0, fun ix => (hkn ix).1, fun ix => by simpa [Lit.wf, IntKind.bits, IntKind.signed, e] using hnn ix⟩
end Go.Proofs.Ytabmdohibkkflaa.AM

namespace Go.Proofs.Ytabmdohibkkflaa.AM
open Go
set_option maxRecDepth 100000
set_option maxHeartbeats 4000000
theorem sn_lt {α : Type} {f : Ix → α} {m j : Int} {q : α} (h : j < m) : (fun ix => bif decide (hd ix < m) then f ix else q) [j] = f [j] := by
  show (bif decide (j < m) then f [j] else q) = f [j]
  rw [decide_eq_true h]; rfl
theorem sn_at {α : Type} {f : Ix → α} {m : Int} {q : α} : (fun ix => bif decide (hd ix < m) then f ix else q) [m] = q := by
  show (bif decide (m < m) then f [m] else q) = q
  rw [decide_eq_false (by omega)]; rfl
section
variable (n m k r w f u q : Int) (pg : Ix → Str) (wn : Ix → Int) (ws : Ix → Str)
/-! each call of the program's disk, whatever it answers -/
theorem writeP (s : Str) (hu : -1 ≤ u ∧ u ≤ 9223372036854775807) (hm : 0 ≤ m ∧ m ≤ 1000000000000) (hw : 0 ≤ w ∧ w ≤ 1000000000000) :
    TriS Try.prog 23 [.pt 0 0, .i .i64 q, .s s] (diskS 0 1 2 n m k r w f u pg wn ws) (fun x σ =>
      (∃ u' m' w' wn' ws', wok n u q s ∧ (0 ≤ q ∧ q < n) ∧ s.length = 256 ∧ u' = burnt u ∧ m' = m + 1 ∧ w' = w + 1 ∧ (∀ j, 0 ≤ j → j < m → wn' [j] = wn [j] ∧ ws' [j] = ws [j]) ∧ (wn' [m] = q ∧ ws' [m] = s) ∧ x = .i .i64 0 ∧ σ = diskS 0 1 100 n m' m' r w' f u' pg wn' ws') ∨
      (¬ wok n u q s ∧ x = .i .i64 1 ∧ σ = diskS 0 1 2 n m k r w f u pg wn ws)) := by
  by_cases h : wok n u q s
  · refine (writeP_ok n m k r w f u q pg wn ws s hu h hm hw).mono ?_
    rintro x σ ⟨u', m', w', wn', ws', h1, h2, h3, rfl, rfl, h6, h7⟩
    refine .inl ⟨u', m', w', _, _, h, h.1, h.2.1, h1, h2, h3, fun j j0 j1 => ⟨sn_lt j1, sn_lt j1⟩, ⟨sn_at, sn_at⟩, h6, h7⟩
  · refine (writeP_bad n m k r w f u q pg wn ws s hu h).mono ?_
    rintro x σ ⟨h1, h2⟩
    exact .inr ⟨h, h1, h2⟩
theorem writeR_ok' (s : Str) (hu : -1 ≤ u ∧ u ≤ 9223372036854775807) (hq : wok n u q s) (hm : 0 ≤ m ∧ m ≤ 1000000000000) (hw : 0 ≤ w ∧ w ≤ 1000000000000) :
    TriS Try.prog 32 [.pt 0 0, .i .i64 q, .s s] (refS 0 1 2 n m k r w f u pg wn ws) (fun x σ => ∃ u' m' w' wn' ws', u' = burnt u ∧ m' = m + 1 ∧ w' = w + 1 ∧ (∀ j, 0 ≤ j → j < m → wn' [j] = wn [j] ∧ ws' [j] = ws [j]) ∧ (wn' [m] = q ∧ ws' [m] = s) ∧ x = .i .i64 0 ∧ σ = refS 0 1 100 n m' m' r w' f u' pg wn' ws') := by
  refine (writeR_ok n m k r w f u q pg wn ws s hu hq hm hw).mono ?_
  rintro x σ ⟨u', m', w', wn', ws', h1, h2, h3, rfl, rfl, h6, h7⟩
  refine ⟨u', m', w', _, _, h1, h2, h3, fun j j0 j1 => ⟨sn_lt j1, sn_lt j1⟩, ⟨sn_at, sn_at⟩, h6, h7⟩
theorem flushP (hu : -1 ≤ u ∧ u ≤ 9223372036854775807) (hm : 0 ≤ m ∧ m ≤ 1000000000000) (hf : 0 ≤ f ∧ f ≤ 1000000000000) (hw : ∀ j, 0 ≤ j → j < m → 0 ≤ wn [j] ∧ wn [j] < n) :
    TriS Try.prog 25 [.pt 0 0] (diskS 0 1 2 n m k r w f u pg wn ws) (fun x σ =>
      (∃ u' f' pg' wn' ws', u ≠ 0 ∧ u' = burnt u ∧ f' = f + 1 ∧ pg' = flushed pg wn ws m.toNat ∧ x = .i .i64 m ∧ σ = diskS 0 1 2 n 0 k r w f' u' pg' wn' ws') ∨
      (u = 0 ∧ x = .i .i64 0 ∧ σ = diskS 0 1 2 n m k r w f u pg wn ws)) := by
  by_cases h : u = 0
  · subst h
    exact (flushP_dead n m k r w f pg wn ws).mono fun x σ h => .inr ⟨rfl, h.1, h.2⟩
  · refine (flushP_ok n m k r w f u pg wn ws hu h hm hf hw).mono ?_
    rintro x σ ⟨u', f', pg', wn', ws', h1⟩
    exact .inl ⟨u', f', pg', wn', ws', h, h1⟩
theorem flushR_dead' (h : u = 0) : TriS Try.prog 34 [.pt 0 0] (refS 0 1 2 n m k r w f u pg wn ws) (fun x σ => x = .i .i64 0 ∧ σ = refS 0 1 2 n m k r w f u pg wn ws) := by
  subst h
  exact flushR_dead n m k r w f pg wn ws
theorem readP (hm : 0 ≤ m ∧ m ≤ 1000000000000) (hr : 0 ≤ r ∧ r ≤ 1000000000000) :
    TriS Try.prog 30 [.pt 0 0, .i .i64 q] (diskS 0 1 2 n m k r w f u pg wn ws) (fun x σ =>
      (∃ r' s, (0 ≤ q ∧ q < n) ∧ r' = r + 1 ∧ s = (lastW wn ws q m.toNat).getD (pg [q]) ∧ x = .tu [.s s, .i .i64 0] ∧ σ = diskS 0 1 2 n m k r' w f u pg wn ws) ∨
      (¬ (0 ≤ q ∧ q < n) ∧ x = .tu [.s [], .i .i64 1] ∧ σ = diskS 0 1 2 n m k r w f u pg wn ws)) := by
  by_cases h : 0 ≤ q ∧ q < n
  · refine (readP_ok n m k r w f u q pg wn ws h hm hr).mono ?_
    rintro x σ ⟨r', s, h1⟩
    exact .inl ⟨r', s, h, h1⟩
  · exact (readP_bad n m k r w f u q pg wn ws h).mono fun x σ h1 => .inr ⟨h, h1⟩
theorem crashP (K t a : Int) (kf : Ix → Int) (fl : Bool) (hm : 0 ≤ m ∧ m ≤ 1000000000) (hK : 0 ≤ K ∧ K ≤ 1000000000) (hw : ∀ j, 0 ≤ j → j < m → 0 ≤ wn [j] ∧ wn [j] < n) (hl : ∀ j, 0 ≤ j → j < m → (ws [j]).length = 256) : TriS Try.prog 26 [.pt 0 0, .l K [.i .i64 kf] fl, .i .i64 t, .i .i64 a] (diskS 0 1 2 n m k r w f u pg wn ws)
    (fun x σ => (∃ pg' wn' ws', crashOk m K t a kf ∧ pg' = crashed pg wn ws K t a kf m.toNat ∧ x = .i .i64 0 ∧ σ = diskS 0 1 2 n 0 k r w f (-1) pg' wn' ws') ∨
      (¬ crashOk m K t a kf ∧ x = .i .i64 1 ∧ σ = diskS 0 1 2 n m k r w f u pg wn ws)) := by
  by_cases h : crashOk m K t a kf
  · refine (crashP_ok n m k r w f u pg wn ws K t a kf fl hm hK hw hl h).mono ?_
    rintro x σ ⟨pg', wn', ws', h1⟩
    exact .inl ⟨pg', wn', ws', h, h1⟩
  · exact (crashP_bad n m k r w f u pg wn ws K t a kf fl hK h).mono fun x σ h1 => .inr ⟨h, h1⟩
end
/-! the same answers of the same states -/
theorem flushed_congr {n : Int} {pg pg' : Ix → Str} {wn wn' : Ix → Int} {ws ws' : Ix → Str} {m : Nat} (h1 : ∀ j, 0 ≤ j → j < n → pg [j] = pg' [j]) (h2 : ∀ j : Int, 0 ≤ j → j < m → wn [j] = wn' [j] ∧ ws [j] = ws' [j]) : ∀ j, 0 ≤ j → j < n → flushed pg wn ws m [j] = flushed pg' wn' ws' m [j] := by
  intro j j0 j1
  rw [flushed_at, flushed_at, lastW_congr (wn' := wn') (ws' := ws') h2, h1 j j0 j1]
theorem crashed_congr {n K t a : Int} {kf : Ix → Int} {pg pg' : Ix → Str} {wn wn' : Ix → Int} {ws ws' : Ix → Str} : ∀ {m : Nat}, (∀ j, 0 ≤ j → j < n → pg [j] = pg' [j]) → (∀ j : Int, 0 ≤ j → j < m → wn [j] = wn' [j] ∧ ws [j] = ws' [j]) → ∀ j, 0 ≤ j → j < n → crashed pg wn ws K t a kf m [j] = crashed pg' wn' ws' K t a kf m [j]
  | 0, h1, _ => h1
  | m + 1, h1, h2 => fun j j0 j1 => by
    have ih := crashed_congr (m := m) (K := K) (t := t) (a := a) (kf := kf) h1 (fun j a b => h2 j a (by omega)) j j0 j1
    obtain ⟨e1, e2⟩ := h2 m (by omega) (by omega)
    rw [crashed, crashed, e1, e2]
    split
    · show (bif decide (j = wn' [(m : Int)]) then _ else _) = (bif decide (j = wn' [(m : Int)]) then _ else _)
      rw [ih]
    · split
      · show (bif decide (j = wn' [(m : Int)]) then _ else _) = (bif decide (j = wn' [(m : Int)]) then _ else _)
        rw [ih]
      · exact ih
theorem snoc2 {m m' q : Int} {s s' : Str} {wn wn0 wn1 wn2 : Ix → Int} {ws ws0 ws1 ws2 : Ix → Str} (h : ∀ j, 0 ≤ j → j < m → wn [j] = wn0 [j] ∧ ws [j] = ws0 [j]) (h1 : ∀ j, 0 ≤ j → j < m → wn1 [j] = wn [j] ∧ ws1 [j] = ws [j]) (h2 : ∀ j, 0 ≤ j → j < m → wn2 [j] = wn0 [j] ∧ ws2 [j] = ws0 [j])
    (e1 : wn1 [m] = q) (f1 : ws1 [m] = s) (e2 : wn2 [m] = q) (f2 : ws2 [m] = s') (hs : s = s') (hm : m' = m + 1) : ∀ j, 0 ≤ j → j < m' → wn1 [j] = wn2 [j] ∧ ws1 [j] = ws2 [j] := by
  intro j j0 j1
  by_cases hj : j < m
  · rw [(h1 j j0 hj).1, (h1 j j0 hj).2, (h2 j j0 hj).1, (h2 j j0 hj).2]; exact h j j0 hj
  · obtain rfl : j = m := by omega
    rw [e1, f1, e2, f2]; exact ⟨rfl, hs⟩
theorem snocR {m m' q n : Int} {wn wn1 : Ix → Int} {ws ws1 : Ix → Str} (h : ∀ j, 0 ≤ j → j < m → 0 ≤ wn [j] ∧ wn [j] < n) (h1 : ∀ j, 0 ≤ j → j < m → wn1 [j] = wn [j] ∧ ws1 [j] = ws [j])
    (e1 : wn1 [m] = q) (hq0 : 0 ≤ q) (hq1 : q < n) (hm : m' = m + 1) : ∀ j, 0 ≤ j → j < m' → 0 ≤ wn1 [j] ∧ wn1 [j] < n := by
  intro j j0 j1
  by_cases hj : j < m
  · rw [(h1 j j0 hj).1]; exact h j j0 hj
  · obtain rfl : j = m := by omega
    rw [e1]; exact ⟨hq0, hq1⟩
theorem snocL {m m' : Int} {s : Str} {wn wn1 : Ix → Int} {ws ws1 : Ix → Str} (h : ∀ j, 0 ≤ j → j < m → (ws [j]).length = 256) (h1 : ∀ j, 0 ≤ j → j < m → wn1 [j] = wn [j] ∧ ws1 [j] = ws [j])
    (e1 : ws1 [m] = s) (hq : s.length = 256) (hm : m' = m + 1) : ∀ j, 0 ≤ j → j < m' → (ws1 [j]).length = 256 := by
  intro j j0 j1
  by_cases hj : j < m
  · rw [(h1 j j0 hj).2]; exact h j j0 hj
  · obtain rfl : j = m := by omega
    rw [e1]; exact hq
theorem texts_eq (n n' : Int) (a b : Ix → Str) (fa fb : Bool) (hn : 0 ≤ n ∧ n ≤ 1000000000) (e : n = n') (h : ∀ j, 0 ≤ j → j < n → a [j] = b [j]) : TriS Try.prog 29 [.l n [.s a] fa, .l n' [.s b] fb] [] (fun r σ => r = .b true ∧ σ = []) := by
  subst e; exact texts_same n a b fa fb hn h
theorem ints_eq (n n' : Int) (a b : Ix → Int) (fa fb : Bool) (hn : 0 ≤ n ∧ n ≤ 1000000000) (e : n = n') (h : ∀ j, 0 ≤ j → j < n → a [j] = b [j]) : TriS Try.prog 38 [.l n [.i .i64 a] fa, .l n' [.i .i64 b] fb] [] (fun r σ => r = .b true ∧ σ = []) := by
  subst e; exact ints_same n a b fa fb hn h
section
variable {n m k r w f u q : Int} {pg pg0 : Ix → Str} {wn wn0 : Ix → Int} {ws ws0 : Ix → Str}
theorem flushR' (hpg : ∀ j, 0 ≤ j → j < n → pg0 [j] = pg [j]) (hwn : ∀ j, 0 ≤ j → j < m → wn0 [j] = wn [j] ∧ ws0 [j] = ws [j]) (hu : -1 ≤ u ∧ u ≤ 9223372036854775807) (hu2 : u ≠ 0) (hm : 0 ≤ m ∧ m ≤ 1000000000000) (hf : 0 ≤ f ∧ f ≤ 1000000000000) (hw : ∀ j, 0 ≤ j → j < m → 0 ≤ wn0 [j] ∧ wn0 [j] < n) :
    TriS Try.prog 34 [.pt 0 0] (refS 0 1 2 n m k r w f u pg wn ws) (fun x σ => ∃ u' f' pg' wn' ws', u' = burnt u ∧ f' = f + 1 ∧ (∀ j, 0 ≤ j → j < n → flushed pg0 wn0 ws0 m.toNat [j] = pg' [j]) ∧ x = .i .i64 m ∧ σ = refS 0 1 100 n 0 0 r w f' u' pg' wn' ws') := by
  refine (flushR_ok n m k r w f u pg wn ws hu hu2 hm hf fun j j0 j1 => (hwn j j0 j1).1 ▸ hw j j0 j1).mono ?_
  rintro x σ ⟨u', f', pg', wn', ws', h1, h2, rfl, h4, h5⟩
  exact ⟨u', f', _, wn', ws', h1, h2, flushed_congr hpg (fun j j0 j1 => hwn j j0 (by omega)), h4, h5⟩
theorem readR' (hpg : ∀ j, 0 ≤ j → j < n → pg0 [j] = pg [j]) (hwn : ∀ j, 0 ≤ j → j < m → wn0 [j] = wn [j] ∧ ws0 [j] = ws [j]) (hq : 0 ≤ q ∧ q < n) (hm : 0 ≤ m ∧ m ≤ 1000000000000) (hr : 0 ≤ r ∧ r ≤ 1000000000000) :
    TriS Try.prog 33 [.pt 0 0, .i .i64 q] (refS 0 1 2 n m k r w f u pg wn ws) (fun x σ => ∃ r' s, r' = r + 1 ∧ s = (lastW wn0 ws0 q m.toNat).getD (pg0 [q]) ∧ x = .tu [.s s, .i .i64 0] ∧ σ = refS 0 1 2 n m k r' w f u pg wn ws) := by
  refine (readR_ok n m k r w f u q pg wn ws hq hm hr).mono ?_
  rintro x σ ⟨r', s, h1, rfl, h3, h4⟩
  refine ⟨r', _, h1, ?_, h3, h4⟩
  rw [hpg q hq.1 hq.2, lastW_congr (wn' := wn) (ws' := ws) (fun j j0 j1 => hwn j j0 (by omega))]
theorem crashR' (hpg : ∀ j, 0 ≤ j → j < n → pg0 [j] = pg [j]) (hwn : ∀ j, 0 ≤ j → j < m → wn0 [j] = wn [j] ∧ ws0 [j] = ws [j]) (K t a : Int) (kf : Ix → Int) (fl : Bool) (hm : 0 ≤ m ∧ m ≤ 1000000000) (hK : 0 ≤ K ∧ K ≤ 1000000000) (hw : ∀ j, 0 ≤ j → j < m → 0 ≤ wn0 [j] ∧ wn0 [j] < n) (hl : ∀ j, 0 ≤ j → j < m → (ws0 [j]).length = 256) (hc : crashOk m K t a kf) : TriS Try.prog 36 [.pt 0 0, .l K [.i .i64 kf] fl, .i .i64 t, .i .i64 a] (refS 0 1 2 n m k r w f u pg wn ws)
    (fun x σ => ∃ pg' wn' ws', (∀ j, 0 ≤ j → j < n → crashed pg0 wn0 ws0 K t a kf m.toNat [j] = pg' [j]) ∧ x = .i .i64 0 ∧ σ = refS 0 1 100 n 0 0 r w f (-1) pg' wn' ws') := by
  refine (crashR_ok n m k r w f u pg wn ws K t a kf fl hm hK (fun j j0 j1 => (hwn j j0 j1).1 ▸ hw j j0 j1) (fun j j0 j1 => (hwn j j0 j1).2 ▸ hl j j0 j1) hc).mono ?_
  rintro x σ ⟨pg', wn', ws', rfl, h4, h5⟩
  exact ⟨_, wn', ws', crashed_congr hpg (fun j j0 j1 => hwn j j0 (by omega)), h4, h5⟩
end
end Go.Proofs.Ytabmdohibkkflaa.AM

