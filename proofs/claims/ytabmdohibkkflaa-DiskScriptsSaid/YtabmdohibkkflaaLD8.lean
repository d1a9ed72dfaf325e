/-
  Whatever is written, read, flushed and crashes, a disk is what the document says: the walk. No condition beside those that each theorem states.
-/
import Derived.Test.YtabmdohibkkflaaDN4
set_option linter.all false

namespace Go.Proofs.Ytabmdohibkkflaa.AM
open Go
set_option maxRecDepth 100000
set_option maxHeartbeats 8000000
theorem scripts04 (n L : Int) (dO nn cc kn tt aa : Ix → Int) (kf : Ix → Int) (hL : 0 ≤ L) (hkn : ∀ ix, 0 ≤ kn ix) (hnn : ∀ ix, -9223372036854775808 ≤ nn ix ∧ nn ix ≤ 9223372036854775807) : TriS Try.prog 9 [.i .i64 n, .l L [.i .i64 dO, .i .i64 nn, .i .u8 cc, .l kn [.i .i64 kf], .i .i64 tt, .i .i64 aa] false] [] (fun r _ => r = .b true) := by
  by_cases hn : 1 ≤ n ∧ n ≤ 1000
  case neg =>
    refine tri_of TT_ok mixed (OR := ORD9) (fn := Try.f9) (c := body Try.f9) (by kernel_rfl) (by kernel_rfl) (by kernel_rfl) (by kernel_rfl) (by simp [Try.f9]) fun H Tri hH hTri => ?_
    cbv
    refine' ⟨[], ⟨⟨rfl, rfl⟩, rfl⟩, _, _, ?x11001, ?s11002, _, hTri _ _ _ _ (disk_new_bad _ ?a11000), ?k11003⟩
    case x11001 => cbv <;> rfl
    case s11002 => cbv <;> rfl
    case a11000 => assumption
    rintro r11004 σ11005 ⟨rfl, rfl⟩
    cbv
    refine' ⟨[], ⟨⟨rfl, rfl⟩, rfl⟩, _, _, ?x11007, ?s11008, _, hTri _ _ _ _ (newR_bad _ ?a11006), ?k11009⟩
    case x11007 => cbv <;> rfl
    case s11008 => cbv <;> rfl
    case a11006 => assumption
    rintro r11010 σ11011 ⟨rfl, rfl⟩
    cbv
    split
    case h_1 => rename_i hh; exact absurd hh (by rw [hH]; simp; try omega)
    cbv
    split
    case h_1 => rename_i hh; exact absurd hh (by simp [hH])
    cbv
    split
    · rename_i h11012
      simp only [hH, decide_eq_true_eq] at h11012
      cbv
      generalize e11014 : H Bool _ = b11013
      simp only [hH] at e11014
      replace e11014 := boolN e11014
      generalize e11016 : H Bool _ = b11015
      simp only [hH] at e11016
      generalize e11018 : H Bool _ = b11017
      simp only [hH] at e11018
      replace e11018 := boolN e11018
      obtain rfl : b11017 = false := Bool.eq_false_iff.2 fun q => absurd (e11018.1 q) (by decide)
      refine' ⟨[], ⟨⟨rfl, rfl⟩, rfl⟩, _, _, ?x11019, ?s11020, _, hTri _ _ _ _ live04, ?k11021⟩
      case x11019 => cbv <;> rfl
      case s11020 => cbv <;> rfl
      rintro r11022 σ11023 ⟨rfl, rfl⟩
      cbv
      refine' ⟨_, [], rfl, ?c11024, ?s11025⟩
      case s11025 => cbv <;> repeat' first | exact rfl | exact trivial | exact Or.inr trivial | exact Or.inl rfl | apply And.intro | omega | (split <;> first | exact trivial | (exfalso; simp_all; done)) | (subst_vars; simp [o0]; done)
      case c11024 => rfl
    · rename_i h11026
      simp only [hH, decide_eq_false_iff_not, Int.not_lt, Int.not_le] at h11026
      cbv
      refine' ⟨0, Int, fun (i : Int) => ⟨[(7, V.v (Value.pointer none)), (5, V.v (Value.pointer none)), (0, V.i IntKind.i64 n), (1, V.l L [C.i IntKind.i64 dO, C.i IntKind.i64 nn, C.i IntKind.u8 cc, C.l kn [C.i IntKind.i64 kf], C.i IntKind.i64 tt, C.i IntKind.i64 aa] false), (9, .i .i64 i), (4, V.b false)], [], 140⟩, fun (i : Int) => (0 ≤ i ∧ i ≤ L), fun (i : Int) => (L - i).toNat, ⟨0, ?p11030, ?s11028⟩, ?r11029⟩
      case s11028 => cbv <;> repeat' first | exact rfl | exact trivial | exact Or.inr trivial | exact Or.inl rfl | apply And.intro | omega | (split <;> first | exact trivial | (exfalso; simp_all; done)) | (subst_vars; simp [o0]; done)
      case p11030 => omega
      rintro i hi
      cbv
      split
      · rename_i h11031
        simp only [hH, decide_eq_true_eq] at h11031
        cbv
        split
        · rename_i h11032
          simp only [hH, decide_eq_true_eq] at h11032
          cbv
          generalize e11034 : H Bool _ = b11033
          simp only [hH] at e11034
          replace e11034 := boolN e11034
          generalize e11036 : H Bool _ = b11035
          simp only [hH] at e11036
          replace e11036 := boolN e11036
          refine' ⟨[], ⟨⟨rfl, rfl⟩, rfl⟩, _, _, ?x11037, ?s11038, _, hTri _ _ _ _ live04, ?k11039⟩
          case x11037 => cbv <;> rfl
          case s11038 => cbv <;> rfl
          rintro r11040 σ11041 ⟨rfl, rfl⟩
          cbv
          refine' ⟨_, [], rfl, ?c11042, ?s11043⟩
          case s11043 => cbv <;> repeat' first | exact rfl | exact trivial | exact Or.inr trivial | exact Or.inl rfl | apply And.intro | omega | (split <;> first | exact trivial | (exfalso; simp_all; done)) | (subst_vars; simp [o0]; done)
          case c11042 => rfl
        · rename_i h11044
          simp only [hH, decide_eq_false_iff_not, Int.not_lt, Int.not_le] at h11044
          cbv
          generalize e11046 : H Bool _ = b11045
          simp only [hH] at e11046
          replace e11046 := boolN e11046
          generalize e11048 : H Bool _ = b11047
          simp only [hH] at e11048
          replace e11048 := boolN e11048
          refine' ⟨[], ⟨⟨rfl, rfl⟩, rfl⟩, _, _, ?x11049, ?s11050, _, hTri _ _ _ _ live04, ?k11051⟩
          case x11049 => cbv <;> rfl
          case s11050 => cbv <;> rfl
          rintro r11052 σ11053 ⟨rfl, rfl⟩
          cbv
          refine' ⟨_, [], rfl, ?c11054, ?s11055⟩
          case s11055 => cbv <;> repeat' first | exact rfl | exact trivial | exact Or.inr trivial | exact Or.inl rfl | apply And.intro | omega | (split <;> first | exact trivial | (exfalso; simp_all; done)) | (subst_vars; simp [o0]; done)
          case c11054 => rfl
      · rename_i h11056
        simp only [hH, decide_eq_false_iff_not, Int.not_lt, Int.not_le] at h11056
        cbv
        generalize e11058 : H Bool _ = b11057
        simp only [hH] at e11058
        replace e11058 := boolN e11058
        refine' ⟨[], ⟨⟨rfl, rfl⟩, rfl⟩, _, _, ?x11059, ?s11060, _, hTri _ _ _ _ live04, ?k11061⟩
        case x11059 => cbv <;> rfl
        case s11060 => cbv <;> rfl
        rintro r11062 σ11063 ⟨rfl, rfl⟩
        cbv
        refine' ⟨_, [], rfl, ?c11064, ?s11065⟩
        case s11065 => cbv <;> repeat' first | exact rfl | exact trivial | exact Or.inr trivial | exact Or.inl rfl | apply And.intro | omega | (split <;> first | exact trivial | (exfalso; simp_all; done)) | (subst_vars; simp [o0]; done)
        case c11064 => rfl
  refine tri_of TT_ok mixed (OR := ORD9) (fn := Try.f9) (c := body Try.f9) (by kernel_rfl) (by kernel_rfl) (by kernel_rfl) (by kernel_rfl) (by simp [Try.f9]) fun H Tri hH hTri => ?_
  cbv
  refine' ⟨[], ⟨⟨rfl, rfl⟩, rfl⟩, _, _, ?x14001, ?s14002, _, hTri _ _ _ _ (newP_ok _ ?a14000), ?k14003⟩
  case x14001 => cbv <;> rfl
  case s14002 => cbv <;> rfl
  case a14000 => assumption
  rintro r14008 σ14009 ⟨x14004, ⟨x14005, ⟨x14006, ⟨h14007, ⟨rfl, rfl⟩⟩⟩⟩⟩
  cbv
  refine' ⟨[], ⟨⟨rfl, rfl⟩, rfl⟩, _, _, ?x14011, ?s14012, _, hTri _ _ _ _ (newR_tri _ ?a14010), ?k14013⟩
  case x14011 => cbv <;> rfl
  case s14012 => cbv <;> rfl
  case a14010 => assumption
  rintro r14018 σ14019 ⟨x14014, ⟨x14015, ⟨x14016, ⟨h14017, ⟨rfl, rfl⟩⟩⟩⟩⟩
  cbv
  split
  case h_1 => rename_i hh; exact absurd hh (by rw [hH]; simp; try omega)
  cbv
  split
  case h_1 => rename_i hh; exact absurd hh (by simp [hH])
  cbv
  split
  · rename_i h14020
    simp only [hH, decide_eq_true_eq] at h14020
    cbv
    generalize e14022 : H Bool _ = b14021
    simp only [hH] at e14022
    replace e14022 := boolN e14022
    generalize e14024 : H Bool _ = b14023
    simp only [hH] at e14024
    generalize e14026 : H Bool _ = b14025
    simp only [hH] at e14026
    replace e14026 := boolN e14026
    obtain rfl : b14025 = false := Bool.eq_false_iff.2 fun q => absurd (e14026.1 q) (by decide)
    refine' ⟨[], ⟨⟨rfl, rfl⟩, rfl⟩, _, _, ?x14027, ?s14028, _, hTri _ _ _ _ live04, ?k14029⟩
    case x14027 => cbv <;> rfl
    case s14028 => cbv <;> rfl
    rintro r14030 σ14031 ⟨rfl, rfl⟩
    cbv
    refine' ⟨_, [], rfl, ?c14032, ?s14033⟩
    case s14033 => cbv <;> repeat' first | exact rfl | exact trivial | exact Or.inr trivial | exact Or.inl rfl | apply And.intro | omega | (split <;> first | exact trivial | (exfalso; simp_all; done)) | (subst_vars; simp [o0]; done)
    case c14032 => rfl
  · rename_i h14034
    simp only [hH, decide_eq_false_iff_not, Int.not_lt, Int.not_le] at h14034
    cbv
    refine' ⟨0, Int × Int × Int × Int × Int × Int × Int × Int × (Ix → Str) × (Ix → Int) × (Ix → Str) × (Ix → Str) × (Ix → Int) × (Ix → Str), fun ((i, m, r, w, f, u, k1, k2, pg, wn, ws, pg', wn', ws') : Int × Int × Int × Int × Int × Int × Int × Int × (Ix → Str) × (Ix → Int) × (Ix → Str) × (Ix → Str) × (Ix → Int) × (Ix → Str)) => ⟨[(7, V.pt 220 0), (5, V.pt 200 0), (0, V.i IntKind.i64 n), (1, V.l L [C.i IntKind.i64 dO, C.i IntKind.i64 nn, C.i IntKind.u8 cc, C.l kn [C.i IntKind.i64 kf], C.i IntKind.i64 tt, C.i IntKind.i64 aa] false), (9, .i .i64 i), (4, V.b false)], [(220, .st [.sl 221 0 n 1 false, .sl 222 0 m 2 false, .i .i64 r, .i .i64 w, .i .i64 f, .i .i64 u] 66), (221, .ar n [.s pg'] 9), (222, .ar k2 [.i .i64 wn', .s ws'] 103), (200, .st [.sl 201 0 n 1 false, .sl 202 0 m 2 false, .i .i64 r, .i .i64 w, .i .i64 f, .i .i64 u] 91), (201, .ar n [.s pg] 9), (202, .ar k1 [.i .i64 wn, .s ws] 93)], 223⟩, fun ((i, m, r, w, f, u, k1, k2, pg, wn, ws, pg', wn', ws') : Int × Int × Int × Int × Int × Int × Int × Int × (Ix → Str) × (Ix → Int) × (Ix → Str) × (Ix → Str) × (Ix → Int) × (Ix → Str)) => (0 ≤ i ∧ i ≤ 50) ∧ (0 ≤ m ∧ m ≤ i) ∧ (0 ≤ r ∧ r ≤ i) ∧ (0 ≤ w ∧ w ≤ i) ∧ (0 ≤ f ∧ f ≤ i) ∧ (-1 ≤ u ∧ u ≤ 9223372036854775807) ∧ (∀ j, 0 ≤ j → j < n → pg [j] = pg' [j]) ∧ (∀ j, 0 ≤ j → j < m → wn [j] = wn' [j] ∧ ws [j] = ws' [j]) ∧ (∀ j, 0 ≤ j → j < m → 0 ≤ wn [j] ∧ wn [j] < n) ∧ (∀ j, 0 ≤ j → j < m → (ws [j]).length = 256), fun ((i, m, r, w, f, u, k1, k2, pg, wn, ws, pg', wn', ws') : Int × Int × Int × Int × Int × Int × Int × Int × (Ix → Str) × (Ix → Int) × (Ix → Str) × (Ix → Str) × (Ix → Int) × (Ix → Str)) => (50 - i).toNat, ⟨(0, 0, 0, 0, 0, -1, 0, 0, _, _, _, _, _, _), ⟨?p14038, ?p14039, ?p14040, ?p14041, ?p14042, ?p14043, ?p14044, ?p14045, ?p14046, ?p14047⟩, ?s14036⟩, ?r14037⟩
    case s14036 => cbv <;> repeat' first | exact rfl | exact trivial | exact Or.inr trivial | exact Or.inl rfl | apply And.intro | omega | (split <;> first | exact trivial | (exfalso; simp_all; done)) | (subst_vars; simp [o0]; done)
    case p14038 => omega
    case p14039 => omega
    case p14040 => omega
    case p14041 => omega
    case p14042 => omega
    case p14043 => omega
    case p14044 => simp_all; done
    case p14045 => omega
    case p14046 => omega
    case p14047 => omega
    rintro ⟨i, m, r, w, f, u, k1, k2, pg, wn, ws, pg', wn', ws'⟩ ⟨hi, hm, hr, hw, hf, hu, hpg, hwn, hra, hle⟩
    cbv
    split
    · rename_i h14048
      simp only [hH, decide_eq_true_eq] at h14048
      cbv
      split
      · rename_i h14049
        simp only [hH, decide_eq_true_eq] at h14049
        cbv
        generalize e14051 : H Int _ = v14050
        simp only [hH, Int.zero_add, Int.add_zero, o0, Int.sub_zero] at e14051
        generalize e14053 : H Int _ = v14052
        simp only [hH, Int.zero_add, Int.add_zero, o0, Int.sub_zero] at e14053
        generalize e14055 : H Int _ = v14054
        simp only [hH, Int.zero_add, Int.add_zero, o0, Int.sub_zero] at e14055
        generalize e14057 : H Int _ = v14056
        simp only [hH, Int.zero_add, Int.add_zero, o0, Int.sub_zero] at e14057
        generalize e14059 : H Int _ = v14058
        simp only [hH, Int.zero_add, Int.add_zero, o0, Int.sub_zero] at e14059
        generalize e14061 : H Int _ = v14060
        simp only [hH, Int.zero_add, Int.add_zero, o0, Int.sub_zero] at e14061
        generalize e14063 : (fun ix => kf (i :: ix)) = c14062
        generalize e14065 : (fun ix => dO (i :: ix)) = c14064
        generalize e14067 : (fun ix => nn (i :: ix)) = c14066
        generalize e14069 : (fun ix => cc (i :: ix)) = c14068
        generalize e14071 : (fun ix => tt (i :: ix)) = c14070
        generalize e14073 : (fun ix => aa (i :: ix)) = c14072
        refine ⟨by rw [hH]; simp; omega, ?_⟩
        cbv
        split
        · rename_i h14074
          simp only [hH, decide_eq_true_eq] at h14074
          cbv
          generalize e14076 : H Bool _ = b14075
          simp only [hH] at e14076
          replace e14076 := boolN e14076
          generalize e14078 : H Bool _ = b14077
          simp only [hH] at e14078
          replace e14078 := boolN e14078
          generalize e14080 : H Bool _ = b14079
          simp only [hH] at e14080
          replace e14080 := boolN e14080
          refine' ⟨[], ⟨⟨rfl, rfl⟩, rfl⟩, _, _, ?x14081, ?s14082, _, hTri _ _ _ _ live04, ?k14083⟩
          case x14081 => cbv <;> rfl
          case s14082 => cbv <;> rfl
          rintro r14084 σ14085 ⟨rfl, rfl⟩
          cbv
          refine' ⟨_, [], rfl, ?c14086, ?s14087⟩
          case s14087 => cbv <;> repeat' first | exact rfl | exact trivial | exact Or.inr trivial | exact Or.inl rfl | apply And.intro | omega | (split <;> first | exact trivial | (exfalso; simp_all; done)) | (subst_vars; simp [o0]; done)
          case c14086 => rfl
        · rename_i h14088
          simp only [hH, decide_eq_false_iff_not, Int.not_lt, Int.not_le] at h14088
          cbv
          split
          · rename_i h14089
            simp only [hH, decide_eq_true_eq] at h14089
            cbv
            generalize e14091 : H Bool _ = b14090
            simp only [hH] at e14091
            replace e14091 := boolN e14091
            generalize e14093 : H Bool _ = b14092
            simp only [hH] at e14093
            replace e14093 := boolN e14093
            generalize e14095 : H Bool _ = b14094
            simp only [hH] at e14095
            replace e14095 := boolN e14095
            generalize e14097 : H Bool _ = b14096
            simp only [hH] at e14097
            replace e14097 := boolN e14097
            refine' ⟨[], ⟨⟨rfl, rfl⟩, rfl⟩, _, _, ?x14098, ?s14099, _, hTri _ _ _ _ (filled_tri _), ?k14100⟩
            case x14098 => cbv <;> rfl
            case s14099 => cbv <;> rfl
            rintro r14103 σ14104 ⟨x14101, ⟨h14102, ⟨rfl, rfl⟩⟩⟩
            cbv
            refine' ⟨[200, 201, 202], ⟨⟨rfl, rfl⟩, rfl⟩, _, _, ?x14108, ?s14109, _, hTri _ _ _ _ (writeP _ _ _ _ _ _ _ _ _ _ _ _ ?a14105 ?a14106 ?a14107), ?k14110⟩
            case x14108 => cbv <;> rfl
            case s14109 => cbv <;> rfl
            case a14105 => assumption
            case a14106 => omega
            case a14107 => omega
            rintro r14127 σ14128 (⟨v14111, ⟨v14112, ⟨v14113, ⟨x14114, ⟨x14115, ⟨h14116, ⟨⟨h14117, h14118⟩, ⟨h14119, ⟨h14120, ⟨h14121, ⟨h14122, ⟨h14123, ⟨⟨h14124, h14125⟩, ⟨rfl, rfl⟩⟩⟩⟩⟩⟩⟩⟩⟩⟩⟩⟩⟩⟩ | ⟨h14126, ⟨rfl, rfl⟩⟩)
            · cbv
              refine' ⟨[], ⟨⟨rfl, rfl⟩, rfl⟩, _, _, ?x14129, ?s14130, _, hTri _ _ _ _ (filled_tri _), ?k14131⟩
              case x14129 => cbv <;> rfl
              case s14130 => cbv <;> rfl
              rintro r14134 σ14135 ⟨x14132, ⟨h14133, ⟨rfl, rfl⟩⟩⟩
              cbv
              refine' ⟨[220, 221, 222], ⟨⟨rfl, rfl⟩, rfl⟩, _, _, ?x14140, ?s14141, _, hTri _ _ _ _ (writeR_ok' _ _ _ _ _ _ _ _ _ _ _ _ ?a14136 ?a14137 ?a14138 ?a14139), ?k14142⟩
              case x14140 => cbv <;> rfl
              case s14141 => cbv <;> rfl
              case a14136 => assumption
              case a14137 => simp_all; done
              case a14138 => omega
              case a14139 => omega
              rintro r14154 σ14155 ⟨v14143, ⟨v14144, ⟨v14145, ⟨x14146, ⟨x14147, ⟨h14148, ⟨h14149, ⟨h14150, ⟨h14151, ⟨⟨h14152, h14153⟩, ⟨rfl, rfl⟩⟩⟩⟩⟩⟩⟩⟩⟩⟩⟩
              cbv
              generalize e14157 : H Bool _ = b14156
              simp only [hH] at e14157
              replace e14157 := boolN e14157
              obtain rfl : b14156 = true := e14157.2 (by decide)
              refine' ⟨[200, 201, 344], ⟨⟨rfl, rfl⟩, rfl⟩, _, _, ?x14158, ?s14159, _, hTri _ _ _ _ (counts_tri _ _ _ _ _ _ _ _ _ _), ?k14160⟩
              case x14158 => cbv <;> rfl
              case s14159 => cbv <;> rfl
              rintro r14161 σ14162 ⟨rfl, rfl⟩
              cbv
              split
              case h_1 => rename_i hh; exact absurd hh (by rw [hH]; simp; try omega)
              cbv
              split
              case h_1 => rename_i hh; exact absurd hh (by rw [hH]; simp; omega)
              cbv
              split
              case h_1 => rename_i hh; exact absurd hh (by rw [hH]; simp; try omega)
              cbv
              generalize e14164 : H Bool _ = b14163
              simp only [hH] at e14164
              replace e14164 := boolN e14164
              obtain rfl : b14163 = false := Bool.eq_false_iff.2 fun q => absurd (e14164.1 q) (by decide)
              generalize e14166 : H Bool _ = b14165
              simp only [hH] at e14166
              replace e14166 := boolN e14166
              generalize e14168 : H Bool _ = b14167
              simp only [hH] at e14168
              replace e14168 := boolN e14168
              obtain rfl : b14167 = false := Bool.eq_false_iff.2 fun q => absurd (e14168.1 q) (by decide)
              refine' ⟨[200, 201, 344], ⟨⟨rfl, rfl⟩, rfl⟩, _, _, ?x14170, ?s14171, _, hTri _ _ _ _ (imageP _ _ _ _ _ _ _ _ _ _ ?a14169), ?k14172⟩
              case x14170 => cbv <;> rfl
              case s14171 => cbv <;> rfl
              case a14169 => assumption
              rintro r14175 σ14176 ⟨x14173, ⟨h14174, ⟨rfl, rfl⟩⟩⟩
              cbv
              refine' ⟨[], ⟨⟨rfl, rfl⟩, rfl⟩, _, _, ?x14180, ?s14181, _, hTri _ _ _ _ (texts_eq _ _ _ _ _ _ ?a14177 ?a14178 ?a14179), ?k14182⟩
              case x14180 => cbv <;> rfl
              case s14181 => cbv <;> rfl
              case a14177 => omega
              case a14178 => rfl
              case a14179 => (intro j _ _; subst_vars; simp only [hH, AM.hd, Int.zero_add, Bool.cond_decide]; grind)
              rintro r14183 σ14184 ⟨rfl, rfl⟩
              cbv
              refine' ⟨[200, 201, 344], ⟨⟨rfl, rfl⟩, rfl⟩, _, _, ?x14186, ?s14187, _, hTri _ _ _ _ (waitsP _ _ _ _ _ _ _ _ _ _ ?a14185), ?k14188⟩
              case x14186 => cbv <;> rfl
              case s14187 => cbv <;> rfl
              case a14185 => omega
              rintro r14191 σ14192 ⟨x14189, ⟨h14190, ⟨rfl, rfl⟩⟩⟩
              cbv
              refine' ⟨[220, 221, 384], ⟨⟨rfl, rfl⟩, rfl⟩, _, _, ?x14194, ?s14195, _, hTri _ _ _ _ (waitsR _ _ _ _ _ _ _ _ _ _ ?a14193), ?k14196⟩
              case x14194 => cbv <;> rfl
              case s14195 => cbv <;> rfl
              case a14193 => omega
              rintro r14199 σ14200 ⟨x14197, ⟨h14198, ⟨rfl, rfl⟩⟩⟩
              cbv
              refine' ⟨[], ⟨⟨rfl, rfl⟩, rfl⟩, _, _, ?x14204, ?s14205, _, hTri _ _ _ _ (ints_eq _ _ _ _ _ _ ?a14201 ?a14202 ?a14203), ?k14206⟩
              case x14204 => cbv <;> rfl
              case s14205 => cbv <;> rfl
              case a14201 => omega
              case a14202 => omega
              case a14203 => (intro j _ _; subst_vars; simp only [hH, AM.hd, Int.zero_add, Bool.cond_decide]; grind)
              rintro r14207 σ14208 ⟨rfl, rfl⟩
              cbv
              refine' ⟨[200, 201, 344], ⟨⟨rfl, rfl⟩, rfl⟩, _, _, ?x14209, ?s14210, _, hTri _ _ _ _ (size_tri _ _ _ _ _ _ _ _ _ _), ?k14211⟩
              case x14209 => cbv <;> rfl
              case s14210 => cbv <;> rfl
              rintro r14212 σ14213 ⟨rfl, rfl⟩
              cbv
              split
              case h_1 => rename_i hh; exact absurd hh (by rw [hH]; simp; try omega)
              cbv
              generalize e14215 : H Int _ = v14214
              simp only [hH, Int.zero_add, Int.add_zero, o0, Int.sub_zero] at e14215
              replace e14215 := (IntWalk.i64_in _ (by omega)).symm.trans e14215
              generalize e14217 : H Bool _ = b14216
              simp only [hH] at e14217
              replace e14217 := boolN e14217
              obtain rfl : b14216 = false := Bool.eq_false_iff.2 fun q => absurd (e14217.1 q) (by decide)
              refine' ⟨(_, (_, (_, (_, (_, (_, (_, (_, (_, (_, (_, (_, (_, _))))))))))))), ⟨⟨?p14218, ?p14219⟩, ⟨⟨?p14220, ?p14221⟩, ⟨⟨?p14222, ?p14223⟩, ⟨⟨?p14224, ?p14225⟩, ⟨⟨?p14226, ?p14227⟩, ⟨⟨?p14228, ?p14229⟩, ⟨?p14230, ⟨?p14231, ⟨?p14232, ?p14233⟩⟩⟩⟩⟩⟩⟩⟩⟩, ?m14234, ?s14235⟩
              case s14235 => cbv <;> repeat' first | exact rfl | exact trivial | exact Or.inr trivial | exact Or.inl rfl | apply And.intro | omega | (split <;> first | exact trivial | (exfalso; simp_all; done)) | (subst_vars; simp [o0]; done)
              case m14234 => simp; omega
              case p14218 => omega
              case p14219 => omega
              case p14220 => omega
              case p14221 => omega
              case p14222 => omega
              case p14223 => omega
              case p14224 => omega
              case p14225 => omega
              case p14226 => omega
              case p14227 => omega
              case p14228 => omega
              case p14229 => omega
              case p14230 => assumption
              case p14231 => (apply snoc2 hwn; assumption; assumption; assumption; assumption; assumption; assumption; exact Eq.trans ‹_ = filledF _› (Eq.symm ‹_ = filledF _›); omega)
              case p14232 => (apply snocR hra; assumption; assumption; assumption; assumption; omega)
              case p14233 => grind
            · cbv
              refine' ⟨[], ⟨⟨rfl, rfl⟩, rfl⟩, _, _, ?x14236, ?s14237, _, hTri _ _ _ _ (filled_tri _), ?k14238⟩
              case x14236 => cbv <;> rfl
              case s14237 => cbv <;> rfl
              rintro r14241 σ14242 ⟨x14239, ⟨h14240, ⟨rfl, rfl⟩⟩⟩
              cbv
              refine' ⟨[220, 221, 222], ⟨⟨rfl, rfl⟩, rfl⟩, _, _, ?x14252, ?s14253, _, hTri _ _ _ _ (writeR_bad _ _ _ _ _ _ _ _ _ _ _ _ ?a14250 ?a14251), ?k14254⟩
              case x14252 => cbv <;> rfl
              case s14253 => cbv <;> rfl
              case a14250 => assumption
              case a14251 => simp_all; done
              rintro r14255 σ14256 ⟨rfl, rfl⟩
              cbv
              generalize e14258 : H Bool _ = b14257
              simp only [hH] at e14258
              replace e14258 := boolN e14258
              obtain rfl : b14257 = true := e14258.2 (by decide)
              refine' ⟨[200, 201, 202], ⟨⟨rfl, rfl⟩, rfl⟩, _, _, ?x14259, ?s14260, _, hTri _ _ _ _ (counts_tri _ _ _ _ _ _ _ _ _ _), ?k14261⟩
              case x14259 => cbv <;> rfl
              case s14260 => cbv <;> rfl
              rintro r14262 σ14263 ⟨rfl, rfl⟩
              cbv
              split
              case h_1 => rename_i hh; exact absurd hh (by rw [hH]; simp; try omega)
              cbv
              split
              case h_1 => rename_i hh; exact absurd hh (by rw [hH]; simp; try omega)
              cbv
              split
              case h_1 => rename_i hh; exact absurd hh (by rw [hH]; simp; try omega)
              cbv
              generalize e14265 : H Bool _ = b14264
              simp only [hH] at e14265
              replace e14265 := boolN e14265
              obtain rfl : b14264 = false := Bool.eq_false_iff.2 fun q => absurd (e14265.1 q) (by decide)
              generalize e14267 : H Bool _ = b14266
              simp only [hH] at e14267
              replace e14267 := boolN e14267
              obtain rfl : b14266 = false := Bool.eq_false_iff.2 fun q => absurd (e14267.1 q) (by decide)
              generalize e14269 : H Bool _ = b14268
              simp only [hH] at e14269
              replace e14269 := boolN e14269
              obtain rfl : b14268 = false := Bool.eq_false_iff.2 fun q => absurd (e14269.1 q) (by decide)
              refine' ⟨[200, 201, 202], ⟨⟨rfl, rfl⟩, rfl⟩, _, _, ?x14271, ?s14272, _, hTri _ _ _ _ (imageP _ _ _ _ _ _ _ _ _ _ ?a14270), ?k14273⟩
              case x14271 => cbv <;> rfl
              case s14272 => cbv <;> rfl
              case a14270 => assumption
              rintro r14276 σ14277 ⟨x14274, ⟨h14275, ⟨rfl, rfl⟩⟩⟩
              cbv
              refine' ⟨[], ⟨⟨rfl, rfl⟩, rfl⟩, _, _, ?x14281, ?s14282, _, hTri _ _ _ _ (texts_eq _ _ _ _ _ _ ?a14278 ?a14279 ?a14280), ?k14283⟩
              case x14281 => cbv <;> rfl
              case s14282 => cbv <;> rfl
              case a14278 => omega
              case a14279 => rfl
              case a14280 => (intro j _ _; subst_vars; simp only [hH, AM.hd, Int.zero_add, Bool.cond_decide]; grind)
              rintro r14284 σ14285 ⟨rfl, rfl⟩
              cbv
              refine' ⟨[200, 201, 202], ⟨⟨rfl, rfl⟩, rfl⟩, _, _, ?x14287, ?s14288, _, hTri _ _ _ _ (waitsP _ _ _ _ _ _ _ _ _ _ ?a14286), ?k14289⟩
              case x14287 => cbv <;> rfl
              case s14288 => cbv <;> rfl
              case a14286 => omega
              rintro r14292 σ14293 ⟨x14290, ⟨h14291, ⟨rfl, rfl⟩⟩⟩
              cbv
              refine' ⟨[220, 221, 222], ⟨⟨rfl, rfl⟩, rfl⟩, _, _, ?x14295, ?s14296, _, hTri _ _ _ _ (waitsR _ _ _ _ _ _ _ _ _ _ ?a14294), ?k14297⟩
              case x14295 => cbv <;> rfl
              case s14296 => cbv <;> rfl
              case a14294 => omega
              rintro r14300 σ14301 ⟨x14298, ⟨h14299, ⟨rfl, rfl⟩⟩⟩
              cbv
              refine' ⟨[], ⟨⟨rfl, rfl⟩, rfl⟩, _, _, ?x14305, ?s14306, _, hTri _ _ _ _ (ints_eq _ _ _ _ _ _ ?a14302 ?a14303 ?a14304), ?k14307⟩
              case x14305 => cbv <;> rfl
              case s14306 => cbv <;> rfl
              case a14302 => omega
              case a14303 => rfl
              case a14304 => (intro j _ _; subst_vars; simp only [hH, AM.hd, Int.zero_add, Bool.cond_decide]; grind)
              rintro r14308 σ14309 ⟨rfl, rfl⟩
              cbv
              refine' ⟨[200, 201, 202], ⟨⟨rfl, rfl⟩, rfl⟩, _, _, ?x14310, ?s14311, _, hTri _ _ _ _ (size_tri _ _ _ _ _ _ _ _ _ _), ?k14312⟩
              case x14310 => cbv <;> rfl
              case s14311 => cbv <;> rfl
              rintro r14313 σ14314 ⟨rfl, rfl⟩
              cbv
              split
              case h_1 => rename_i hh; exact absurd hh (by rw [hH]; simp; try omega)
              cbv
              generalize e14316 : H Int _ = v14315
              simp only [hH, Int.zero_add, Int.add_zero, o0, Int.sub_zero] at e14316
              replace e14316 := (IntWalk.i64_in _ (by omega)).symm.trans e14316
              generalize e14318 : H Bool _ = b14317
              simp only [hH] at e14318
              replace e14318 := boolN e14318
              obtain rfl : b14317 = false := Bool.eq_false_iff.2 fun q => absurd (e14318.1 q) (by decide)
              refine' ⟨(_, (_, (_, (_, (_, (_, (_, (_, (_, (_, (_, (_, (_, _))))))))))))), ⟨⟨?p14319, ?p14320⟩, ⟨⟨?p14321, ?p14322⟩, ⟨⟨?p14323, ?p14324⟩, ⟨⟨?p14325, ?p14326⟩, ⟨⟨?p14327, ?p14328⟩, ⟨⟨?p14329, ?p14330⟩, ⟨?p14331, ⟨?p14332, ⟨?p14333, ?p14334⟩⟩⟩⟩⟩⟩⟩⟩⟩, ?m14335, ?s14336⟩
              case s14336 => cbv <;> repeat' first | exact rfl | exact trivial | exact Or.inr trivial | exact Or.inl rfl | apply And.intro | omega | (split <;> first | exact trivial | (exfalso; simp_all; done)) | (subst_vars; simp [o0]; done)
              case m14335 => simp; omega
              case p14319 => omega
              case p14320 => omega
              case p14321 => omega
              case p14322 => omega
              case p14323 => omega
              case p14324 => omega
              case p14325 => omega
              case p14326 => omega
              case p14327 => omega
              case p14328 => omega
              case p14329 => omega
              case p14330 => omega
              case p14331 => assumption
              case p14332 => assumption
              case p14333 => assumption
              case p14334 => assumption
          · rename_i h14337
            simp only [hH, decide_eq_false_iff_not, Int.not_lt, Int.not_le] at h14337
            cbv
            split
            · rename_i h14338
              simp only [hH, decide_eq_true_eq] at h14338
              cbv
              generalize e14340 : H Bool _ = b14339
              simp only [hH] at e14340
              replace e14340 := boolN e14340
              generalize e14342 : H Bool _ = b14341
              simp only [hH] at e14342
              replace e14342 := boolN e14342
              generalize e14344 : H Bool _ = b14343
              simp only [hH] at e14344
              replace e14344 := boolN e14344
              generalize e14346 : H Bool _ = b14345
              simp only [hH] at e14346
              replace e14346 := boolN e14346
              generalize e14348 : H Bool _ = b14347
              simp only [hH] at e14348
              replace e14348 := boolN e14348
              refine' ⟨[200, 201, 202], ⟨⟨rfl, rfl⟩, rfl⟩, _, _, ?x14351, ?s14352, _, hTri _ _ _ _ (readP _ _ _ _ _ _ _ _ _ _ _ ?a14349 ?a14350), ?k14353⟩
              case x14351 => cbv <;> rfl
              case s14352 => cbv <;> rfl
              case a14349 => omega
              case a14350 => omega
              rintro r14361 σ14362 (⟨v14354, ⟨x14355, ⟨⟨h14356, h14357⟩, ⟨h14358, ⟨h14359, ⟨rfl, rfl⟩⟩⟩⟩⟩⟩ | ⟨h14360, ⟨rfl, rfl⟩⟩)
              · cbv
                refine' ⟨[220, 221, 222], ⟨⟨rfl, rfl⟩, rfl⟩, _, _, ?x14368, ?s14369, _, hTri _ _ _ _ (readR' ?a14363 ?a14364 ?a14365 ?a14366 ?a14367), ?k14370⟩
                case x14368 => cbv <;> rfl
                case s14369 => cbv <;> rfl
                case a14363 => assumption
                case a14364 => assumption
                case a14365 => omega
                case a14366 => omega
                case a14367 => omega
                rintro r14375 σ14376 ⟨v14371, ⟨x14372, ⟨h14373, ⟨h14374, ⟨rfl, rfl⟩⟩⟩⟩⟩
                cbv
                split
                case h_2 => rename_i hh; exact absurd hh (by simp only [hH]; (grind))
                cbv
                generalize e14378 : H Bool _ = b14377
                simp only [hH] at e14378
                replace e14378 := boolN e14378
                obtain rfl : b14377 = true := e14378.2 (by decide)
                generalize e14380 : H Bool _ = b14379
                simp only [hH] at e14380
                replace e14380 := boolN e14380
                refine' ⟨[200, 201, 202], ⟨⟨rfl, rfl⟩, rfl⟩, _, _, ?x14381, ?s14382, _, hTri _ _ _ _ (counts_tri _ _ _ _ _ _ _ _ _ _), ?k14383⟩
                case x14381 => cbv <;> rfl
                case s14382 => cbv <;> rfl
                rintro r14384 σ14385 ⟨rfl, rfl⟩
                cbv
                split
                case h_1 => rename_i hh; exact absurd hh (by rw [hH]; simp; omega)
                cbv
                split
                case h_1 => rename_i hh; exact absurd hh (by rw [hH]; simp; try omega)
                cbv
                split
                case h_1 => rename_i hh; exact absurd hh (by rw [hH]; simp; try omega)
                cbv
                generalize e14387 : H Bool _ = b14386
                simp only [hH] at e14387
                replace e14387 := boolN e14387
                obtain rfl : b14386 = false := Bool.eq_false_iff.2 fun q => absurd (e14387.1 q) (by decide)
                generalize e14389 : H Bool _ = b14388
                simp only [hH] at e14389
                replace e14389 := boolN e14389
                obtain rfl : b14388 = false := Bool.eq_false_iff.2 fun q => absurd (e14389.1 q) (by decide)
                generalize e14391 : H Bool _ = b14390
                simp only [hH] at e14391
                replace e14391 := boolN e14391
                refine' ⟨[200, 201, 202], ⟨⟨rfl, rfl⟩, rfl⟩, _, _, ?x14393, ?s14394, _, hTri _ _ _ _ (imageP _ _ _ _ _ _ _ _ _ _ ?a14392), ?k14395⟩
                case x14393 => cbv <;> rfl
                case s14394 => cbv <;> rfl
                case a14392 => assumption
                rintro r14398 σ14399 ⟨x14396, ⟨h14397, ⟨rfl, rfl⟩⟩⟩
                cbv
                refine' ⟨[], ⟨⟨rfl, rfl⟩, rfl⟩, _, _, ?x14403, ?s14404, _, hTri _ _ _ _ (texts_eq _ _ _ _ _ _ ?a14400 ?a14401 ?a14402), ?k14405⟩
                case x14403 => cbv <;> rfl
                case s14404 => cbv <;> rfl
                case a14400 => omega
                case a14401 => rfl
                case a14402 => (intro j _ _; subst_vars; simp only [hH, AM.hd, Int.zero_add, Bool.cond_decide]; grind)
                rintro r14406 σ14407 ⟨rfl, rfl⟩
                cbv
                refine' ⟨[200, 201, 202], ⟨⟨rfl, rfl⟩, rfl⟩, _, _, ?x14409, ?s14410, _, hTri _ _ _ _ (waitsP _ _ _ _ _ _ _ _ _ _ ?a14408), ?k14411⟩
                case x14409 => cbv <;> rfl
                case s14410 => cbv <;> rfl
                case a14408 => omega
                rintro r14414 σ14415 ⟨x14412, ⟨h14413, ⟨rfl, rfl⟩⟩⟩
                cbv
                refine' ⟨[220, 221, 222], ⟨⟨rfl, rfl⟩, rfl⟩, _, _, ?x14417, ?s14418, _, hTri _ _ _ _ (waitsR _ _ _ _ _ _ _ _ _ _ ?a14416), ?k14419⟩
                case x14417 => cbv <;> rfl
                case s14418 => cbv <;> rfl
                case a14416 => omega
                rintro r14422 σ14423 ⟨x14420, ⟨h14421, ⟨rfl, rfl⟩⟩⟩
                cbv
                refine' ⟨[], ⟨⟨rfl, rfl⟩, rfl⟩, _, _, ?x14427, ?s14428, _, hTri _ _ _ _ (ints_eq _ _ _ _ _ _ ?a14424 ?a14425 ?a14426), ?k14429⟩
                case x14427 => cbv <;> rfl
                case s14428 => cbv <;> rfl
                case a14424 => omega
                case a14425 => rfl
                case a14426 => (intro j _ _; subst_vars; simp only [hH, AM.hd, Int.zero_add, Bool.cond_decide]; grind)
                rintro r14430 σ14431 ⟨rfl, rfl⟩
                cbv
                refine' ⟨[200, 201, 202], ⟨⟨rfl, rfl⟩, rfl⟩, _, _, ?x14432, ?s14433, _, hTri _ _ _ _ (size_tri _ _ _ _ _ _ _ _ _ _), ?k14434⟩
                case x14432 => cbv <;> rfl
                case s14433 => cbv <;> rfl
                rintro r14435 σ14436 ⟨rfl, rfl⟩
                cbv
                split
                case h_1 => rename_i hh; exact absurd hh (by rw [hH]; simp; try omega)
                cbv
                generalize e14438 : H Int _ = v14437
                simp only [hH, Int.zero_add, Int.add_zero, o0, Int.sub_zero] at e14438
                replace e14438 := (IntWalk.i64_in _ (by omega)).symm.trans e14438
                generalize e14440 : H Bool _ = b14439
                simp only [hH] at e14440
                replace e14440 := boolN e14440
                obtain rfl : b14439 = false := Bool.eq_false_iff.2 fun q => absurd (e14440.1 q) (by decide)
                refine' ⟨(_, (_, (_, (_, (_, (_, (_, (_, (_, (_, (_, (_, (_, _))))))))))))), ⟨⟨?p14441, ?p14442⟩, ⟨⟨?p14443, ?p14444⟩, ⟨⟨?p14445, ?p14446⟩, ⟨⟨?p14447, ?p14448⟩, ⟨⟨?p14449, ?p14450⟩, ⟨⟨?p14451, ?p14452⟩, ⟨?p14453, ⟨?p14454, ⟨?p14455, ?p14456⟩⟩⟩⟩⟩⟩⟩⟩⟩, ?m14457, ?s14458⟩
                case s14458 => cbv <;> repeat' first | exact rfl | exact trivial | exact Or.inr trivial | exact Or.inl rfl | apply And.intro | omega | (split <;> first | exact trivial | (exfalso; simp_all; done)) | (subst_vars; simp [o0]; done)
                case m14457 => simp; omega
                case p14441 => omega
                case p14442 => omega
                case p14443 => omega
                case p14444 => omega
                case p14445 => omega
                case p14446 => omega
                case p14447 => omega
                case p14448 => omega
                case p14449 => omega
                case p14450 => omega
                case p14451 => omega
                case p14452 => omega
                case p14453 => assumption
                case p14454 => assumption
                case p14455 => assumption
                case p14456 => assumption
              · cbv
                refine' ⟨[220, 221, 222], ⟨⟨rfl, rfl⟩, rfl⟩, _, _, ?x14468, ?s14469, _, hTri _ _ _ _ (readR_bad _ _ _ _ _ _ _ _ _ _ _ ?a14467), ?k14470⟩
                case x14468 => cbv <;> rfl
                case s14469 => cbv <;> rfl
                case a14467 => assumption
                rintro r14471 σ14472 ⟨rfl, rfl⟩
                cbv
                split
                case h_2 => rename_i hh; exact absurd hh (by rw [hH]; simp; try omega)
                cbv
                generalize e14474 : H Bool _ = b14473
                simp only [hH] at e14474
                replace e14474 := boolN e14474
                obtain rfl : b14473 = true := e14474.2 (by decide)
                generalize e14476 : H Bool _ = b14475
                simp only [hH] at e14476
                replace e14476 := boolN e14476
                obtain rfl : b14475 = true := e14476.2 (by decide)
                refine' ⟨[200, 201, 202], ⟨⟨rfl, rfl⟩, rfl⟩, _, _, ?x14477, ?s14478, _, hTri _ _ _ _ (counts_tri _ _ _ _ _ _ _ _ _ _), ?k14479⟩
                case x14477 => cbv <;> rfl
                case s14478 => cbv <;> rfl
                rintro r14480 σ14481 ⟨rfl, rfl⟩
                cbv
                split
                case h_1 => rename_i hh; exact absurd hh (by rw [hH]; simp; try omega)
                cbv
                split
                case h_1 => rename_i hh; exact absurd hh (by rw [hH]; simp; try omega)
                cbv
                split
                case h_1 => rename_i hh; exact absurd hh (by rw [hH]; simp; try omega)
                cbv
                generalize e14483 : H Bool _ = b14482
                simp only [hH] at e14483
                replace e14483 := boolN e14483
                obtain rfl : b14482 = false := Bool.eq_false_iff.2 fun q => absurd (e14483.1 q) (by decide)
                generalize e14485 : H Bool _ = b14484
                simp only [hH] at e14485
                replace e14485 := boolN e14485
                obtain rfl : b14484 = false := Bool.eq_false_iff.2 fun q => absurd (e14485.1 q) (by decide)
                generalize e14487 : H Bool _ = b14486
                simp only [hH] at e14487
                replace e14487 := boolN e14487
                obtain rfl : b14486 = false := Bool.eq_false_iff.2 fun q => absurd (e14487.1 q) (by decide)
                refine' ⟨[200, 201, 202], ⟨⟨rfl, rfl⟩, rfl⟩, _, _, ?x14489, ?s14490, _, hTri _ _ _ _ (imageP _ _ _ _ _ _ _ _ _ _ ?a14488), ?k14491⟩
                case x14489 => cbv <;> rfl
                case s14490 => cbv <;> rfl
                case a14488 => assumption
                rintro r14494 σ14495 ⟨x14492, ⟨h14493, ⟨rfl, rfl⟩⟩⟩
                cbv
                refine' ⟨[], ⟨⟨rfl, rfl⟩, rfl⟩, _, _, ?x14499, ?s14500, _, hTri _ _ _ _ (texts_eq _ _ _ _ _ _ ?a14496 ?a14497 ?a14498), ?k14501⟩
                case x14499 => cbv <;> rfl
                case s14500 => cbv <;> rfl
                case a14496 => omega
                case a14497 => rfl
                case a14498 => (intro j _ _; subst_vars; simp only [hH, AM.hd, Int.zero_add, Bool.cond_decide]; grind)
                rintro r14502 σ14503 ⟨rfl, rfl⟩
                cbv
                refine' ⟨[200, 201, 202], ⟨⟨rfl, rfl⟩, rfl⟩, _, _, ?x14505, ?s14506, _, hTri _ _ _ _ (waitsP _ _ _ _ _ _ _ _ _ _ ?a14504), ?k14507⟩
                case x14505 => cbv <;> rfl
                case s14506 => cbv <;> rfl
                case a14504 => omega
                rintro r14510 σ14511 ⟨x14508, ⟨h14509, ⟨rfl, rfl⟩⟩⟩
                cbv
                refine' ⟨[220, 221, 222], ⟨⟨rfl, rfl⟩, rfl⟩, _, _, ?x14513, ?s14514, _, hTri _ _ _ _ (waitsR _ _ _ _ _ _ _ _ _ _ ?a14512), ?k14515⟩
                case x14513 => cbv <;> rfl
                case s14514 => cbv <;> rfl
                case a14512 => omega
                rintro r14518 σ14519 ⟨x14516, ⟨h14517, ⟨rfl, rfl⟩⟩⟩
                cbv
                refine' ⟨[], ⟨⟨rfl, rfl⟩, rfl⟩, _, _, ?x14523, ?s14524, _, hTri _ _ _ _ (ints_eq _ _ _ _ _ _ ?a14520 ?a14521 ?a14522), ?k14525⟩
                case x14523 => cbv <;> rfl
                case s14524 => cbv <;> rfl
                case a14520 => omega
                case a14521 => rfl
                case a14522 => (intro j _ _; subst_vars; simp only [hH, AM.hd, Int.zero_add, Bool.cond_decide]; grind)
                rintro r14526 σ14527 ⟨rfl, rfl⟩
                cbv
                refine' ⟨[200, 201, 202], ⟨⟨rfl, rfl⟩, rfl⟩, _, _, ?x14528, ?s14529, _, hTri _ _ _ _ (size_tri _ _ _ _ _ _ _ _ _ _), ?k14530⟩
                case x14528 => cbv <;> rfl
                case s14529 => cbv <;> rfl
                rintro r14531 σ14532 ⟨rfl, rfl⟩
                cbv
                split
                case h_1 => rename_i hh; exact absurd hh (by rw [hH]; simp; try omega)
                cbv
                generalize e14534 : H Int _ = v14533
                simp only [hH, Int.zero_add, Int.add_zero, o0, Int.sub_zero] at e14534
                replace e14534 := (IntWalk.i64_in _ (by omega)).symm.trans e14534
                generalize e14536 : H Bool _ = b14535
                simp only [hH] at e14536
                replace e14536 := boolN e14536
                obtain rfl : b14535 = false := Bool.eq_false_iff.2 fun q => absurd (e14536.1 q) (by decide)
                refine' ⟨(_, (_, (_, (_, (_, (_, (_, (_, (_, (_, (_, (_, (_, _))))))))))))), ⟨⟨?p14537, ?p14538⟩, ⟨⟨?p14539, ?p14540⟩, ⟨⟨?p14541, ?p14542⟩, ⟨⟨?p14543, ?p14544⟩, ⟨⟨?p14545, ?p14546⟩, ⟨⟨?p14547, ?p14548⟩, ⟨?p14549, ⟨?p14550, ⟨?p14551, ?p14552⟩⟩⟩⟩⟩⟩⟩⟩⟩, ?m14553, ?s14554⟩
                case s14554 => cbv <;> repeat' first | exact rfl | exact trivial | exact Or.inr trivial | exact Or.inl rfl | apply And.intro | omega | (split <;> first | exact trivial | (exfalso; simp_all; done)) | (subst_vars; simp [o0]; done)
                case m14553 => simp; omega
                case p14537 => omega
                case p14538 => omega
                case p14539 => omega
                case p14540 => omega
                case p14541 => omega
                case p14542 => omega
                case p14543 => omega
                case p14544 => omega
                case p14545 => omega
                case p14546 => omega
                case p14547 => omega
                case p14548 => omega
                case p14549 => assumption
                case p14550 => assumption
                case p14551 => assumption
                case p14552 => assumption
            · rename_i h14555
              simp only [hH, decide_eq_false_iff_not, Int.not_lt, Int.not_le] at h14555
              cbv
              split
              · rename_i h14556
                simp only [hH, decide_eq_true_eq] at h14556
                cbv
                generalize e14558 : H Bool _ = b14557
                simp only [hH] at e14558
                replace e14558 := boolN e14558
                generalize e14560 : H Bool _ = b14559
                simp only [hH] at e14560
                replace e14560 := boolN e14560
                generalize e14562 : H Bool _ = b14561
                simp only [hH] at e14562
                replace e14562 := boolN e14562
                generalize e14564 : H Bool _ = b14563
                simp only [hH] at e14564
                replace e14564 := boolN e14564
                generalize e14566 : H Bool _ = b14565
                simp only [hH] at e14566
                replace e14566 := boolN e14566
                generalize e14568 : H Bool _ = b14567
                simp only [hH] at e14568
                replace e14568 := boolN e14568
                refine' ⟨[200, 201, 202], ⟨⟨rfl, rfl⟩, rfl⟩, _, _, ?x14573, ?s14574, _, hTri _ _ _ _ (flushP _ _ _ _ _ _ _ _ _ _ ?a14569 ?a14570 ?a14571 ?a14572), ?k14575⟩
                case x14573 => cbv <;> rfl
                case s14574 => cbv <;> rfl
                case a14569 => assumption
                case a14570 => omega
                case a14571 => omega
                case a14572 => assumption
                rintro r14586 σ14587 (⟨v14576, ⟨v14577, ⟨x14578, ⟨x14579, ⟨x14580, ⟨h14581, ⟨h14582, ⟨h14583, ⟨h14584, ⟨rfl, rfl⟩⟩⟩⟩⟩⟩⟩⟩⟩⟩ | ⟨h14585, ⟨rfl, rfl⟩⟩)
                · cbv
                  refine' ⟨[220, 221, 222], ⟨⟨rfl, rfl⟩, rfl⟩, _, _, ?x14595, ?s14596, _, hTri _ _ _ _ (flushR' ?a14588 ?a14589 ?a14590 ?a14591 ?a14592 ?a14593 ?a14594), ?k14597⟩
                  case x14595 => cbv <;> rfl
                  case s14596 => cbv <;> rfl
                  case a14588 => assumption
                  case a14589 => assumption
                  case a14590 => assumption
                  case a14591 => assumption
                  case a14592 => omega
                  case a14593 => omega
                  case a14594 => assumption
                  rintro r14606 σ14607 ⟨v14598, ⟨v14599, ⟨x14600, ⟨x14601, ⟨x14602, ⟨h14603, ⟨h14604, ⟨h14605, ⟨rfl, rfl⟩⟩⟩⟩⟩⟩⟩⟩⟩
                  cbv
                  generalize e14609 : H Bool _ = b14608
                  simp only [hH] at e14609
                  replace e14609 := boolN e14609
                  obtain rfl : b14608 = true := e14609.2 (by decide)
                  refine' ⟨[200, 201, 202], ⟨⟨rfl, rfl⟩, rfl⟩, _, _, ?x14610, ?s14611, _, hTri _ _ _ _ (counts_tri _ _ _ _ _ _ _ _ _ _), ?k14612⟩
                  case x14610 => cbv <;> rfl
                  case s14611 => cbv <;> rfl
                  rintro r14613 σ14614 ⟨rfl, rfl⟩
                  cbv
                  split
                  case h_1 => rename_i hh; exact absurd hh (by rw [hH]; simp; try omega)
                  cbv
                  split
                  case h_1 => rename_i hh; exact absurd hh (by rw [hH]; simp; try omega)
                  cbv
                  split
                  case h_1 => rename_i hh; exact absurd hh (by rw [hH]; simp; omega)
                  cbv
                  generalize e14616 : H Bool _ = b14615
                  simp only [hH] at e14616
                  replace e14616 := boolN e14616
                  generalize e14618 : H Bool _ = b14617
                  simp only [hH] at e14618
                  replace e14618 := boolN e14618
                  obtain rfl : b14617 = false := Bool.eq_false_iff.2 fun q => absurd (e14618.1 q) (by decide)
                  generalize e14620 : H Bool _ = b14619
                  simp only [hH] at e14620
                  replace e14620 := boolN e14620
                  obtain rfl : b14619 = false := Bool.eq_false_iff.2 fun q => absurd (e14620.1 q) (by decide)
                  refine' ⟨[200, 201, 202], ⟨⟨rfl, rfl⟩, rfl⟩, _, _, ?x14622, ?s14623, _, hTri _ _ _ _ (imageP _ _ _ _ _ _ _ _ _ _ ?a14621), ?k14624⟩
                  case x14622 => cbv <;> rfl
                  case s14623 => cbv <;> rfl
                  case a14621 => assumption
                  rintro r14627 σ14628 ⟨x14625, ⟨h14626, ⟨rfl, rfl⟩⟩⟩
                  cbv
                  refine' ⟨[], ⟨⟨rfl, rfl⟩, rfl⟩, _, _, ?x14632, ?s14633, _, hTri _ _ _ _ (texts_eq _ _ _ _ _ _ ?a14629 ?a14630 ?a14631), ?k14634⟩
                  case x14632 => cbv <;> rfl
                  case s14633 => cbv <;> rfl
                  case a14629 => omega
                  case a14630 => rfl
                  case a14631 => (intro j _ _; subst_vars; simp only [hH, AM.hd, Int.zero_add, Bool.cond_decide]; grind)
                  rintro r14635 σ14636 ⟨rfl, rfl⟩
                  cbv
                  refine' ⟨[200, 201, 202], ⟨⟨rfl, rfl⟩, rfl⟩, _, _, ?x14638, ?s14639, _, hTri _ _ _ _ (waitsP _ _ _ _ _ _ _ _ _ _ ?a14637), ?k14640⟩
                  case x14638 => cbv <;> rfl
                  case s14639 => cbv <;> rfl
                  case a14637 => omega
                  rintro r14643 σ14644 ⟨x14641, ⟨h14642, ⟨rfl, rfl⟩⟩⟩
                  cbv
                  refine' ⟨[220, 221, 344], ⟨⟨rfl, rfl⟩, rfl⟩, _, _, ?x14646, ?s14647, _, hTri _ _ _ _ (waitsR _ _ _ _ _ _ _ _ _ _ ?a14645), ?k14648⟩
                  case x14646 => cbv <;> rfl
                  case s14647 => cbv <;> rfl
                  case a14645 => omega
                  rintro r14651 σ14652 ⟨x14649, ⟨h14650, ⟨rfl, rfl⟩⟩⟩
                  cbv
                  refine' ⟨[], ⟨⟨rfl, rfl⟩, rfl⟩, _, _, ?x14656, ?s14657, _, hTri _ _ _ _ (ints_eq _ _ _ _ _ _ ?a14653 ?a14654 ?a14655), ?k14658⟩
                  case x14656 => cbv <;> rfl
                  case s14657 => cbv <;> rfl
                  case a14653 => omega
                  case a14654 => rfl
                  case a14655 => omega
                  rintro r14659 σ14660 ⟨rfl, rfl⟩
                  cbv
                  refine' ⟨[200, 201, 202], ⟨⟨rfl, rfl⟩, rfl⟩, _, _, ?x14661, ?s14662, _, hTri _ _ _ _ (size_tri _ _ _ _ _ _ _ _ _ _), ?k14663⟩
                  case x14661 => cbv <;> rfl
                  case s14662 => cbv <;> rfl
                  rintro r14664 σ14665 ⟨rfl, rfl⟩
                  cbv
                  split
                  case h_1 => rename_i hh; exact absurd hh (by rw [hH]; simp; try omega)
                  cbv
                  generalize e14667 : H Int _ = v14666
                  simp only [hH, Int.zero_add, Int.add_zero, o0, Int.sub_zero] at e14667
                  replace e14667 := (IntWalk.i64_in _ (by omega)).symm.trans e14667
                  generalize e14669 : H Bool _ = b14668
                  simp only [hH] at e14669
                  replace e14669 := boolN e14669
                  obtain rfl : b14668 = false := Bool.eq_false_iff.2 fun q => absurd (e14669.1 q) (by decide)
                  refine' ⟨(_, (_, (_, (_, (_, (_, (_, (_, (_, (_, (_, (_, (_, _))))))))))))), ⟨⟨?p14670, ?p14671⟩, ⟨⟨?p14672, ?p14673⟩, ⟨⟨?p14674, ?p14675⟩, ⟨⟨?p14676, ?p14677⟩, ⟨⟨?p14678, ?p14679⟩, ⟨⟨?p14680, ?p14681⟩, ⟨?p14682, ⟨?p14683, ⟨?p14684, ?p14685⟩⟩⟩⟩⟩⟩⟩⟩⟩, ?m14686, ?s14687⟩
                  case s14687 => cbv <;> repeat' first | exact rfl | exact trivial | exact Or.inr trivial | exact Or.inl rfl | apply And.intro | omega | (split <;> first | exact trivial | (exfalso; simp_all; done)) | (subst_vars; simp [o0]; done)
                  case m14686 => simp; omega
                  case p14670 => omega
                  case p14671 => omega
                  case p14672 => omega
                  case p14673 => omega
                  case p14674 => omega
                  case p14675 => omega
                  case p14676 => omega
                  case p14677 => omega
                  case p14678 => omega
                  case p14679 => omega
                  case p14680 => omega
                  case p14681 => omega
                  case p14682 => simp_all; done
                  case p14683 => omega
                  case p14684 => omega
                  case p14685 => omega
                · cbv
                  refine' ⟨[220, 221, 222], ⟨⟨rfl, rfl⟩, rfl⟩, _, _, ?x14699, ?s14700, _, hTri _ _ _ _ (flushR_dead' _ _ _ _ _ _ _ _ _ _ ?a14698), ?k14701⟩
                  case x14699 => cbv <;> rfl
                  case s14700 => cbv <;> rfl
                  case a14698 => assumption
                  rintro r14702 σ14703 ⟨rfl, rfl⟩
                  cbv
                  generalize e14705 : H Bool _ = b14704
                  simp only [hH] at e14705
                  replace e14705 := boolN e14705
                  obtain rfl : b14704 = true := e14705.2 (by decide)
                  refine' ⟨[200, 201, 202], ⟨⟨rfl, rfl⟩, rfl⟩, _, _, ?x14706, ?s14707, _, hTri _ _ _ _ (counts_tri _ _ _ _ _ _ _ _ _ _), ?k14708⟩
                  case x14706 => cbv <;> rfl
                  case s14707 => cbv <;> rfl
                  rintro r14709 σ14710 ⟨rfl, rfl⟩
                  cbv
                  split
                  case h_1 => rename_i hh; exact absurd hh (by rw [hH]; simp; try omega)
                  cbv
                  split
                  case h_1 => rename_i hh; exact absurd hh (by rw [hH]; simp; try omega)
                  cbv
                  split
                  case h_1 => rename_i hh; exact absurd hh (by rw [hH]; simp; try omega)
                  cbv
                  generalize e14712 : H Bool _ = b14711
                  simp only [hH] at e14712
                  replace e14712 := boolN e14712
                  obtain rfl : b14711 = false := Bool.eq_false_iff.2 fun q => absurd (e14712.1 q) (by decide)
                  generalize e14714 : H Bool _ = b14713
                  simp only [hH] at e14714
                  replace e14714 := boolN e14714
                  obtain rfl : b14713 = false := Bool.eq_false_iff.2 fun q => absurd (e14714.1 q) (by decide)
                  generalize e14716 : H Bool _ = b14715
                  simp only [hH] at e14716
                  replace e14716 := boolN e14716
                  obtain rfl : b14715 = false := Bool.eq_false_iff.2 fun q => absurd (e14716.1 q) (by decide)
                  refine' ⟨[200, 201, 202], ⟨⟨rfl, rfl⟩, rfl⟩, _, _, ?x14718, ?s14719, _, hTri _ _ _ _ (imageP _ _ _ _ _ _ _ _ _ _ ?a14717), ?k14720⟩
                  case x14718 => cbv <;> rfl
                  case s14719 => cbv <;> rfl
                  case a14717 => assumption
                  rintro r14723 σ14724 ⟨x14721, ⟨h14722, ⟨rfl, rfl⟩⟩⟩
                  cbv
                  refine' ⟨[], ⟨⟨rfl, rfl⟩, rfl⟩, _, _, ?x14728, ?s14729, _, hTri _ _ _ _ (texts_eq _ _ _ _ _ _ ?a14725 ?a14726 ?a14727), ?k14730⟩
                  case x14728 => cbv <;> rfl
                  case s14729 => cbv <;> rfl
                  case a14725 => omega
                  case a14726 => rfl
                  case a14727 => (intro j _ _; subst_vars; simp only [hH, AM.hd, Int.zero_add, Bool.cond_decide]; grind)
                  rintro r14731 σ14732 ⟨rfl, rfl⟩
                  cbv
                  refine' ⟨[200, 201, 202], ⟨⟨rfl, rfl⟩, rfl⟩, _, _, ?x14734, ?s14735, _, hTri _ _ _ _ (waitsP _ _ _ _ _ _ _ _ _ _ ?a14733), ?k14736⟩
                  case x14734 => cbv <;> rfl
                  case s14735 => cbv <;> rfl
                  case a14733 => omega
                  rintro r14739 σ14740 ⟨x14737, ⟨h14738, ⟨rfl, rfl⟩⟩⟩
                  cbv
                  refine' ⟨[220, 221, 222], ⟨⟨rfl, rfl⟩, rfl⟩, _, _, ?x14742, ?s14743, _, hTri _ _ _ _ (waitsR _ _ _ _ _ _ _ _ _ _ ?a14741), ?k14744⟩
                  case x14742 => cbv <;> rfl
                  case s14743 => cbv <;> rfl
                  case a14741 => omega
                  rintro r14747 σ14748 ⟨x14745, ⟨h14746, ⟨rfl, rfl⟩⟩⟩
                  cbv
                  refine' ⟨[], ⟨⟨rfl, rfl⟩, rfl⟩, _, _, ?x14752, ?s14753, _, hTri _ _ _ _ (ints_eq _ _ _ _ _ _ ?a14749 ?a14750 ?a14751), ?k14754⟩
                  case x14752 => cbv <;> rfl
                  case s14753 => cbv <;> rfl
                  case a14749 => omega
                  case a14750 => rfl
                  case a14751 => (intro j _ _; subst_vars; simp only [hH, AM.hd, Int.zero_add, Bool.cond_decide]; grind)
                  rintro r14755 σ14756 ⟨rfl, rfl⟩
                  cbv
                  refine' ⟨[200, 201, 202], ⟨⟨rfl, rfl⟩, rfl⟩, _, _, ?x14757, ?s14758, _, hTri _ _ _ _ (size_tri _ _ _ _ _ _ _ _ _ _), ?k14759⟩
                  case x14757 => cbv <;> rfl
                  case s14758 => cbv <;> rfl
                  rintro r14760 σ14761 ⟨rfl, rfl⟩
                  cbv
                  split
                  case h_1 => rename_i hh; exact absurd hh (by rw [hH]; simp; try omega)
                  cbv
                  generalize e14763 : H Int _ = v14762
                  simp only [hH, Int.zero_add, Int.add_zero, o0, Int.sub_zero] at e14763
                  replace e14763 := (IntWalk.i64_in _ (by omega)).symm.trans e14763
                  generalize e14765 : H Bool _ = b14764
                  simp only [hH] at e14765
                  replace e14765 := boolN e14765
                  obtain rfl : b14764 = false := Bool.eq_false_iff.2 fun q => absurd (e14765.1 q) (by decide)
                  refine' ⟨(_, (_, (_, (_, (_, (_, (_, (_, (_, (_, (_, (_, (_, _))))))))))))), ⟨⟨?p14766, ?p14767⟩, ⟨⟨?p14768, ?p14769⟩, ⟨⟨?p14770, ?p14771⟩, ⟨⟨?p14772, ?p14773⟩, ⟨⟨?p14774, ?p14775⟩, ⟨⟨?p14776, ?p14777⟩, ⟨?p14778, ⟨?p14779, ⟨?p14780, ?p14781⟩⟩⟩⟩⟩⟩⟩⟩⟩, ?m14782, ?s14783⟩
                  case s14783 => cbv <;> repeat' first | exact rfl | exact trivial | exact Or.inr trivial | exact Or.inl rfl | apply And.intro | omega | (split <;> first | exact trivial | (exfalso; simp_all; done)) | (subst_vars; simp [o0]; done)
                  case m14782 => simp; omega
                  case p14766 => omega
                  case p14767 => omega
                  case p14768 => omega
                  case p14769 => omega
                  case p14770 => omega
                  case p14771 => omega
                  case p14772 => omega
                  case p14773 => omega
                  case p14774 => omega
                  case p14775 => omega
                  case p14776 => omega
                  case p14777 => omega
                  case p14778 => assumption
                  case p14779 => assumption
                  case p14780 => assumption
                  case p14781 => assumption
              · rename_i h14784
                simp only [hH, decide_eq_false_iff_not, Int.not_lt, Int.not_le] at h14784
                cbv
                split
                · rename_i h14785
                  simp only [hH, decide_eq_true_eq] at h14785
                  cbv
                  generalize e14787 : H Bool _ = b14786
                  simp only [hH] at e14787
                  replace e14787 := boolN e14787
                  generalize e14789 : H Bool _ = b14788
                  simp only [hH] at e14789
                  replace e14789 := boolN e14789
                  generalize e14791 : H Bool _ = b14790
                  simp only [hH] at e14791
                  replace e14791 := boolN e14791
                  generalize e14793 : H Bool _ = b14792
                  simp only [hH] at e14793
                  replace e14793 := boolN e14793
                  generalize e14795 : H Bool _ = b14794
                  simp only [hH] at e14795
                  replace e14795 := boolN e14795
                  generalize e14797 : H Bool _ = b14796
                  simp only [hH] at e14797
                  replace e14797 := boolN e14797
                  generalize e14799 : H Bool _ = b14798
                  simp only [hH] at e14799
                  replace e14799 := boolN e14799
                  refine' ⟨[200, 201, 202], ⟨⟨rfl, rfl⟩, rfl⟩, _, _, ?x14800, ?s14801, _, hTri _ _ _ _ (fuse_tri _ _ _ _ _ _ _ _ _ _ _), ?k14802⟩
                  case x14800 => cbv <;> rfl
                  case s14801 => cbv <;> rfl
                  rintro r14805 σ14806 ⟨v14803, ⟨h14804, ⟨rfl, rfl⟩⟩⟩
                  cbv
                  generalize e14808 : H Int _ = v14807
                  simp only [hH, Int.zero_add, Int.add_zero, o0, Int.sub_zero] at e14808
                  refine' ⟨[200, 201, 202], ⟨⟨rfl, rfl⟩, rfl⟩, _, _, ?x14809, ?s14810, _, hTri _ _ _ _ (counts_tri _ _ _ _ _ _ _ _ _ _), ?k14811⟩
                  case x14809 => cbv <;> rfl
                  case s14810 => cbv <;> rfl
                  rintro r14812 σ14813 ⟨rfl, rfl⟩
                  cbv
                  split
                  case h_1 => rename_i hh; exact absurd hh (by rw [hH]; simp; try omega)
                  cbv
                  split
                  case h_1 => rename_i hh; exact absurd hh (by rw [hH]; simp; try omega)
                  cbv
                  split
                  case h_1 => rename_i hh; exact absurd hh (by rw [hH]; simp; try omega)
                  cbv
                  generalize e14815 : H Bool _ = b14814
                  simp only [hH] at e14815
                  replace e14815 := boolN e14815
                  obtain rfl : b14814 = false := Bool.eq_false_iff.2 fun q => absurd (e14815.1 q) (by decide)
                  generalize e14817 : H Bool _ = b14816
                  simp only [hH] at e14817
                  replace e14817 := boolN e14817
                  obtain rfl : b14816 = false := Bool.eq_false_iff.2 fun q => absurd (e14817.1 q) (by decide)
                  generalize e14819 : H Bool _ = b14818
                  simp only [hH] at e14819
                  replace e14819 := boolN e14819
                  obtain rfl : b14818 = false := Bool.eq_false_iff.2 fun q => absurd (e14819.1 q) (by decide)
                  refine' ⟨[200, 201, 202], ⟨⟨rfl, rfl⟩, rfl⟩, _, _, ?x14821, ?s14822, _, hTri _ _ _ _ (imageP _ _ _ _ _ _ _ _ _ _ ?a14820), ?k14823⟩
                  case x14821 => cbv <;> rfl
                  case s14822 => cbv <;> rfl
                  case a14820 => assumption
                  rintro r14826 σ14827 ⟨x14824, ⟨h14825, ⟨rfl, rfl⟩⟩⟩
                  cbv
                  refine' ⟨[], ⟨⟨rfl, rfl⟩, rfl⟩, _, _, ?x14831, ?s14832, _, hTri _ _ _ _ (texts_eq _ _ _ _ _ _ ?a14828 ?a14829 ?a14830), ?k14833⟩
                  case x14831 => cbv <;> rfl
                  case s14832 => cbv <;> rfl
                  case a14828 => omega
                  case a14829 => rfl
                  case a14830 => (intro j _ _; subst_vars; simp only [hH, AM.hd, Int.zero_add, Bool.cond_decide]; grind)
                  rintro r14834 σ14835 ⟨rfl, rfl⟩
                  cbv
                  refine' ⟨[200, 201, 202], ⟨⟨rfl, rfl⟩, rfl⟩, _, _, ?x14837, ?s14838, _, hTri _ _ _ _ (waitsP _ _ _ _ _ _ _ _ _ _ ?a14836), ?k14839⟩
                  case x14837 => cbv <;> rfl
                  case s14838 => cbv <;> rfl
                  case a14836 => omega
                  rintro r14842 σ14843 ⟨x14840, ⟨h14841, ⟨rfl, rfl⟩⟩⟩
                  cbv
                  refine' ⟨[220, 221, 222], ⟨⟨rfl, rfl⟩, rfl⟩, _, _, ?x14845, ?s14846, _, hTri _ _ _ _ (waitsR _ _ _ _ _ _ _ _ _ _ ?a14844), ?k14847⟩
                  case x14845 => cbv <;> rfl
                  case s14846 => cbv <;> rfl
                  case a14844 => omega
                  rintro r14850 σ14851 ⟨x14848, ⟨h14849, ⟨rfl, rfl⟩⟩⟩
                  cbv
                  refine' ⟨[], ⟨⟨rfl, rfl⟩, rfl⟩, _, _, ?x14855, ?s14856, _, hTri _ _ _ _ (ints_eq _ _ _ _ _ _ ?a14852 ?a14853 ?a14854), ?k14857⟩
                  case x14855 => cbv <;> rfl
                  case s14856 => cbv <;> rfl
                  case a14852 => omega
                  case a14853 => rfl
                  case a14854 => (intro j _ _; subst_vars; simp only [hH, AM.hd, Int.zero_add, Bool.cond_decide]; grind)
                  rintro r14858 σ14859 ⟨rfl, rfl⟩
                  cbv
                  refine' ⟨[200, 201, 202], ⟨⟨rfl, rfl⟩, rfl⟩, _, _, ?x14860, ?s14861, _, hTri _ _ _ _ (size_tri _ _ _ _ _ _ _ _ _ _), ?k14862⟩
                  case x14860 => cbv <;> rfl
                  case s14861 => cbv <;> rfl
                  rintro r14863 σ14864 ⟨rfl, rfl⟩
                  cbv
                  split
                  case h_1 => rename_i hh; exact absurd hh (by rw [hH]; simp; try omega)
                  cbv
                  generalize e14866 : H Int _ = v14865
                  simp only [hH, Int.zero_add, Int.add_zero, o0, Int.sub_zero] at e14866
                  replace e14866 := (IntWalk.i64_in _ (by omega)).symm.trans e14866
                  generalize e14868 : H Bool _ = b14867
                  simp only [hH] at e14868
                  replace e14868 := boolN e14868
                  obtain rfl : b14867 = false := Bool.eq_false_iff.2 fun q => absurd (e14868.1 q) (by decide)
                  refine' ⟨(_, (_, (_, (_, (_, (_, (_, (_, (_, (_, (_, (_, (_, _))))))))))))), ⟨⟨?p14869, ?p14870⟩, ⟨⟨?p14871, ?p14872⟩, ⟨⟨?p14873, ?p14874⟩, ⟨⟨?p14875, ?p14876⟩, ⟨⟨?p14877, ?p14878⟩, ⟨⟨?p14879, ?p14880⟩, ⟨?p14881, ⟨?p14882, ⟨?p14883, ?p14884⟩⟩⟩⟩⟩⟩⟩⟩⟩, ?m14885, ?s14886⟩
                  case s14886 => cbv <;> repeat' first | exact rfl | exact trivial | exact Or.inr trivial | exact Or.inl rfl | apply And.intro | omega | (split <;> first | exact trivial | (exfalso; simp_all; done)) | (subst_vars; simp [o0]; done)
                  case m14885 => simp; omega
                  case p14869 => omega
                  case p14870 => omega
                  case p14871 => omega
                  case p14872 => omega
                  case p14873 => omega
                  case p14874 => omega
                  case p14875 => omega
                  case p14876 => omega
                  case p14877 => omega
                  case p14878 => omega
                  case p14879 => omega
                  case p14880 => grind
                  case p14881 => assumption
                  case p14882 => assumption
                  case p14883 => assumption
                  case p14884 => assumption
                · rename_i h14887
                  simp only [hH, decide_eq_false_iff_not, Int.not_lt, Int.not_le] at h14887
                  cbv
                  generalize e14889 : H Bool _ = b14888
                  simp only [hH] at e14889
                  replace e14889 := boolN e14889
                  generalize e14891 : H Bool _ = b14890
                  simp only [hH] at e14891
                  replace e14891 := boolN e14891
                  generalize e14893 : H Bool _ = b14892
                  simp only [hH] at e14893
                  replace e14893 := boolN e14893
                  generalize e14895 : H Bool _ = b14894
                  simp only [hH] at e14895
                  replace e14895 := boolN e14895
                  generalize e14897 : H Bool _ = b14896
                  simp only [hH] at e14897
                  replace e14897 := boolN e14897
                  generalize e14899 : H Bool _ = b14898
                  simp only [hH] at e14899
                  replace e14899 := boolN e14899
                  generalize e14901 : H Bool _ = b14900
                  simp only [hH] at e14901
                  replace e14901 := boolN e14901
                  refine' ⟨[200, 201, 202], ⟨⟨rfl, rfl⟩, rfl⟩, _, _, ?x14906, ?s14907, _, hTri _ _ _ _ (crashP _ _ _ _ _ _ _ _ _ _ _ _ _ _ _ ?a14902 ?a14903 ?a14904 ?a14905), ?k14908⟩
                  case x14906 => cbv <;> rfl
                  case s14907 => cbv <;> rfl
                  case a14902 => omega
                  case a14903 => grind
                  case a14904 => assumption
                  case a14905 => assumption
                  rintro r14915 σ14916 (⟨x14909, ⟨x14910, ⟨x14911, ⟨h14912, ⟨h14913, ⟨rfl, rfl⟩⟩⟩⟩⟩⟩ | ⟨h14914, ⟨rfl, rfl⟩⟩)
                  · cbv
                    refine' ⟨[220, 221, 222], ⟨⟨rfl, rfl⟩, rfl⟩, _, _, ?x14924, ?s14925, _, hTri _ _ _ _ (crashR' ?a14917 ?a14918 _ _ _ _ _ ?a14919 ?a14920 ?a14921 ?a14922 ?a14923), ?k14926⟩
                    case x14924 => cbv <;> rfl
                    case s14925 => cbv <;> rfl
                    case a14917 => assumption
                    case a14918 => assumption
                    case a14919 => omega
                    case a14920 => grind
                    case a14921 => assumption
                    case a14922 => assumption
                    case a14923 => assumption
                    rintro r14931 σ14932 ⟨x14927, ⟨x14928, ⟨x14929, ⟨h14930, ⟨rfl, rfl⟩⟩⟩⟩⟩
                    cbv
                    generalize e14934 : H Bool _ = b14933
                    simp only [hH] at e14934
                    replace e14934 := boolN e14934
                    obtain rfl : b14933 = true := e14934.2 (by decide)
                    refine' ⟨[200, 201, 202], ⟨⟨rfl, rfl⟩, rfl⟩, _, _, ?x14935, ?s14936, _, hTri _ _ _ _ (counts_tri _ _ _ _ _ _ _ _ _ _), ?k14937⟩
                    case x14935 => cbv <;> rfl
                    case s14936 => cbv <;> rfl
                    rintro r14938 σ14939 ⟨rfl, rfl⟩
                    cbv
                    split
                    case h_1 => rename_i hh; exact absurd hh (by rw [hH]; simp; try omega)
                    cbv
                    split
                    case h_1 => rename_i hh; exact absurd hh (by rw [hH]; simp; try omega)
                    cbv
                    split
                    case h_1 => rename_i hh; exact absurd hh (by rw [hH]; simp; try omega)
                    cbv
                    generalize e14941 : H Bool _ = b14940
                    simp only [hH] at e14941
                    replace e14941 := boolN e14941
                    obtain rfl : b14940 = false := Bool.eq_false_iff.2 fun q => absurd (e14941.1 q) (by decide)
                    generalize e14943 : H Bool _ = b14942
                    simp only [hH] at e14943
                    replace e14943 := boolN e14943
                    obtain rfl : b14942 = false := Bool.eq_false_iff.2 fun q => absurd (e14943.1 q) (by decide)
                    generalize e14945 : H Bool _ = b14944
                    simp only [hH] at e14945
                    replace e14945 := boolN e14945
                    obtain rfl : b14944 = false := Bool.eq_false_iff.2 fun q => absurd (e14945.1 q) (by decide)
                    refine' ⟨[200, 201, 202], ⟨⟨rfl, rfl⟩, rfl⟩, _, _, ?x14947, ?s14948, _, hTri _ _ _ _ (imageP _ _ _ _ _ _ _ _ _ _ ?a14946), ?k14949⟩
                    case x14947 => cbv <;> rfl
                    case s14948 => cbv <;> rfl
                    case a14946 => assumption
                    rintro r14952 σ14953 ⟨x14950, ⟨h14951, ⟨rfl, rfl⟩⟩⟩
                    cbv
                    refine' ⟨[], ⟨⟨rfl, rfl⟩, rfl⟩, _, _, ?x14957, ?s14958, _, hTri _ _ _ _ (texts_eq _ _ _ _ _ _ ?a14954 ?a14955 ?a14956), ?k14959⟩
                    case x14957 => cbv <;> rfl
                    case s14958 => cbv <;> rfl
                    case a14954 => omega
                    case a14955 => rfl
                    case a14956 => (intro j _ _; subst_vars; simp only [hH, AM.hd, Int.zero_add, Bool.cond_decide]; grind)
                    rintro r14960 σ14961 ⟨rfl, rfl⟩
                    cbv
                    refine' ⟨[200, 201, 202], ⟨⟨rfl, rfl⟩, rfl⟩, _, _, ?x14963, ?s14964, _, hTri _ _ _ _ (waitsP _ _ _ _ _ _ _ _ _ _ ?a14962), ?k14965⟩
                    case x14963 => cbv <;> rfl
                    case s14964 => cbv <;> rfl
                    case a14962 => omega
                    rintro r14968 σ14969 ⟨x14966, ⟨h14967, ⟨rfl, rfl⟩⟩⟩
                    cbv
                    refine' ⟨[220, 221, 344], ⟨⟨rfl, rfl⟩, rfl⟩, _, _, ?x14971, ?s14972, _, hTri _ _ _ _ (waitsR _ _ _ _ _ _ _ _ _ _ ?a14970), ?k14973⟩
                    case x14971 => cbv <;> rfl
                    case s14972 => cbv <;> rfl
                    case a14970 => omega
                    rintro r14976 σ14977 ⟨x14974, ⟨h14975, ⟨rfl, rfl⟩⟩⟩
                    cbv
                    refine' ⟨[], ⟨⟨rfl, rfl⟩, rfl⟩, _, _, ?x14981, ?s14982, _, hTri _ _ _ _ (ints_eq _ _ _ _ _ _ ?a14978 ?a14979 ?a14980), ?k14983⟩
                    case x14981 => cbv <;> rfl
                    case s14982 => cbv <;> rfl
                    case a14978 => omega
                    case a14979 => rfl
                    case a14980 => omega
                    rintro r14984 σ14985 ⟨rfl, rfl⟩
                    cbv
                    refine' ⟨[200, 201, 202], ⟨⟨rfl, rfl⟩, rfl⟩, _, _, ?x14986, ?s14987, _, hTri _ _ _ _ (size_tri _ _ _ _ _ _ _ _ _ _), ?k14988⟩
                    case x14986 => cbv <;> rfl
                    case s14987 => cbv <;> rfl
                    rintro r14989 σ14990 ⟨rfl, rfl⟩
                    cbv
                    split
                    case h_1 => rename_i hh; exact absurd hh (by rw [hH]; simp; try omega)
                    cbv
                    generalize e14992 : H Int _ = v14991
                    simp only [hH, Int.zero_add, Int.add_zero, o0, Int.sub_zero] at e14992
                    replace e14992 := (IntWalk.i64_in _ (by omega)).symm.trans e14992
                    generalize e14994 : H Bool _ = b14993
                    simp only [hH] at e14994
                    replace e14994 := boolN e14994
                    obtain rfl : b14993 = false := Bool.eq_false_iff.2 fun q => absurd (e14994.1 q) (by decide)
                    refine' ⟨(_, (_, (_, (_, (_, (_, (_, (_, (_, (_, (_, (_, (_, _))))))))))))), ⟨⟨?p14995, ?p14996⟩, ⟨⟨?p14997, ?p14998⟩, ⟨⟨?p14999, ?p15000⟩, ⟨⟨?p15001, ?p15002⟩, ⟨⟨?p15003, ?p15004⟩, ⟨⟨?p15005, ?p15006⟩, ⟨?p15007, ⟨?p15008, ⟨?p15009, ?p15010⟩⟩⟩⟩⟩⟩⟩⟩⟩, ?m15011, ?s15012⟩
                    case s15012 => cbv <;> repeat' first | exact rfl | exact trivial | exact Or.inr trivial | exact Or.inl rfl | apply And.intro | omega | (split <;> first | exact trivial | (exfalso; simp_all; done)) | (subst_vars; simp [o0]; done)
                    case m15011 => simp; omega
                    case p14995 => omega
                    case p14996 => omega
                    case p14997 => omega
                    case p14998 => omega
                    case p14999 => omega
                    case p15000 => omega
                    case p15001 => omega
                    case p15002 => omega
                    case p15003 => omega
                    case p15004 => omega
                    case p15005 => omega
                    case p15006 => omega
                    case p15007 => simp_all; done
                    case p15008 => omega
                    case p15009 => omega
                    case p15010 => omega
                  · cbv
                    refine' ⟨[220, 221, 222], ⟨⟨rfl, rfl⟩, rfl⟩, _, _, ?x15025, ?s15026, _, hTri _ _ _ _ (crashR_bad _ _ _ _ _ _ _ _ _ _ _ _ _ _ _ ?a15023 ?a15024), ?k15027⟩
                    case x15025 => cbv <;> rfl
                    case s15026 => cbv <;> rfl
                    case a15023 => grind
                    case a15024 => assumption
                    rintro r15028 σ15029 ⟨rfl, rfl⟩
                    cbv
                    generalize e15031 : H Bool _ = b15030
                    simp only [hH] at e15031
                    replace e15031 := boolN e15031
                    obtain rfl : b15030 = true := e15031.2 (by decide)
                    refine' ⟨[200, 201, 202], ⟨⟨rfl, rfl⟩, rfl⟩, _, _, ?x15032, ?s15033, _, hTri _ _ _ _ (counts_tri _ _ _ _ _ _ _ _ _ _), ?k15034⟩
                    case x15032 => cbv <;> rfl
                    case s15033 => cbv <;> rfl
                    rintro r15035 σ15036 ⟨rfl, rfl⟩
                    cbv
                    split
                    case h_1 => rename_i hh; exact absurd hh (by rw [hH]; simp; try omega)
                    cbv
                    split
                    case h_1 => rename_i hh; exact absurd hh (by rw [hH]; simp; try omega)
                    cbv
                    split
                    case h_1 => rename_i hh; exact absurd hh (by rw [hH]; simp; try omega)
                    cbv
                    generalize e15038 : H Bool _ = b15037
                    simp only [hH] at e15038
                    replace e15038 := boolN e15038
                    obtain rfl : b15037 = false := Bool.eq_false_iff.2 fun q => absurd (e15038.1 q) (by decide)
                    generalize e15040 : H Bool _ = b15039
                    simp only [hH] at e15040
                    replace e15040 := boolN e15040
                    obtain rfl : b15039 = false := Bool.eq_false_iff.2 fun q => absurd (e15040.1 q) (by decide)
                    generalize e15042 : H Bool _ = b15041
                    simp only [hH] at e15042
                    replace e15042 := boolN e15042
                    obtain rfl : b15041 = false := Bool.eq_false_iff.2 fun q => absurd (e15042.1 q) (by decide)
                    refine' ⟨[200, 201, 202], ⟨⟨rfl, rfl⟩, rfl⟩, _, _, ?x15044, ?s15045, _, hTri _ _ _ _ (imageP _ _ _ _ _ _ _ _ _ _ ?a15043), ?k15046⟩
                    case x15044 => cbv <;> rfl
                    case s15045 => cbv <;> rfl
                    case a15043 => assumption
                    rintro r15049 σ15050 ⟨x15047, ⟨h15048, ⟨rfl, rfl⟩⟩⟩
                    cbv
                    refine' ⟨[], ⟨⟨rfl, rfl⟩, rfl⟩, _, _, ?x15054, ?s15055, _, hTri _ _ _ _ (texts_eq _ _ _ _ _ _ ?a15051 ?a15052 ?a15053), ?k15056⟩
                    case x15054 => cbv <;> rfl
                    case s15055 => cbv <;> rfl
                    case a15051 => omega
                    case a15052 => rfl
                    case a15053 => (intro j _ _; subst_vars; simp only [hH, AM.hd, Int.zero_add, Bool.cond_decide]; grind)
                    rintro r15057 σ15058 ⟨rfl, rfl⟩
                    cbv
                    refine' ⟨[200, 201, 202], ⟨⟨rfl, rfl⟩, rfl⟩, _, _, ?x15060, ?s15061, _, hTri _ _ _ _ (waitsP _ _ _ _ _ _ _ _ _ _ ?a15059), ?k15062⟩
                    case x15060 => cbv <;> rfl
                    case s15061 => cbv <;> rfl
                    case a15059 => omega
                    rintro r15065 σ15066 ⟨x15063, ⟨h15064, ⟨rfl, rfl⟩⟩⟩
                    cbv
                    refine' ⟨[220, 221, 222], ⟨⟨rfl, rfl⟩, rfl⟩, _, _, ?x15068, ?s15069, _, hTri _ _ _ _ (waitsR _ _ _ _ _ _ _ _ _ _ ?a15067), ?k15070⟩
                    case x15068 => cbv <;> rfl
                    case s15069 => cbv <;> rfl
                    case a15067 => omega
                    rintro r15073 σ15074 ⟨x15071, ⟨h15072, ⟨rfl, rfl⟩⟩⟩
                    cbv
                    refine' ⟨[], ⟨⟨rfl, rfl⟩, rfl⟩, _, _, ?x15078, ?s15079, _, hTri _ _ _ _ (ints_eq _ _ _ _ _ _ ?a15075 ?a15076 ?a15077), ?k15080⟩
                    case x15078 => cbv <;> rfl
                    case s15079 => cbv <;> rfl
                    case a15075 => omega
                    case a15076 => rfl
                    case a15077 => (intro j _ _; subst_vars; simp only [hH, AM.hd, Int.zero_add, Bool.cond_decide]; grind)
                    rintro r15081 σ15082 ⟨rfl, rfl⟩
                    cbv
                    refine' ⟨[200, 201, 202], ⟨⟨rfl, rfl⟩, rfl⟩, _, _, ?x15083, ?s15084, _, hTri _ _ _ _ (size_tri _ _ _ _ _ _ _ _ _ _), ?k15085⟩
                    case x15083 => cbv <;> rfl
                    case s15084 => cbv <;> rfl
                    rintro r15086 σ15087 ⟨rfl, rfl⟩
                    cbv
                    split
                    case h_1 => rename_i hh; exact absurd hh (by rw [hH]; simp; try omega)
                    cbv
                    generalize e15089 : H Int _ = v15088
                    simp only [hH, Int.zero_add, Int.add_zero, o0, Int.sub_zero] at e15089
                    replace e15089 := (IntWalk.i64_in _ (by omega)).symm.trans e15089
                    generalize e15091 : H Bool _ = b15090
                    simp only [hH] at e15091
                    replace e15091 := boolN e15091
                    obtain rfl : b15090 = false := Bool.eq_false_iff.2 fun q => absurd (e15091.1 q) (by decide)
                    refine' ⟨(_, (_, (_, (_, (_, (_, (_, (_, (_, (_, (_, (_, (_, _))))))))))))), ⟨⟨?p15092, ?p15093⟩, ⟨⟨?p15094, ?p15095⟩, ⟨⟨?p15096, ?p15097⟩, ⟨⟨?p15098, ?p15099⟩, ⟨⟨?p15100, ?p15101⟩, ⟨⟨?p15102, ?p15103⟩, ⟨?p15104, ⟨?p15105, ⟨?p15106, ?p15107⟩⟩⟩⟩⟩⟩⟩⟩⟩, ?m15108, ?s15109⟩
                    case s15109 => cbv <;> repeat' first | exact rfl | exact trivial | exact Or.inr trivial | exact Or.inl rfl | apply And.intro | omega | (split <;> first | exact trivial | (exfalso; simp_all; done)) | (subst_vars; simp [o0]; done)
                    case m15108 => simp; omega
                    case p15092 => omega
                    case p15093 => omega
                    case p15094 => omega
                    case p15095 => omega
                    case p15096 => omega
                    case p15097 => omega
                    case p15098 => omega
                    case p15099 => omega
                    case p15100 => omega
                    case p15101 => omega
                    case p15102 => omega
                    case p15103 => omega
                    case p15104 => assumption
                    case p15105 => assumption
                    case p15106 => assumption
                    case p15107 => assumption
      · rename_i h15110
        simp only [hH, decide_eq_false_iff_not, Int.not_lt, Int.not_le] at h15110
        cbv
        generalize e15112 : H Bool _ = b15111
        simp only [hH] at e15112
        replace e15112 := boolN e15112
        generalize e15114 : H Bool _ = b15113
        simp only [hH] at e15114
        replace e15114 := boolN e15114
        refine' ⟨[], ⟨⟨rfl, rfl⟩, rfl⟩, _, _, ?x15115, ?s15116, _, hTri _ _ _ _ live04, ?k15117⟩
        case x15115 => cbv <;> rfl
        case s15116 => cbv <;> rfl
        rintro r15118 σ15119 ⟨rfl, rfl⟩
        cbv
        refine' ⟨_, [], rfl, ?c15120, ?s15121⟩
        case s15121 => cbv <;> repeat' first | exact rfl | exact trivial | exact Or.inr trivial | exact Or.inl rfl | apply And.intro | omega | (split <;> first | exact trivial | (exfalso; simp_all; done)) | (subst_vars; simp [o0]; done)
        case c15120 => rfl
    · rename_i h15122
      simp only [hH, decide_eq_false_iff_not, Int.not_lt, Int.not_le] at h15122
      cbv
      generalize e15124 : H Bool _ = b15123
      simp only [hH] at e15124
      replace e15124 := boolN e15124
      refine' ⟨[], ⟨⟨rfl, rfl⟩, rfl⟩, _, _, ?x15125, ?s15126, _, hTri _ _ _ _ live04, ?k15127⟩
      case x15125 => cbv <;> rfl
      case s15126 => cbv <;> rfl
      rintro r15128 σ15129 ⟨rfl, rfl⟩
      cbv
      refine' ⟨_, [], rfl, ?c15130, ?s15131⟩
      case s15131 => cbv <;> repeat' first | exact rfl | exact trivial | exact Or.inr trivial | exact Or.inl rfl | apply And.intro | omega | (split <;> first | exact trivial | (exfalso; simp_all; done)) | (subst_vars; simp [o0]; done)
      case c15130 => rfl
end Go.Proofs.Ytabmdohibkkflaa.AM

