/-
  What functions of the program compute. No condition beside those that each theorem states.
-/
import Derived.Test.YtabmdohibkkflaaDN4
set_option linter.all false

namespace Go.Proofs.Ytabmdohibkkflaa.AM
open Go
set_option maxRecDepth 100000
set_option maxHeartbeats 4000000
/-! an empty row may be any -/
theorem rv_nil {g : G} {w : World} {ow : Nat → Prop} {cs cs' : List C} {fl : Bool} {v : Value} (h : RV g w ow (.l 0 cs fl) v) : RV g w ow (.l 0 cs' fl) v := by
  obtain ⟨a, len, cap, h1, h2, h3, h4⟩ := h
  exact ⟨a, len, cap, h1, h2, h3, .inl (by omega)⟩
theorem tri_nil1 {P : Program} {f : FuncId} {x : V} {cs : List C} {fl : Bool} {xs : List V} {σ : Sto} {R : V → Sto → Prop} (h : TriS P f (x :: .l 0 cs fl :: xs) σ R) : TriS P f (x :: .l 0 [] fl :: xs) σ R := by
  refine ⟨h.1, fun X g w vs hX hob hvs => h.2 X g w vs hX hob ?_⟩
  match vs, hvs with
  | v :: v2 :: vs, ⟨h1, h2, h3⟩ => exact ⟨h1, rv_nil h2, h3⟩
theorem tri_nil0 {P : Program} {f : FuncId} {cs : List C} {fl : Bool} {xs : List V} {σ : Sto} {R : V → Sto → Prop} (h : TriS P f (.l 0 cs fl :: xs) σ R) : TriS P f (.l 0 [] fl :: xs) σ R := by
  refine ⟨h.1, fun X g w vs hX hob hvs => h.2 X g w vs hX hob ?_⟩
  match vs, hvs with
  | v2 :: vs, ⟨h2, h3⟩ => exact ⟨rv_nil h2, h3⟩
theorem crashed_none (pg : Ix → Str) (wn : Ix → Int) (ws : Ix → Str) (a : Int) (kf : Ix → Int) : ∀ m, crashed pg wn ws 0 (-1) a kf m = pg
  | 0 => rfl
  | m + 1 => by rw [crashed, if_neg (by omega), if_neg (by simp [rng]), crashed_none]
section
variable (n m k r w f u q : Int) (pg : Ix → Str) (wn : Ix → Int) (ws : Ix → Str)
theorem crashP_nil (hm : 0 ≤ m ∧ m ≤ 1000000000) (hw : ∀ j, 0 ≤ j → j < m → 0 ≤ wn [j] ∧ wn [j] < n) (hl : ∀ j, 0 ≤ j → j < m → (ws [j]).length = 256) : TriS Try.prog 26 [.pt 0 0, .l 0 [] true, .i .i64 (-1), .i .i64 0] (diskS 0 1 2 n m k r w f u pg wn ws)
    (fun x σ => ∃ wn' ws', x = .i .i64 0 ∧ σ = diskS 0 1 2 n 0 k r w f (-1) pg wn' ws') := by
  refine tri_nil1 (cs := [.i .i64 fun _ => 0]) ((crashP_ok n m k r w f u pg wn ws 0 (-1) 0 (fun _ => 0) true hm (by omega) hw hl ⟨by omega, fun i i0 i1 => by omega, fun i j i0 i1 i2 => by omega⟩).mono ?_)
  rintro x σ ⟨pg', wn', ws', rfl, h1, h2⟩
  rw [crashed_none] at h2
  exact ⟨wn', ws', h1, h2⟩
theorem writeP_ok' (s : Str) (hu : -1 ≤ u ∧ u ≤ 9223372036854775807) (hq : 0 ≤ q ∧ q < n) (hs : s.length = 256) (hu2 : 0 < u ∨ u = -1) (hm : 0 ≤ m ∧ m ≤ 1000000000000) (hw : 0 ≤ w ∧ w ≤ 1000000000000) :
    TriS Try.prog 23 [.pt 0 0, .i .i64 q, .s s] (diskS 0 1 2 n m k r w f u pg wn ws) (fun x σ => ∃ u' m' w' wn' ws', u' = burnt u ∧ m' = m + 1 ∧ w' = w + 1 ∧ (∀ j, 0 ≤ j → j < m → wn' [j] = wn [j] ∧ ws' [j] = ws [j]) ∧ wn' [m] = q ∧ ws' [m] = s ∧ x = .i .i64 0 ∧ σ = diskS 0 1 100 n m' m' r w' f u' pg wn' ws') := by
  refine (writeP_ok n m k r w f u q pg wn ws s hu ⟨hq, hs, hu2⟩ hm hw).mono ?_
  rintro x σ ⟨u', m', w', wn', ws', h1, h2, h3, rfl, rfl, h6, h7⟩
  exact ⟨u', m', w', _, _, h1, h2, h3, fun j j0 j1 => ⟨sn_lt j1, sn_lt j1⟩, sn_at, sn_at, h6, h7⟩
theorem imageP' (hn : 1 ≤ n ∧ n ≤ 1000) : TriS Try.prog 27 [.pt 0 0] (diskS 0 1 2 n m k r w f u pg wn ws) (fun x σ => ∃ c : Ix → Str, (∀ j : Int, 0 ≤ j → j < n → c [j] = pg [j]) ∧ x = .sl 100 0 n 1 false ∧ σ = diskS 0 1 2 n m k r w f u pg wn ws ++ [(100, .ar n [.s c] 9)]) :=
  imageP n m k r w f u pg wn ws hn
end
theorem stay1 {pg0 pg1 : Ix → Str} {wn : Ix → Int} {ws : Ix → Str} {n q v c : Int} {B s : Str} (h0 : ∀ j, 0 ≤ j → j < n → pg0 [j] = B) (e : pg1 = flushed pg0 wn ws v.toNat) (h1 : wn [0] = q) (h2 : ws [0] = s) (h3 : s = filledF c) (hv : v = 0 + 1) : ∀ j, 0 ≤ j → j < n → pg1 [j] = if j = q then filledF c else B := by
  intro j j0 j1
  subst hv
  rw [e, show ((0 : Int) + 1).toNat = 0 + 1 from rfl, flushed]
  show (bif decide (j = wn [0]) then ws [0] else pg0 [j]) = _
  rw [h1, h2, h3, h0 j j0 j1]
  by_cases h : j = q
  · rw [decide_eq_true h, if_pos h]; rfl
  · rw [decide_eq_false h, if_neg h]; rfl
theorem stays04 (n q c L : Int) (dO nn cc kn tt aa : Ix → Int) (kf : Ix → Int) (hL : 0 ≤ L) : TriS Try.prog 6 [.ag [.i .i64 n, .l L [.i .i64 dO, .i .i64 nn, .i .u8 cc, .l kn [.i .i64 kf], .i .i64 tt, .i .i64 aa] false, .i .i64 q, .i .u8 c]] [] (fun r _ => r = .b true) := by
  have hb := blankR_tri
  have hl := live04
  by_cases hn : 1 ≤ n ∧ n ≤ 1000
  case neg =>
    refine tri_of TT_ok mixed (OR := ORD6) (fn := Try.f6) (c := body Try.f6) (by kernel_rfl) (by kernel_rfl) (by kernel_rfl) (by kernel_rfl) (by simp [Try.f6]) fun H Tri hH hTri => ?_
    cbv
    refine' ⟨[], ⟨⟨rfl, rfl⟩, rfl⟩, _, _, ?x53001, ?s53002, _, hTri _ _ _ _ (disk_new_bad _ ?a53000), ?k53003⟩
    case x53001 => cbv <;> rfl
    case s53002 => cbv <;> rfl
    case a53000 => assumption
    rintro r53004 σ53005 ⟨rfl, rfl⟩
    cbv
    split
    case h_2 => rename_i hh; exact absurd hh (by rw [hH]; simp; try omega)
    cbv
    generalize e53007 : H Bool _ = b53006
    simp only [hH] at e53007
    replace e53007 := boolN e53007
    obtain rfl : b53006 = true := e53007.2 (by decide)
    refine' ⟨[], ⟨⟨rfl, rfl⟩, rfl⟩, _, _, ?x53008, ?s53009, _, hTri _ _ _ _ hl, ?k53010⟩
    case x53008 => cbv <;> rfl
    case s53009 => cbv <;> rfl
    rintro r53011 σ53012 ⟨rfl, rfl⟩
    cbv
    refine' ⟨_, [], rfl, ?c53013, ?s53014⟩
    case s53014 => cbv <;> repeat' first | exact rfl | exact trivial | exact Or.inr trivial | exact Or.inl rfl | apply And.intro | omega | (split <;> first | exact trivial | (exfalso; simp_all; done)) | (subst_vars; simp [o0]; done)
    case c53013 => rfl
  have hnew := newP_ok n hn
  generalize blankF = B at *
  refine tri_of TT_ok mixed (OR := ORD6) (fn := Try.f6) (c := body Try.f6) (by kernel_rfl) (by kernel_rfl) (by kernel_rfl) (by kernel_rfl) (by simp [Try.f6]) fun H Tri hH hTri => ?_
  cbv
  refine' ⟨[], ⟨⟨rfl, rfl⟩, rfl⟩, _, _, ?x57000, ?s57001, _, hTri _ _ _ _ hnew, ?k57002⟩
  case x57000 => cbv <;> rfl
  case s57001 => cbv <;> rfl
  rintro r57007 σ57008 ⟨x57003, ⟨x57004, ⟨x57005, ⟨h57006, ⟨rfl, rfl⟩⟩⟩⟩⟩
  cbv
  split
  case h_1 => rename_i hh; exact absurd hh (by rw [hH]; simp; try omega)
  cbv
  split
  · rename_i h57009
    simp only [hH, decide_eq_true_eq] at h57009
    cbv
    generalize e57011 : H Bool _ = b57010
    simp only [hH] at e57011
    replace e57011 := boolN e57011
    generalize e57013 : H Bool _ = b57012
    simp only [hH] at e57013
    replace e57013 := boolN e57013
    obtain rfl : b57012 = false := Bool.eq_false_iff.2 fun q => absurd (e57013.1 q) (by decide)
    refine' ⟨[], ⟨⟨rfl, rfl⟩, rfl⟩, _, _, ?x57014, ?s57015, _, hTri _ _ _ _ hl, ?k57016⟩
    case x57014 => cbv <;> rfl
    case s57015 => cbv <;> rfl
    rintro r57017 σ57018 ⟨rfl, rfl⟩
    cbv
    refine' ⟨_, [], rfl, ?c57019, ?s57020⟩
    case s57020 => cbv <;> repeat' first | exact rfl | exact trivial | exact Or.inr trivial | exact Or.inl rfl | apply And.intro | omega | (split <;> first | exact trivial | (exfalso; simp_all; done)) | (subst_vars; simp [o0]; done)
    case c57019 => rfl
  · rename_i h57021
    simp only [hH, decide_eq_false_iff_not, Int.not_lt, Int.not_le] at h57021
    cbv
    split
    · rename_i h57022
      simp only [hH, decide_eq_true_eq] at h57022
      cbv
      generalize e57024 : H Bool _ = b57023
      simp only [hH] at e57024
      replace e57024 := boolN e57024
      generalize e57026 : H Bool _ = b57025
      simp only [hH] at e57026
      replace e57026 := boolN e57026
      generalize e57028 : H Bool _ = b57027
      simp only [hH] at e57028
      replace e57028 := boolN e57028
      obtain rfl : b57027 = false := Bool.eq_false_iff.2 fun q => absurd (e57028.1 q) (by decide)
      refine' ⟨[], ⟨⟨rfl, rfl⟩, rfl⟩, _, _, ?x57029, ?s57030, _, hTri _ _ _ _ hl, ?k57031⟩
      case x57029 => cbv <;> rfl
      case s57030 => cbv <;> rfl
      rintro r57032 σ57033 ⟨rfl, rfl⟩
      cbv
      refine' ⟨_, [], rfl, ?c57034, ?s57035⟩
      case s57035 => cbv <;> repeat' first | exact rfl | exact trivial | exact Or.inr trivial | exact Or.inl rfl | apply And.intro | omega | (split <;> first | exact trivial | (exfalso; simp_all; done)) | (subst_vars; simp [o0]; done)
      case c57034 => rfl
    · rename_i h57036
      simp only [hH, decide_eq_false_iff_not, Int.not_lt, Int.not_le] at h57036
      cbv
      split
      · rename_i h57037
        simp only [hH, decide_eq_true_eq] at h57037
        cbv
        generalize e57039 : H Bool _ = b57038
        simp only [hH] at e57039
        replace e57039 := boolN e57039
        generalize e57041 : H Bool _ = b57040
        simp only [hH] at e57041
        replace e57041 := boolN e57041
        generalize e57043 : H Bool _ = b57042
        simp only [hH] at e57043
        replace e57043 := boolN e57043
        generalize e57045 : H Bool _ = b57044
        simp only [hH] at e57045
        replace e57045 := boolN e57045
        obtain rfl : b57044 = false := Bool.eq_false_iff.2 fun q => absurd (e57045.1 q) (by decide)
        refine' ⟨[], ⟨⟨rfl, rfl⟩, rfl⟩, _, _, ?x57046, ?s57047, _, hTri _ _ _ _ hl, ?k57048⟩
        case x57046 => cbv <;> rfl
        case s57047 => cbv <;> rfl
        rintro r57049 σ57050 ⟨rfl, rfl⟩
        cbv
        refine' ⟨_, [], rfl, ?c57051, ?s57052⟩
        case s57052 => cbv <;> repeat' first | exact rfl | exact trivial | exact Or.inr trivial | exact Or.inl rfl | apply And.intro | omega | (split <;> first | exact trivial | (exfalso; simp_all; done)) | (subst_vars; simp [o0]; done)
        case c57051 => rfl
      · rename_i h57053
        simp only [hH, decide_eq_false_iff_not, Int.not_lt, Int.not_le] at h57053
        cbv
        generalize e57055 : H Bool _ = b57054
        simp only [hH] at e57055
        replace e57055 := boolN e57055
        generalize e57057 : H Bool _ = b57056
        simp only [hH] at e57057
        replace e57057 := boolN e57057
        generalize e57059 : H Bool _ = b57058
        simp only [hH] at e57059
        replace e57059 := boolN e57059
        generalize e57061 : H Bool _ = b57060
        simp only [hH] at e57061
        replace e57061 := boolN e57061
        obtain rfl : b57060 = false := Bool.eq_false_iff.2 fun q => absurd (e57061.1 q) (by decide)
        refine' ⟨[], ⟨⟨rfl, rfl⟩, rfl⟩, _, _, ?x57062, ?s57063, _, hTri _ _ _ _ (filled_tri _), ?k57064⟩
        case x57062 => cbv <;> rfl
        case s57063 => cbv <;> rfl
        rintro r57067 σ57068 ⟨x57065, ⟨h57066, ⟨rfl, rfl⟩⟩⟩
        cbv
        refine' ⟨[201, 202, 203], ⟨⟨rfl, rfl⟩, rfl⟩, _, _, ?x57075, ?s57076, _, hTri _ _ _ _ (writeP_ok' _ _ _ _ _ _ _ _ _ _ _ _ ?a57069 ?a57070 ?a57071 ?a57072 ?a57073 ?a57074), ?k57077⟩
        case x57075 => cbv <;> rfl
        case s57076 => cbv <;> rfl
        case a57069 => omega
        case a57070 => omega
        case a57071 => (subst_vars; exact filled_len _)
        case a57072 => omega
        case a57073 => omega
        case a57074 => omega
        rintro r57089 σ57090 ⟨v57078, ⟨v57079, ⟨v57080, ⟨x57081, ⟨x57082, ⟨h57083, ⟨h57084, ⟨h57085, ⟨h57086, ⟨h57087, ⟨h57088, ⟨rfl, rfl⟩⟩⟩⟩⟩⟩⟩⟩⟩⟩⟩⟩
        cbv
        split
        case h_1 => rename_i hh; exact absurd hh (by rw [hH]; simp; try omega)
        cbv
        generalize e57092 : H Bool _ = b57091
        simp only [hH] at e57092
        replace e57092 := boolN e57092
        obtain rfl : b57091 = false := Bool.eq_false_iff.2 fun q => absurd (e57092.1 q) (by decide)
        refine' ⟨[201, 202, 241], ⟨⟨rfl, rfl⟩, rfl⟩, _, _, ?x57098, ?s57099, _, hTri _ _ _ _ (flushP_ok _ _ _ _ _ _ _ _ _ _ ?a57093 ?a57094 ?a57095 ?a57096 ?a57097), ?k57100⟩
        case x57098 => cbv <;> rfl
        case s57099 => cbv <;> rfl
        case a57093 => omega
        case a57094 => omega
        case a57095 => omega
        case a57096 => omega
        case a57097 => grind
        rintro r57109 σ57110 ⟨v57101, ⟨v57102, ⟨x57103, ⟨x57104, ⟨x57105, ⟨h57106, ⟨h57107, ⟨h57108, ⟨rfl, rfl⟩⟩⟩⟩⟩⟩⟩⟩⟩
        cbv
        split
        case h_1 => rename_i hh; exact absurd hh (by rw [hH]; simp; omega)
        cbv
        refine' ⟨0, Int × Int × Int × Int × Int × Int × (Ix → Str) × (Ix → Int) × (Ix → Str), fun ((i, m, k, w, f, u, pg, wn, ws) : Int × Int × Int × Int × Int × Int × (Ix → Str) × (Ix → Int) × (Ix → Str)) => ⟨[(7, V.pt 201 0), (6, V.i IntKind.u8 c), (5, V.i IntKind.i64 q), (4, V.l L [C.i IntKind.i64 dO, C.i IntKind.i64 nn, C.i IntKind.u8 cc, C.l kn [C.i IntKind.i64 kf], C.i IntKind.i64 tt, C.i IntKind.i64 aa] false), (3, V.i IntKind.i64 n), (2, V.b false), (9, .i .i64 i)], [(201, .st [.sl 202 0 n 1 false, .sl 241 0 m 2 false, .i .i64 0, .i .i64 w, .i .i64 f, .i .i64 u] 91), (202, .ar n [.s pg] 9), (241, .ar k [.i .i64 wn, .s ws] 93), (100, O.st [V.i IntKind.i64 n, V.l L [C.i IntKind.i64 dO, C.i IntKind.i64 nn, C.i IntKind.u8 cc, C.l kn [C.i IntKind.i64 kf], C.i IntKind.i64 tt, C.i IntKind.i64 aa] false, V.i IntKind.i64 q, V.i IntKind.u8 c] 45)], 242⟩, fun ((i, m, k, w, f, u, pg, wn, ws) : Int × Int × Int × Int × Int × Int × (Ix → Str) × (Ix → Int) × (Ix → Str)) => (0 ≤ i ∧ i ≤ 50) ∧ (0 ≤ m ∧ m ≤ i) ∧ (0 ≤ w ∧ w ≤ i + 1) ∧ (u = -1) ∧ (∀ j, 0 ≤ j → j < n → pg [j] = if j = q then filledF c else B) ∧ (∀ j, 0 ≤ j → j < m → 0 ≤ wn [j] ∧ wn [j] < n) ∧ (∀ j, 0 ≤ j → j < m → (ws [j]).length = 256), fun ((i, m, k, w, f, u, pg, wn, ws) : Int × Int × Int × Int × Int × Int × (Ix → Str) × (Ix → Int) × (Ix → Str)) => (50 - i).toNat, ⟨(0, 0, _, _, _, _, _, _, _), ⟨?p57114, ?p57115, ?p57116, ?p57117, ?p57118, ?p57119, ?p57120⟩, ?s57112⟩, ?r57113⟩
        case s57112 => cbv <;> repeat' first | exact rfl | exact trivial | exact Or.inr trivial | exact Or.inl rfl | apply And.intro | omega | (split <;> first | exact trivial | (exfalso; simp_all; done)) | (subst_vars; simp [o0]; done)
        case p57114 => omega
        case p57115 => omega
        case p57116 => omega
        case p57117 => omega
        case p57118 => (apply stay1; assumption; assumption; assumption; assumption; assumption; assumption)
        case p57119 => omega
        case p57120 => omega
        rintro ⟨i, m, k, w, f, u, pg, wn, ws⟩ ⟨hi, hm, hw, hu, hpg, hra, hle⟩
        cbv
        split
        · rename_i h57121
          simp only [hH, decide_eq_true_eq] at h57121
          cbv
          split
          · rename_i h57122
            simp only [hH, decide_eq_true_eq] at h57122
            cbv
            generalize e57124 : H Int _ = v57123
            simp only [hH, Int.zero_add, Int.add_zero, o0, Int.sub_zero] at e57124
            generalize e57126 : (fun ix => nn (i :: ix)) = c57125
            generalize e57128 : (fun ix => cc (i :: ix)) = c57127
            generalize e57130 : (fun ix => kf (i :: ix)) = c57129
            generalize e57132 : (fun ix => tt (i :: ix)) = c57131
            generalize e57134 : (fun ix => aa (i :: ix)) = c57133
            generalize e57136 : (fun ix => dO (i :: ix)) = c57135
            refine ⟨by rw [hH]; simp; omega, ?_⟩
            cbv
            split
            · rename_i h57137
              simp only [hH, decide_eq_true_eq] at h57137
              cbv
              generalize e57139 : H Int _ = v57138
              simp only [hH, Int.zero_add, Int.add_zero, o0, Int.sub_zero] at e57139
              generalize e57141 : H Int _ = v57140
              simp only [hH, Int.zero_add, Int.add_zero, o0, Int.sub_zero] at e57141
              generalize e57143 : (fun ix => cc (i :: ix)) = c57142
              generalize e57145 : (fun ix => kf (i :: ix)) = c57144
              generalize e57147 : (fun ix => tt (i :: ix)) = c57146
              generalize e57149 : (fun ix => aa (i :: ix)) = c57148
              generalize e57151 : (fun ix => dO (i :: ix)) = c57150
              generalize e57153 : (fun ix => nn (i :: ix)) = c57152
              refine ⟨by rw [hH]; simp; omega, ?_⟩
              cbv
              refine ⟨by rw [hH]; simp; omega, ?_⟩
              cbv
              generalize e57155 : H Bool _ = b57154
              simp only [hH] at e57155
              replace e57155 := boolN e57155
              generalize e57157 : H Bool _ = b57156
              simp only [hH] at e57157
              replace e57157 := boolN e57157
              generalize e57159 : H Bool _ = b57158
              simp only [hH] at e57159
              replace e57159 := boolN e57159
              refine' ⟨[], ⟨⟨rfl, rfl⟩, rfl⟩, _, _, ?x57160, ?s57161, _, hTri _ _ _ _ (filled_tri _), ?k57162⟩
              case x57160 => cbv <;> rfl
              case s57161 => cbv <;> rfl
              rintro r57165 σ57166 ⟨x57163, ⟨h57164, ⟨rfl, rfl⟩⟩⟩
              cbv
              generalize e57168 : H Int _ = v57167
              simp only [hH, Int.zero_add, Int.add_zero, o0, Int.sub_zero] at e57168
              refine ⟨?q57169, ?_⟩
              case q57169 => (subst_vars; simp [hH, o0]; omega)
              cbv
              refine' ⟨[201, 202, 241], ⟨⟨rfl, rfl⟩, rfl⟩, _, _, ?x57182, ?s57183, _, hTri _ _ _ _ (writeP _ _ _ _ _ _ _ _ _ _ _ _ ?a57179 ?a57180 ?a57181), ?k57184⟩
              case x57182 => cbv <;> rfl
              case s57183 => cbv <;> rfl
              case a57179 => omega
              case a57180 => omega
              case a57181 => omega
              rintro r57201 σ57202 (⟨v57185, ⟨v57186, ⟨v57187, ⟨x57188, ⟨x57189, ⟨h57190, ⟨⟨h57191, h57192⟩, ⟨h57193, ⟨h57194, ⟨h57195, ⟨h57196, ⟨h57197, ⟨⟨h57198, h57199⟩, ⟨rfl, rfl⟩⟩⟩⟩⟩⟩⟩⟩⟩⟩⟩⟩⟩⟩ | ⟨h57200, ⟨rfl, rfl⟩⟩)
              · cbv
                generalize e57204 : H Int _ = v57203
                simp only [hH, Int.zero_add, Int.add_zero, o0, Int.sub_zero] at e57204
                replace e57204 := (IntWalk.i64_in _ (by omega)).symm.trans e57204
                refine' ⟨(_, (_, (_, (_, (_, (_, (_, (_, _)))))))), ⟨⟨?p57205, ?p57206⟩, ⟨⟨?p57207, ?p57208⟩, ⟨⟨?p57209, ?p57210⟩, ⟨?p57211, ⟨?p57212, ⟨?p57213, ?p57214⟩⟩⟩⟩⟩⟩, ?m57215, ?s57216⟩
                case s57216 => cbv <;> repeat' first | exact rfl | exact trivial | exact Or.inr trivial | exact Or.inl rfl | apply And.intro | omega | (split <;> first | exact trivial | (exfalso; simp_all; done)) | (subst_vars; simp [o0]; done)
                case m57215 => simp; omega
                case p57205 => omega
                case p57206 => omega
                case p57207 => omega
                case p57208 => omega
                case p57209 => omega
                case p57210 => omega
                case p57211 => omega
                case p57212 => assumption
                case p57213 => (apply snocR hra; assumption; assumption; assumption; assumption; omega)
                case p57214 => (apply snocL hle; assumption; assumption; assumption; omega)
              · cbv
                generalize e57218 : H Int _ = v57217
                simp only [hH, Int.zero_add, Int.add_zero, o0, Int.sub_zero] at e57218
                replace e57218 := (IntWalk.i64_in _ (by omega)).symm.trans e57218
                refine' ⟨(_, (_, (_, (_, (_, (_, (_, (_, _)))))))), ⟨⟨?p57219, ?p57220⟩, ⟨⟨?p57221, ?p57222⟩, ⟨⟨?p57223, ?p57224⟩, ⟨?p57225, ⟨?p57226, ⟨?p57227, ?p57228⟩⟩⟩⟩⟩⟩, ?m57229, ?s57230⟩
                case s57230 => cbv <;> repeat' first | exact rfl | exact trivial | exact Or.inr trivial | exact Or.inl rfl | apply And.intro | omega | (split <;> first | exact trivial | (exfalso; simp_all; done)) | (subst_vars; simp [o0]; done)
                case m57229 => simp; omega
                case p57219 => omega
                case p57220 => omega
                case p57221 => omega
                case p57222 => omega
                case p57223 => omega
                case p57224 => omega
                case p57225 => assumption
                case p57226 => assumption
                case p57227 => assumption
                case p57228 => assumption
            · rename_i h57231
              simp only [hH, decide_eq_false_iff_not, Int.not_lt, Int.not_le] at h57231
              cbv
              generalize e57233 : H Int _ = v57232
              simp only [hH, Int.zero_add, Int.add_zero, o0, Int.sub_zero] at e57233
              replace e57233 := (IntWalk.i64_in _ (by omega)).symm.trans e57233
              generalize e57235 : H Bool _ = b57234
              simp only [hH] at e57235
              replace e57235 := boolN e57235
              generalize e57237 : H Bool _ = b57236
              simp only [hH] at e57237
              replace e57237 := boolN e57237
              generalize e57239 : H Bool _ = b57238
              simp only [hH] at e57239
              replace e57239 := boolN e57239
              refine' ⟨(_, (_, (_, (_, (_, (_, (_, (_, _)))))))), ⟨⟨?p57240, ?p57241⟩, ⟨⟨?p57242, ?p57243⟩, ⟨⟨?p57244, ?p57245⟩, ⟨?p57246, ⟨?p57247, ⟨?p57248, ?p57249⟩⟩⟩⟩⟩⟩, ?m57250, ?s57251⟩
              case s57251 => cbv <;> repeat' first | exact rfl | exact trivial | exact Or.inr trivial | exact Or.inl rfl | apply And.intro | omega | (split <;> first | exact trivial | (exfalso; simp_all; done)) | (subst_vars; simp [o0]; done)
              case m57250 => simp; omega
              case p57240 => omega
              case p57241 => omega
              case p57242 => omega
              case p57243 => omega
              case p57244 => omega
              case p57245 => omega
              case p57246 => assumption
              case p57247 => assumption
              case p57248 => assumption
              case p57249 => assumption
          · rename_i h57252
            simp only [hH, decide_eq_false_iff_not, Int.not_lt, Int.not_le] at h57252
            cbv
            generalize e57254 : H Bool _ = b57253
            simp only [hH] at e57254
            replace e57254 := boolN e57254
            generalize e57256 : H Bool _ = b57255
            simp only [hH] at e57256
            replace e57256 := boolN e57256
            refine' ⟨[201, 202, 241], ⟨⟨rfl, rfl⟩, rfl⟩, _, _, ?x57260, ?s57261, _, hTri _ _ _ _ (crashP_nil _ _ _ _ _ _ _ _ _ _ ?a57257 ?a57258 ?a57259), ?k57262⟩
            case x57260 => cbv <;> rfl
            case s57261 => cbv <;> rfl
            case a57257 => omega
            case a57258 => assumption
            case a57259 => assumption
            rintro r57265 σ57266 ⟨x57263, ⟨x57264, ⟨rfl, rfl⟩⟩⟩
            cbv
            split
            case h_1 => rename_i hh; exact absurd hh (by rw [hH]; simp; try omega)
            cbv
            generalize e57268 : H Bool _ = b57267
            simp only [hH] at e57268
            replace e57268 := boolN e57268
            obtain rfl : b57267 = false := Bool.eq_false_iff.2 fun q => absurd (e57268.1 q) (by decide)
            refine' ⟨[201, 202, 241], ⟨⟨rfl, rfl⟩, rfl⟩, _, _, ?x57270, ?s57271, _, hTri _ _ _ _ (imageP _ _ _ _ _ _ _ _ _ _ ?a57269), ?k57272⟩
            case x57270 => cbv <;> rfl
            case s57271 => cbv <;> rfl
            case a57269 => assumption
            rintro r57275 σ57276 ⟨x57273, ⟨h57274, ⟨rfl, rfl⟩⟩⟩
            cbv
            refine' ⟨0, Int, fun (i : Int) => ⟨[(10, V.sl 362 0 n 1 false), (6, V.i IntKind.u8 c), (5, V.i IntKind.i64 q), (3, V.i IntKind.i64 n), (11, .i .i64 i), (2, V.b false)], [(201, O.st [V.sl 202 0 n 1 false, V.sl 241 0 0 2 false, V.i IntKind.i64 0, V.i IntKind.i64 w, V.i IntKind.i64 f, V.i IntKind.i64 (-1)] 91), (202, O.ar n [C.s pg] 9), (241, O.ar k [C.i IntKind.i64 x57263, C.s x57264] 93), (362, O.ar n [C.s x57273] 9), (100, O.st [V.i IntKind.i64 n, V.l L [C.i IntKind.i64 dO, C.i IntKind.i64 nn, C.i IntKind.u8 cc, C.l kn [C.i IntKind.i64 kf], C.i IntKind.i64 tt, C.i IntKind.i64 aa] false, V.i IntKind.i64 q, V.i IntKind.u8 c] 45)], 363⟩, fun (i : Int) => (0 ≤ i ∧ i ≤ n), fun (i : Int) => (n - i).toNat, ⟨0, ?p57280, ?s57278⟩, ?r57279⟩
            case s57278 => cbv <;> repeat' first | exact rfl | exact trivial | exact Or.inr trivial | exact Or.inl rfl | apply And.intro | omega | (split <;> first | exact trivial | (exfalso; simp_all; done)) | (subst_vars; simp [o0]; done)
            case p57280 => omega
            rintro i hi
            cbv
            split
            · rename_i h57281
              simp only [hH, decide_eq_true_eq] at h57281
              cbv
              split
              · rename_i h57282
                simp only [hH, decide_eq_true_eq] at h57282
                cbv
                generalize e57284 : H Int _ = v57283
                simp only [hH, Int.zero_add, Int.add_zero, o0, Int.sub_zero] at e57284
                subst e57284
                generalize e57286 : H (List UInt8) _ = s57285
                simp only [hH, Int.zero_add, Int.add_zero, o0, Int.sub_zero] at e57286
                refine ⟨by rw [hH]; simp; omega, ?_⟩
                cbv
                generalize e57288 : H Bool _ = b57287
                simp only [hH] at e57288
                replace e57288 := boolN e57288
                generalize e57290 : H Bool _ = b57289
                simp only [hH] at e57290
                replace e57290 := boolN e57290
                refine' ⟨[], ⟨⟨rfl, rfl⟩, rfl⟩, _, _, ?x57291, ?s57292, _, hTri _ _ _ _ (filled_tri _), ?k57293⟩
                case x57291 => cbv <;> rfl
                case s57292 => cbv <;> rfl
                rintro r57296 σ57297 ⟨x57294, ⟨h57295, ⟨rfl, rfl⟩⟩⟩
                cbv
                generalize e57299 : H Int _ = v57298
                simp only [hH, Int.zero_add, Int.add_zero, o0, Int.sub_zero] at e57299
                subst e57299
                generalize e57301 : H (List UInt8) _ = s57300
                simp only [hH, Int.zero_add, Int.add_zero, o0, Int.sub_zero] at e57301
                refine ⟨?q57302, ?_⟩
                case q57302 => simp_all; done
                cbv
                split
                case h_1 => rename_i hh; exact absurd hh (by simp only [hH]; (grind))
                cbv
                split
                case h_1 => rename_i hh; exact absurd hh (by rw [hH]; simp; omega)
                cbv
                generalize e57304 : H Int _ = v57303
                simp only [hH, Int.zero_add, Int.add_zero, o0, Int.sub_zero] at e57304
                replace e57304 := (IntWalk.i64_in _ (by omega)).symm.trans e57304
                generalize e57306 : H Bool _ = b57305
                simp only [hH] at e57306
                replace e57306 := boolN e57306
                generalize e57308 : H Bool _ = b57307
                simp only [hH] at e57308
                replace e57308 := boolN e57308
                refine' ⟨_, ⟨?p57309, ?p57310⟩, ?m57311, ?s57312⟩
                case s57312 => cbv <;> repeat' first | exact rfl | exact trivial | exact Or.inr trivial | exact Or.inl rfl | apply And.intro | omega | (split <;> first | exact trivial | (exfalso; simp_all; done)) | (subst_vars; simp [o0]; done)
                case m57311 => simp; omega
                case p57309 => omega
                case p57310 => omega
              · rename_i h57313
                simp only [hH, decide_eq_false_iff_not, Int.not_lt, Int.not_le] at h57313
                cbv
                split
                case h_2 => rename_i hh; exact absurd hh (by rw [hH]; simp; omega)
                cbv
                generalize e57315 : H Int _ = v57314
                simp only [hH, Int.zero_add, Int.add_zero, o0, Int.sub_zero] at e57315
                subst e57315
                generalize e57317 : H (List UInt8) _ = s57316
                simp only [hH, Int.zero_add, Int.add_zero, o0, Int.sub_zero] at e57317
                refine ⟨by rw [hH]; simp; omega, ?_⟩
                cbv
                generalize e57319 : H Bool _ = b57318
                simp only [hH] at e57319
                replace e57319 := boolN e57319
                generalize e57321 : H Bool _ = b57320
                simp only [hH] at e57321
                replace e57321 := boolN e57321
                generalize e57323 : H Bool _ = b57322
                simp only [hH] at e57323
                replace e57323 := boolN e57323
                refine' ⟨[], ⟨⟨rfl, rfl⟩, rfl⟩, _, _, ?x57324, ?s57325, _, hTri _ _ _ _ hb, ?k57326⟩
                case x57324 => cbv <;> rfl
                case s57325 => cbv <;> rfl
                rintro r57329 σ57330 ⟨x57327, ⟨h57328, ⟨rfl, rfl⟩⟩⟩
                cbv
                generalize e57332 : H Int _ = v57331
                simp only [hH, Int.zero_add, Int.add_zero, o0, Int.sub_zero] at e57332
                subst e57332
                generalize e57334 : H (List UInt8) _ = s57333
                simp only [hH, Int.zero_add, Int.add_zero, o0, Int.sub_zero] at e57334
                refine ⟨?q57335, ?_⟩
                case q57335 => simp_all; done
                cbv
                split
                case h_1 => rename_i hh; exact absurd hh (by simp only [hH]; (grind))
                cbv
                generalize e57337 : H Int _ = v57336
                simp only [hH, Int.zero_add, Int.add_zero, o0, Int.sub_zero] at e57337
                replace e57337 := (IntWalk.i64_in _ (by omega)).symm.trans e57337
                generalize e57339 : H Bool _ = b57338
                simp only [hH] at e57339
                replace e57339 := boolN e57339
                refine' ⟨_, ⟨?p57340, ?p57341⟩, ?m57342, ?s57343⟩
                case s57343 => cbv <;> repeat' first | exact rfl | exact trivial | exact Or.inr trivial | exact Or.inl rfl | apply And.intro | omega | (split <;> first | exact trivial | (exfalso; simp_all; done)) | (subst_vars; simp [o0]; done)
                case m57342 => simp; omega
                case p57340 => omega
                case p57341 => omega
            · rename_i h57344
              simp only [hH, decide_eq_false_iff_not, Int.not_lt, Int.not_le] at h57344
              cbv
              split
              case h_2 => rename_i hh; exact absurd hh (by rw [hH]; simp; try omega)
              cbv
              generalize e57346 : H Bool _ = b57345
              simp only [hH] at e57346
              replace e57346 := boolN e57346
              obtain rfl : b57345 = true := e57346.2 (by decide)
              generalize e57348 : H Bool _ = b57347
              simp only [hH] at e57348
              replace e57348 := boolN e57348
              refine' ⟨[], ⟨⟨rfl, rfl⟩, rfl⟩, _, _, ?x57349, ?s57350, _, hTri _ _ _ _ hl, ?k57351⟩
              case x57349 => cbv <;> rfl
              case s57350 => cbv <;> rfl
              rintro r57352 σ57353 ⟨rfl, rfl⟩
              cbv
              refine' ⟨_, [], rfl, ?c57354, ?s57355⟩
              case s57355 => cbv <;> repeat' first | exact rfl | exact trivial | exact Or.inr trivial | exact Or.inl rfl | apply And.intro | omega | (split <;> first | exact trivial | (exfalso; simp_all; done)) | (subst_vars; simp [o0]; done)
              case c57354 => rfl
        · rename_i h57356
          simp only [hH, decide_eq_false_iff_not, Int.not_lt, Int.not_le] at h57356
          cbv
          generalize e57358 : H Bool _ = b57357
          simp only [hH] at e57358
          replace e57358 := boolN e57358
          refine' ⟨[201, 202, 241], ⟨⟨rfl, rfl⟩, rfl⟩, _, _, ?x57362, ?s57363, _, hTri _ _ _ _ (crashP_nil _ _ _ _ _ _ _ _ _ _ ?a57359 ?a57360 ?a57361), ?k57364⟩
          case x57362 => cbv <;> rfl
          case s57363 => cbv <;> rfl
          case a57359 => omega
          case a57360 => assumption
          case a57361 => assumption
          rintro r57367 σ57368 ⟨x57365, ⟨x57366, ⟨rfl, rfl⟩⟩⟩
          cbv
          split
          case h_1 => rename_i hh; exact absurd hh (by rw [hH]; simp; try omega)
          cbv
          generalize e57370 : H Bool _ = b57369
          simp only [hH] at e57370
          replace e57370 := boolN e57370
          obtain rfl : b57369 = false := Bool.eq_false_iff.2 fun q => absurd (e57370.1 q) (by decide)
          refine' ⟨[201, 202, 241], ⟨⟨rfl, rfl⟩, rfl⟩, _, _, ?x57372, ?s57373, _, hTri _ _ _ _ (imageP _ _ _ _ _ _ _ _ _ _ ?a57371), ?k57374⟩
          case x57372 => cbv <;> rfl
          case s57373 => cbv <;> rfl
          case a57371 => assumption
          rintro r57377 σ57378 ⟨x57375, ⟨h57376, ⟨rfl, rfl⟩⟩⟩
          cbv
          refine' ⟨0, Int, fun (i : Int) => ⟨[(10, V.sl 362 0 n 1 false), (6, V.i IntKind.u8 c), (5, V.i IntKind.i64 q), (3, V.i IntKind.i64 n), (11, .i .i64 i), (2, V.b false)], [(201, O.st [V.sl 202 0 n 1 false, V.sl 241 0 0 2 false, V.i IntKind.i64 0, V.i IntKind.i64 w, V.i IntKind.i64 f, V.i IntKind.i64 (-1)] 91), (202, O.ar n [C.s pg] 9), (241, O.ar k [C.i IntKind.i64 x57365, C.s x57366] 93), (362, O.ar n [C.s x57375] 9), (100, O.st [V.i IntKind.i64 n, V.l L [C.i IntKind.i64 dO, C.i IntKind.i64 nn, C.i IntKind.u8 cc, C.l kn [C.i IntKind.i64 kf], C.i IntKind.i64 tt, C.i IntKind.i64 aa] false, V.i IntKind.i64 q, V.i IntKind.u8 c] 45)], 363⟩, fun (i : Int) => (0 ≤ i ∧ i ≤ n), fun (i : Int) => (n - i).toNat, ⟨0, ?p57382, ?s57380⟩, ?r57381⟩
          case s57380 => cbv <;> repeat' first | exact rfl | exact trivial | exact Or.inr trivial | exact Or.inl rfl | apply And.intro | omega | (split <;> first | exact trivial | (exfalso; simp_all; done)) | (subst_vars; simp [o0]; done)
          case p57382 => omega
          rintro i hi
          cbv
          split
          · rename_i h57383
            simp only [hH, decide_eq_true_eq] at h57383
            cbv
            split
            · rename_i h57384
              simp only [hH, decide_eq_true_eq] at h57384
              cbv
              generalize e57386 : H Int _ = v57385
              simp only [hH, Int.zero_add, Int.add_zero, o0, Int.sub_zero] at e57386
              subst e57386
              generalize e57388 : H (List UInt8) _ = s57387
              simp only [hH, Int.zero_add, Int.add_zero, o0, Int.sub_zero] at e57388
              refine ⟨by rw [hH]; simp; omega, ?_⟩
              cbv
              generalize e57390 : H Bool _ = b57389
              simp only [hH] at e57390
              replace e57390 := boolN e57390
              generalize e57392 : H Bool _ = b57391
              simp only [hH] at e57392
              replace e57392 := boolN e57392
              refine' ⟨[], ⟨⟨rfl, rfl⟩, rfl⟩, _, _, ?x57393, ?s57394, _, hTri _ _ _ _ (filled_tri _), ?k57395⟩
              case x57393 => cbv <;> rfl
              case s57394 => cbv <;> rfl
              rintro r57398 σ57399 ⟨x57396, ⟨h57397, ⟨rfl, rfl⟩⟩⟩
              cbv
              generalize e57401 : H Int _ = v57400
              simp only [hH, Int.zero_add, Int.add_zero, o0, Int.sub_zero] at e57401
              subst e57401
              generalize e57403 : H (List UInt8) _ = s57402
              simp only [hH, Int.zero_add, Int.add_zero, o0, Int.sub_zero] at e57403
              refine ⟨?q57404, ?_⟩
              case q57404 => simp_all; done
              cbv
              split
              case h_1 => rename_i hh; exact absurd hh (by simp only [hH]; (grind))
              cbv
              split
              case h_1 => rename_i hh; exact absurd hh (by rw [hH]; simp; omega)
              cbv
              generalize e57406 : H Int _ = v57405
              simp only [hH, Int.zero_add, Int.add_zero, o0, Int.sub_zero] at e57406
              replace e57406 := (IntWalk.i64_in _ (by omega)).symm.trans e57406
              generalize e57408 : H Bool _ = b57407
              simp only [hH] at e57408
              replace e57408 := boolN e57408
              generalize e57410 : H Bool _ = b57409
              simp only [hH] at e57410
              replace e57410 := boolN e57410
              refine' ⟨_, ⟨?p57411, ?p57412⟩, ?m57413, ?s57414⟩
              case s57414 => cbv <;> repeat' first | exact rfl | exact trivial | exact Or.inr trivial | exact Or.inl rfl | apply And.intro | omega | (split <;> first | exact trivial | (exfalso; simp_all; done)) | (subst_vars; simp [o0]; done)
              case m57413 => simp; omega
              case p57411 => omega
              case p57412 => omega
            · rename_i h57415
              simp only [hH, decide_eq_false_iff_not, Int.not_lt, Int.not_le] at h57415
              cbv
              split
              case h_2 => rename_i hh; exact absurd hh (by rw [hH]; simp; omega)
              cbv
              generalize e57417 : H Int _ = v57416
              simp only [hH, Int.zero_add, Int.add_zero, o0, Int.sub_zero] at e57417
              subst e57417
              generalize e57419 : H (List UInt8) _ = s57418
              simp only [hH, Int.zero_add, Int.add_zero, o0, Int.sub_zero] at e57419
              refine ⟨by rw [hH]; simp; omega, ?_⟩
              cbv
              generalize e57421 : H Bool _ = b57420
              simp only [hH] at e57421
              replace e57421 := boolN e57421
              generalize e57423 : H Bool _ = b57422
              simp only [hH] at e57423
              replace e57423 := boolN e57423
              generalize e57425 : H Bool _ = b57424
              simp only [hH] at e57425
              replace e57425 := boolN e57425
              refine' ⟨[], ⟨⟨rfl, rfl⟩, rfl⟩, _, _, ?x57426, ?s57427, _, hTri _ _ _ _ hb, ?k57428⟩
              case x57426 => cbv <;> rfl
              case s57427 => cbv <;> rfl
              rintro r57431 σ57432 ⟨x57429, ⟨h57430, ⟨rfl, rfl⟩⟩⟩
              cbv
              generalize e57434 : H Int _ = v57433
              simp only [hH, Int.zero_add, Int.add_zero, o0, Int.sub_zero] at e57434
              subst e57434
              generalize e57436 : H (List UInt8) _ = s57435
              simp only [hH, Int.zero_add, Int.add_zero, o0, Int.sub_zero] at e57436
              refine ⟨?q57437, ?_⟩
              case q57437 => simp_all; done
              cbv
              split
              case h_1 => rename_i hh; exact absurd hh (by simp only [hH]; (grind))
              cbv
              generalize e57439 : H Int _ = v57438
              simp only [hH, Int.zero_add, Int.add_zero, o0, Int.sub_zero] at e57439
              replace e57439 := (IntWalk.i64_in _ (by omega)).symm.trans e57439
              generalize e57441 : H Bool _ = b57440
              simp only [hH] at e57441
              replace e57441 := boolN e57441
              refine' ⟨_, ⟨?p57442, ?p57443⟩, ?m57444, ?s57445⟩
              case s57445 => cbv <;> repeat' first | exact rfl | exact trivial | exact Or.inr trivial | exact Or.inl rfl | apply And.intro | omega | (split <;> first | exact trivial | (exfalso; simp_all; done)) | (subst_vars; simp [o0]; done)
              case m57444 => simp; omega
              case p57442 => omega
              case p57443 => omega
          · rename_i h57446
            simp only [hH, decide_eq_false_iff_not, Int.not_lt, Int.not_le] at h57446
            cbv
            split
            case h_2 => rename_i hh; exact absurd hh (by rw [hH]; simp; try omega)
            cbv
            generalize e57448 : H Bool _ = b57447
            simp only [hH] at e57448
            replace e57448 := boolN e57448
            obtain rfl : b57447 = true := e57448.2 (by decide)
            generalize e57450 : H Bool _ = b57449
            simp only [hH] at e57450
            replace e57450 := boolN e57450
            refine' ⟨[], ⟨⟨rfl, rfl⟩, rfl⟩, _, _, ?x57451, ?s57452, _, hTri _ _ _ _ hl, ?k57453⟩
            case x57451 => cbv <;> rfl
            case s57452 => cbv <;> rfl
            rintro r57454 σ57455 ⟨rfl, rfl⟩
            cbv
            refine' ⟨_, [], rfl, ?c57456, ?s57457⟩
            case s57457 => cbv <;> repeat' first | exact rfl | exact trivial | exact Or.inr trivial | exact Or.inl rfl | apply And.intro | omega | (split <;> first | exact trivial | (exfalso; simp_all; done)) | (subst_vars; simp [o0]; done)
            case c57456 => rfl
end Go.Proofs.Ytabmdohibkkflaa.AM

namespace Go.Proofs.Ytabmdohibkkflaa.AM
open Go
set_option maxRecDepth 100000
set_option maxHeartbeats 8000000
theorem crashed_all {K : Int} {kf : Ix → Int} (pg : Ix → Str) (wn : Ix → Int) (ws : Ix → Str) (a : Int) (hk : ∀ j, 0 ≤ j → j < K → kf [j] = j) : ∀ m : Nat, (m : Int) ≤ K → crashed pg wn ws K (-1) a kf m = flushed pg wn ws m
  | 0, _ => rfl
  | m + 1, h => by
    rw [crashed, flushed, if_neg (by omega), if_pos (mem_rng.2 ⟨m, by omega, by omega, hk m (by omega) (by omega)⟩), crashed_all pg wn ws a hk m (by omega)]
section
variable {n m k r w f u q : Int} {pg pg0 : Ix → Str} {wn wn0 : Ix → Int} {ws ws0 : Ix → Str}
/-- a crash that keeps all is as a flush of the like -/
theorem crashP_all (hpg : ∀ j, 0 ≤ j → j < n → pg0 [j] = pg [j]) (hwn : ∀ j, 0 ≤ j → j < m → wn0 [j] = wn [j] ∧ ws0 [j] = ws [j]) (K : Int) (kf : Ix → Int) (fl : Bool) (hm : 0 ≤ m ∧ m ≤ 1000000000) (hK : K = m) (hk : ∀ j, 0 ≤ j → j < K → kf [j] = j) (hw : ∀ j, 0 ≤ j → j < m → 0 ≤ wn0 [j] ∧ wn0 [j] < n) (hl : ∀ j, 0 ≤ j → j < m → (ws0 [j]).length = 256) : TriS Try.prog 26 [.pt 0 0, .l K [.i .i64 kf] fl, .i .i64 (-1), .i .i64 0] (diskS 0 1 2 n m k r w f u pg wn ws)
    (fun x σ => ∃ pg' wn' ws', (∀ j, 0 ≤ j → j < n → pg' [j] = flushed pg0 wn0 ws0 m.toNat [j]) ∧ x = .i .i64 0 ∧ σ = diskS 0 1 2 n 0 k r w f (-1) pg' wn' ws') := by
  refine (crashP_ok n m k r w f u pg wn ws K (-1) 0 kf fl hm (by omega) (fun j j0 j1 => (hwn j j0 j1).1 ▸ hw j j0 j1) (fun j j0 j1 => (hwn j j0 j1).2 ▸ hl j j0 j1) ⟨by omega, fun i i0 i1 => ?_, fun i j i0 i1 i2 => ?_⟩).mono ?_
  · rw [hk i i0 i1]; omega
  · rw [hk i i0 (by omega), hk j (by omega) i2]; omega
  · rintro x σ ⟨pg', wn', ws', rfl, h1, h2⟩
    refine ⟨_, wn', ws', fun j j0 j1 => ?_, h1, h2⟩
    rw [crashed_all pg wn ws 0 hk m.toNat (by omega)]
    exact (flushed_congr hpg (fun j j0 j1 => hwn j j0 (by omega)) j j0 j1).symm
theorem writeP_okw (s : Str) (hu : -1 ≤ u ∧ u ≤ 9223372036854775807) (hq : wok n u q s) (hm : 0 ≤ m ∧ m ≤ 1000000000000) (hw : 0 ≤ w ∧ w ≤ 1000000000000) :
    TriS Try.prog 23 [.pt 0 0, .i .i64 q, .s s] (diskS 0 1 2 n m k r w f u pg wn ws) (fun x σ => ∃ u' m' w' wn' ws', u' = burnt u ∧ m' = m + 1 ∧ w' = w + 1 ∧ (∀ j, 0 ≤ j → j < m → wn' [j] = wn [j] ∧ ws' [j] = ws [j]) ∧ wn' [m] = q ∧ ws' [m] = s ∧ x = .i .i64 0 ∧ σ = diskS 0 1 100 n m' m' r w' f u' pg wn' ws') :=
  writeP_ok' n m k r w f u q pg wn ws s hu hq.1 hq.2.1 hq.2.2 hm hw
theorem writeP_badw (s : Str) (hu : -1 ≤ u ∧ u ≤ 9223372036854775807) (hq : ¬ wok n u q s) :
    TriS Try.prog 23 [.pt 0 0, .i .i64 q, .s s] (diskS 0 1 2 n m k r w f u pg wn ws) (fun x σ => x = .i .i64 1 ∧ σ = diskS 0 1 2 n m k r w f u pg wn ws) :=
  writeP_bad n m k r w f u q pg wn ws s hu hq
end
theorem snoc3 {m m' q q' : Int} {s s' : Str} {wn wn0 wn1 wn2 : Ix → Int} {ws ws0 ws1 ws2 : Ix → Str} (h : ∀ j, 0 ≤ j → j < m → wn [j] = wn0 [j] ∧ ws [j] = ws0 [j]) (h1 : ∀ j, 0 ≤ j → j < m → wn1 [j] = wn [j] ∧ ws1 [j] = ws [j]) (h2 : ∀ j, 0 ≤ j → j < m → wn2 [j] = wn0 [j] ∧ ws2 [j] = ws0 [j])
    (e1 : wn1 [m] = q) (f1 : ws1 [m] = s) (e2 : wn2 [m] = q') (f2 : ws2 [m] = s') (hq : q = q') (hs : s = s') (hm : m' = m + 1) : ∀ j, 0 ≤ j → j < m' → wn1 [j] = wn2 [j] ∧ ws1 [j] = ws2 [j] :=
  snoc2 h h1 h2 e1 f1 (e2.trans hq.symm) f2 hs hm
theorem all04 (n L : Int) (dO nn cc kn tt aa : Ix → Int) (kf : Ix → Int) (hL : 0 ≤ L) : TriS Try.prog 7 [.i .i64 n, .l L [.i .i64 dO, .i .i64 nn, .i .u8 cc, .l kn [.i .i64 kf], .i .i64 tt, .i .i64 aa] false] [] (fun r _ => r = .b true) := by
  have hl := live04
  by_cases hn : 1 ≤ n ∧ n ≤ 1000
  case neg =>
    refine tri_of TT_ok mixed (OR := ORD7) (fn := Try.f7) (c := body Try.f7) (by kernel_rfl) (by kernel_rfl) (by kernel_rfl) (by kernel_rfl) (by simp [Try.f7]) fun H Tri hH hTri => ?_
    cbv
    refine' ⟨[], ⟨⟨rfl, rfl⟩, rfl⟩, _, _, ?x38001, ?s38002, _, hTri _ _ _ _ (disk_new_bad _ ?a38000), ?k38003⟩
    case x38001 => cbv <;> rfl
    case s38002 => cbv <;> rfl
    case a38000 => assumption
    rintro r38004 σ38005 ⟨rfl, rfl⟩
    cbv
    refine' ⟨[], ⟨⟨rfl, rfl⟩, rfl⟩, _, _, ?x38007, ?s38008, _, hTri _ _ _ _ (disk_new_bad _ ?a38006), ?k38009⟩
    case x38007 => cbv <;> rfl
    case s38008 => cbv <;> rfl
    case a38006 => assumption
    rintro r38010 σ38011 ⟨rfl, rfl⟩
    cbv
    split
    case h_2 => rename_i hh; exact absurd hh (by rw [hH]; simp; try omega)
    cbv
    generalize e38013 : H Bool _ = b38012
    simp only [hH] at e38013
    replace e38013 := boolN e38013
    obtain rfl : b38012 = true := e38013.2 (by decide)
    refine' ⟨[], ⟨⟨rfl, rfl⟩, rfl⟩, _, _, ?x38014, ?s38015, _, hTri _ _ _ _ hl, ?k38016⟩
    case x38014 => cbv <;> rfl
    case s38015 => cbv <;> rfl
    rintro r38017 σ38018 ⟨rfl, rfl⟩
    cbv
    refine' ⟨_, [], rfl, ?c38019, ?s38020⟩
    case s38020 => cbv <;> repeat' first | exact rfl | exact trivial | exact Or.inr trivial | exact Or.inl rfl | apply And.intro | omega | (split <;> first | exact trivial | (exfalso; simp_all; done)) | (subst_vars; simp [o0]; done)
    case c38019 => rfl
  have hnew := newP_ok n hn
  generalize blankF = B at *
  refine tri_of TT_ok mixed (OR := ORD7) (fn := Try.f7) (c := body Try.f7) (by kernel_rfl) (by kernel_rfl) (by kernel_rfl) (by kernel_rfl) (by simp [Try.f7]) fun H Tri hH hTri => ?_
  cbv
  refine' ⟨[], ⟨⟨rfl, rfl⟩, rfl⟩, _, _, ?x42000, ?s42001, _, hTri _ _ _ _ hnew, ?k42002⟩
  case x42000 => cbv <;> rfl
  case s42001 => cbv <;> rfl
  rintro r42007 σ42008 ⟨x42003, ⟨x42004, ⟨x42005, ⟨h42006, ⟨rfl, rfl⟩⟩⟩⟩⟩
  cbv
  refine' ⟨[], ⟨⟨rfl, rfl⟩, rfl⟩, _, _, ?x42009, ?s42010, _, hTri _ _ _ _ hnew, ?k42011⟩
  case x42009 => cbv <;> rfl
  case s42010 => cbv <;> rfl
  rintro r42016 σ42017 ⟨x42012, ⟨x42013, ⟨x42014, ⟨h42015, ⟨rfl, rfl⟩⟩⟩⟩⟩
  cbv
  split
  case h_1 => rename_i hh; exact absurd hh (by rw [hH]; simp; try omega)
  cbv
  split
  case h_1 => rename_i hh; exact absurd hh (by rw [hH]; simp; try omega)
  cbv
  split
  · rename_i h42018
    simp only [hH, decide_eq_true_eq] at h42018
    cbv
    generalize e42020 : H Bool _ = b42019
    simp only [hH] at e42020
    replace e42020 := boolN e42020
    generalize e42022 : H Bool _ = b42021
    simp only [hH] at e42022
    replace e42022 := boolN e42022
    obtain rfl : b42021 = false := Bool.eq_false_iff.2 fun q => absurd (e42022.1 q) (by decide)
    refine' ⟨[], ⟨⟨rfl, rfl⟩, rfl⟩, _, _, ?x42023, ?s42024, _, hTri _ _ _ _ hl, ?k42025⟩
    case x42023 => cbv <;> rfl
    case s42024 => cbv <;> rfl
    rintro r42026 σ42027 ⟨rfl, rfl⟩
    cbv
    refine' ⟨_, [], rfl, ?c42028, ?s42029⟩
    case s42029 => cbv <;> repeat' first | exact rfl | exact trivial | exact Or.inr trivial | exact Or.inl rfl | apply And.intro | omega | (split <;> first | exact trivial | (exfalso; simp_all; done)) | (subst_vars; simp [o0]; done)
    case c42028 => rfl
  · rename_i h42030
    simp only [hH, decide_eq_false_iff_not, Int.not_lt, Int.not_le] at h42030
    cbv
    refine' ⟨0, Int × Int × Int × Int × Int × Int × (Ix → Str) × (Ix → Int) × (Ix → Str) × (Ix → Str) × (Ix → Int) × (Ix → Str) × (Ix → Int), fun ((i, m, k1, k2, w, u, pg, wn, ws, pg', wn', ws', ka) : Int × Int × Int × Int × Int × Int × (Ix → Str) × (Ix → Int) × (Ix → Str) × (Ix → Str) × (Ix → Int) × (Ix → Str) × (Ix → Int)) => ⟨[(7, V.pt 220 0), (5, V.pt 200 0), (1, V.l L [C.i IntKind.i64 dO, C.i IntKind.i64 nn, C.i IntKind.u8 cc, C.l kn [C.i IntKind.i64 kf], C.i IntKind.i64 tt, C.i IntKind.i64 aa] false), (10, .i .i64 i), (9, .sl 230 0 m 1 false), (4, V.b false)], [(220, .st [.sl 221 0 n 1 false, .sl 222 0 m 2 false, .i .i64 0, .i .i64 w, .i .i64 0, .i .i64 u] 91), (221, .ar n [.s pg'] 9), (222, .ar k2 [.i .i64 wn', .s ws'] 93), (200, .st [.sl 201 0 n 1 false, .sl 202 0 m 2 false, .i .i64 0, .i .i64 w, .i .i64 0, .i .i64 u] 91), (201, .ar n [.s pg] 9), (202, .ar k1 [.i .i64 wn, .s ws] 93), (230, .ar m [.i .i64 ka] 3)], 231⟩, fun ((i, m, k1, k2, w, u, pg, wn, ws, pg', wn', ws', ka) : Int × Int × Int × Int × Int × Int × (Ix → Str) × (Ix → Int) × (Ix → Str) × (Ix → Str) × (Ix → Int) × (Ix → Str) × (Ix → Int)) => (0 ≤ i ∧ i ≤ 50) ∧ (0 ≤ m ∧ m ≤ i) ∧ (0 ≤ w ∧ w ≤ i) ∧ (u = -1) ∧ (∀ j, 0 ≤ j → j < n → pg [j] = pg' [j]) ∧ (∀ j, 0 ≤ j → j < m → wn [j] = wn' [j] ∧ ws [j] = ws' [j]) ∧ (∀ j, 0 ≤ j → j < m → 0 ≤ wn [j] ∧ wn [j] < n) ∧ (∀ j, 0 ≤ j → j < m → (ws [j]).length = 256) ∧ (∀ j, 0 ≤ j → j < m → ka [j] = j), fun ((i, m, k1, k2, w, u, pg, wn, ws, pg', wn', ws', ka) : Int × Int × Int × Int × Int × Int × (Ix → Str) × (Ix → Int) × (Ix → Str) × (Ix → Str) × (Ix → Int) × (Ix → Str) × (Ix → Int)) => (50 - i).toNat, ⟨(0, 0, 0, 0, 0, -1, _, _, _, _, _, _, fun _ => 0), ⟨?p42034, ?p42035, ?p42036, ?p42037, ?p42038, ?p42039, ?p42040, ?p42041, ?p42042⟩, ?s42032⟩, ?r42033⟩
    case s42032 => cbv <;> repeat' first | exact rfl | exact trivial | exact Or.inr trivial | exact Or.inl rfl | apply And.intro | omega | (split <;> first | exact trivial | (exfalso; simp_all; done)) | (subst_vars; simp [o0]; done)
    case p42034 => omega
    case p42035 => omega
    case p42036 => omega
    case p42037 => rfl
    case p42038 => simp_all; done
    case p42039 => omega
    case p42040 => omega
    case p42041 => omega
    case p42042 => omega
    rintro ⟨i, m, k1, k2, w, u, pg, wn, ws, pg', wn', ws', ka⟩ ⟨hi, hm, hw, hu, hpg, hwn, hra, hle, hka⟩
    cbv
    split
    · rename_i h42043
      simp only [hH, decide_eq_true_eq] at h42043
      cbv
      split
      · rename_i h42044
        simp only [hH, decide_eq_true_eq] at h42044
        cbv
        generalize e42046 : H Int _ = v42045
        simp only [hH, Int.zero_add, Int.add_zero, o0, Int.sub_zero] at e42046
        generalize e42048 : H Int _ = v42047
        simp only [hH, Int.zero_add, Int.add_zero, o0, Int.sub_zero] at e42048
        generalize e42050 : (fun ix => cc (i :: ix)) = c42049
        generalize e42052 : (fun ix => kf (i :: ix)) = c42051
        generalize e42054 : (fun ix => tt (i :: ix)) = c42053
        generalize e42056 : (fun ix => aa (i :: ix)) = c42055
        generalize e42058 : (fun ix => dO (i :: ix)) = c42057
        generalize e42060 : (fun ix => nn (i :: ix)) = c42059
        refine ⟨by rw [hH]; simp; omega, ?_⟩
        cbv
        refine ⟨by rw [hH]; simp; omega, ?_⟩
        cbv
        generalize e42062 : H Bool _ = b42061
        simp only [hH] at e42062
        replace e42062 := boolN e42062
        generalize e42064 : H Bool _ = b42063
        simp only [hH] at e42064
        replace e42064 := boolN e42064
        refine' ⟨[], ⟨⟨rfl, rfl⟩, rfl⟩, _, _, ?x42065, ?s42066, _, hTri _ _ _ _ (filled_tri _), ?k42067⟩
        case x42065 => cbv <;> rfl
        case s42066 => cbv <;> rfl
        rintro r42070 σ42071 ⟨x42068, ⟨h42069, ⟨rfl, rfl⟩⟩⟩
        cbv
        generalize e42073 : H Int _ = v42072
        simp only [hH, Int.zero_add, Int.add_zero, o0, Int.sub_zero] at e42073
        refine ⟨?q42074, ?_⟩
        case q42074 => (subst_vars; simp [hH, o0]; omega)
        cbv
        refine' ⟨[200, 201, 202], ⟨⟨rfl, rfl⟩, rfl⟩, _, _, ?x42090, ?s42091, _, hTri _ _ _ _ (writeP _ _ _ _ _ _ _ _ _ _ _ _ ?a42087 ?a42088 ?a42089), ?k42092⟩
        case x42090 => cbv <;> rfl
        case s42091 => cbv <;> rfl
        case a42087 => omega
        case a42088 => omega
        case a42089 => omega
        rintro r42109 σ42110 (⟨v42093, ⟨v42094, ⟨v42095, ⟨x42096, ⟨x42097, ⟨h42098, ⟨⟨h42099, h42100⟩, ⟨h42101, ⟨h42102, ⟨h42103, ⟨h42104, ⟨h42105, ⟨⟨h42106, h42107⟩, ⟨rfl, rfl⟩⟩⟩⟩⟩⟩⟩⟩⟩⟩⟩⟩⟩⟩ | ⟨h42108, ⟨rfl, rfl⟩⟩)
        · cbv
          generalize e42112 : H Int _ = v42111
          simp only [hH, Int.zero_add, Int.add_zero, o0, Int.sub_zero] at e42112
          generalize e42114 : H Int _ = v42113
          simp only [hH, Int.zero_add, Int.add_zero, o0, Int.sub_zero] at e42114
          generalize e42116 : (fun ix => cc (i :: ix)) = c42115
          generalize e42118 : (fun ix => kf (i :: ix)) = c42117
          generalize e42120 : (fun ix => tt (i :: ix)) = c42119
          generalize e42122 : (fun ix => aa (i :: ix)) = c42121
          generalize e42124 : (fun ix => dO (i :: ix)) = c42123
          generalize e42126 : (fun ix => nn (i :: ix)) = c42125
          refine ⟨by rw [hH]; simp; omega, ?_⟩
          cbv
          refine ⟨by rw [hH]; simp; omega, ?_⟩
          cbv
          refine' ⟨[], ⟨⟨rfl, rfl⟩, rfl⟩, _, _, ?x42127, ?s42128, _, hTri _ _ _ _ (filled_tri _), ?k42129⟩
          case x42127 => cbv <;> rfl
          case s42128 => cbv <;> rfl
          rintro r42132 σ42133 ⟨x42130, ⟨h42131, ⟨rfl, rfl⟩⟩⟩
          cbv
          generalize e42135 : H Int _ = v42134
          simp only [hH, Int.zero_add, Int.add_zero, o0, Int.sub_zero] at e42135
          refine ⟨?q42136, ?_⟩
          case q42136 => (subst_vars; simp [hH, o0]; omega)
          cbv
          refine' ⟨[220, 221, 222], ⟨⟨rfl, rfl⟩, rfl⟩, _, _, ?x42141, ?s42142, _, hTri _ _ _ _ (writeP_okw _ ?a42137 ?a42138 ?a42139 ?a42140), ?k42143⟩
          case x42141 => cbv <;> rfl
          case s42142 => cbv <;> rfl
          case a42137 => omega
          case a42138 => simp_all; done
          case a42139 => omega
          case a42140 => omega
          rintro r42155 σ42156 ⟨v42144, ⟨v42145, ⟨v42146, ⟨x42147, ⟨x42148, ⟨h42149, ⟨h42150, ⟨h42151, ⟨h42152, ⟨h42153, ⟨h42154, ⟨rfl, rfl⟩⟩⟩⟩⟩⟩⟩⟩⟩⟩⟩⟩
          cbv
          split
          case h_1 => rename_i hh; exact absurd hh (by rw [hH]; simp; try omega)
          cbv
          split
          case h_2 => rename_i hh; exact absurd hh (by rw [hH]; simp; try omega)
          cbv
          generalize e42158 : H Int _ = v42157
          simp only [hH, Int.zero_add, Int.add_zero, o0, Int.sub_zero] at e42158
          replace e42158 := (IntWalk.i64_in _ (by omega)).symm.trans e42158
          generalize e42160 : H Int _ = v42159
          simp only [hH, Int.zero_add, Int.add_zero, o0, Int.sub_zero] at e42160
          generalize e42162 : (fun ix => bif decide (hd ix < m) then ka ix else m) = c42161
          refine ⟨by rw [hH]; simp, ?_⟩
          cbv
          refine ⟨by rw [hH]; simp; omega, ?_⟩
          cbv
          generalize e42164 : H Bool _ = b42163
          simp only [hH] at e42164
          replace e42164 := boolN e42164
          obtain rfl : b42163 = true := e42164.2 (by decide)
          generalize e42166 : H Bool _ = b42165
          simp only [hH] at e42166
          replace e42166 := boolN e42166
          obtain rfl : b42165 = false := Bool.eq_false_iff.2 fun q => absurd (e42166.1 q) (by decide)
          refine' ⟨(_, (_, (_, (_, (_, (_, (_, (_, (_, (_, (_, (_, _)))))))))))), ⟨⟨?p42167, ?p42168⟩, ⟨⟨?p42169, ?p42170⟩, ⟨⟨?p42171, ?p42172⟩, ⟨?p42173, ⟨?p42174, ⟨?p42175, ⟨?p42176, ⟨?p42177, ?p42178⟩⟩⟩⟩⟩⟩⟩⟩, ?m42179, ?s42180⟩
          case s42180 => cbv <;> repeat' first | exact rfl | exact trivial | exact Or.inr trivial | exact Or.inl rfl | apply And.intro | omega | (split <;> first | exact trivial | (exfalso; simp_all; done)) | (subst_vars; simp [o0]; done)
          case m42179 => simp; omega
          case p42167 => omega
          case p42168 => omega
          case p42169 => omega
          case p42170 => omega
          case p42171 => omega
          case p42172 => omega
          case p42173 => omega
          case p42174 => assumption
          case p42175 => (apply snoc3 hwn; assumption; assumption; assumption; assumption; assumption; assumption; exact Eq.trans (Eq.symm ‹nn [i] = _›) ‹nn [i] = _›; exact Eq.trans ‹_ = filledF _› (Eq.trans (congrArg filledF (Eq.trans (Eq.symm ‹cc [i] = _›) ‹cc [i] = _›)) (Eq.symm ‹_ = filledF _›)); omega)
          case p42176 => (apply snocR hra; assumption; assumption; assumption; assumption; omega)
          case p42177 => (apply snocL hle; assumption; assumption; assumption; omega)
          case p42178 => (intro j _ _; subst_vars; simp only [hH, AM.hd, Int.zero_add, Bool.cond_decide]; grind)
        · cbv
          generalize e42182 : H Int _ = v42181
          simp only [hH, Int.zero_add, Int.add_zero, o0, Int.sub_zero] at e42182
          generalize e42184 : H Int _ = v42183
          simp only [hH, Int.zero_add, Int.add_zero, o0, Int.sub_zero] at e42184
          generalize e42186 : (fun ix => cc (i :: ix)) = c42185
          generalize e42188 : (fun ix => kf (i :: ix)) = c42187
          generalize e42190 : (fun ix => tt (i :: ix)) = c42189
          generalize e42192 : (fun ix => aa (i :: ix)) = c42191
          generalize e42194 : (fun ix => dO (i :: ix)) = c42193
          generalize e42196 : (fun ix => nn (i :: ix)) = c42195
          refine ⟨by rw [hH]; simp; omega, ?_⟩
          cbv
          refine ⟨by rw [hH]; simp; omega, ?_⟩
          cbv
          refine' ⟨[], ⟨⟨rfl, rfl⟩, rfl⟩, _, _, ?x42197, ?s42198, _, hTri _ _ _ _ (filled_tri _), ?k42199⟩
          case x42197 => cbv <;> rfl
          case s42198 => cbv <;> rfl
          rintro r42202 σ42203 ⟨x42200, ⟨h42201, ⟨rfl, rfl⟩⟩⟩
          cbv
          generalize e42205 : H Int _ = v42204
          simp only [hH, Int.zero_add, Int.add_zero, o0, Int.sub_zero] at e42205
          refine ⟨?q42206, ?_⟩
          case q42206 => (subst_vars; simp [hH, o0]; omega)
          cbv
          refine' ⟨[220, 221, 222], ⟨⟨rfl, rfl⟩, rfl⟩, _, _, ?x42216, ?s42217, _, hTri _ _ _ _ (writeP_badw _ ?a42214 ?a42215), ?k42218⟩
          case x42216 => cbv <;> rfl
          case s42217 => cbv <;> rfl
          case a42214 => omega
          case a42215 => simp_all; done
          rintro r42219 σ42220 ⟨rfl, rfl⟩
          cbv
          split
          case h_1 => rename_i hh; exact absurd hh (by rw [hH]; simp; try omega)
          cbv
          split
          case h_1 => rename_i hh; exact absurd hh (by rw [hH]; simp; try omega)
          cbv
          generalize e42222 : H Int _ = v42221
          simp only [hH, Int.zero_add, Int.add_zero, o0, Int.sub_zero] at e42222
          replace e42222 := (IntWalk.i64_in _ (by omega)).symm.trans e42222
          generalize e42224 : H Bool _ = b42223
          simp only [hH] at e42224
          replace e42224 := boolN e42224
          obtain rfl : b42223 = false := Bool.eq_false_iff.2 fun q => absurd (e42224.1 q) (by decide)
          generalize e42226 : H Bool _ = b42225
          simp only [hH] at e42226
          replace e42226 := boolN e42226
          obtain rfl : b42225 = false := Bool.eq_false_iff.2 fun q => absurd (e42226.1 q) (by decide)
          refine' ⟨(_, (_, (_, (_, (_, (_, (_, (_, (_, (_, (_, (_, _)))))))))))), ⟨⟨?p42227, ?p42228⟩, ⟨⟨?p42229, ?p42230⟩, ⟨⟨?p42231, ?p42232⟩, ⟨?p42233, ⟨?p42234, ⟨?p42235, ⟨?p42236, ⟨?p42237, ?p42238⟩⟩⟩⟩⟩⟩⟩⟩, ?m42239, ?s42240⟩
          case s42240 => cbv <;> repeat' first | exact rfl | exact trivial | exact Or.inr trivial | exact Or.inl rfl | apply And.intro | omega | (split <;> first | exact trivial | (exfalso; simp_all; done)) | (subst_vars; simp [o0]; done)
          case m42239 => simp; omega
          case p42227 => omega
          case p42228 => omega
          case p42229 => omega
          case p42230 => omega
          case p42231 => omega
          case p42232 => omega
          case p42233 => assumption
          case p42234 => assumption
          case p42235 => assumption
          case p42236 => assumption
          case p42237 => assumption
          case p42238 => assumption
      · rename_i h42241
        simp only [hH, decide_eq_false_iff_not, Int.not_lt, Int.not_le] at h42241
        cbv
        generalize e42243 : H Bool _ = b42242
        simp only [hH] at e42243
        replace e42243 := boolN e42243
        generalize e42245 : H Bool _ = b42244
        simp only [hH] at e42245
        replace e42245 := boolN e42245
        refine' ⟨[200, 201, 202], ⟨⟨rfl, rfl⟩, rfl⟩, _, _, ?x42251, ?s42252, _, hTri _ _ _ _ (flushP_ok _ _ _ _ _ _ _ _ _ _ ?a42246 ?a42247 ?a42248 ?a42249 ?a42250), ?k42253⟩
        case x42251 => cbv <;> rfl
        case s42252 => cbv <;> rfl
        case a42246 => omega
        case a42247 => omega
        case a42248 => omega
        case a42249 => omega
        case a42250 => assumption
        rintro r42262 σ42263 ⟨v42254, ⟨v42255, ⟨x42256, ⟨x42257, ⟨x42258, ⟨h42259, ⟨h42260, ⟨h42261, ⟨rfl, rfl⟩⟩⟩⟩⟩⟩⟩⟩⟩
        cbv
        refine' ⟨[220, 221, 222], ⟨⟨rfl, rfl⟩, rfl⟩, _, _, ?x42271, ?s42272, _, hTri _ _ _ _ (crashP_all ?a42264 ?a42265 _ _ _ ?a42266 ?a42267 ?a42268 ?a42269 ?a42270), ?k42273⟩
        case x42271 => cbv <;> rfl
        case s42272 => cbv <;> rfl
        case a42264 => assumption
        case a42265 => assumption
        case a42266 => omega
        case a42267 => rfl
        case a42268 => (intro j _ _; subst_vars; simp only [hH, AM.hd, Int.zero_add, Bool.cond_decide]; grind)
        case a42269 => assumption
        case a42270 => assumption
        rintro r42278 σ42279 ⟨x42274, ⟨x42275, ⟨x42276, ⟨h42277, ⟨rfl, rfl⟩⟩⟩⟩⟩
        cbv
        split
        case h_2 => rename_i hh; exact absurd hh (by rw [hH]; simp; try omega)
        cbv
        split
        case h_2 => rename_i hh; exact absurd hh (by rw [hH]; simp; try omega)
        cbv
        generalize e42281 : H Bool _ = b42280
        simp only [hH] at e42281
        replace e42281 := boolN e42281
        obtain rfl : b42280 = true := e42281.2 (by decide)
        generalize e42283 : H Bool _ = b42282
        simp only [hH] at e42283
        replace e42283 := boolN e42283
        obtain rfl : b42282 = true := e42283.2 (by decide)
        refine' ⟨[200, 201, 202], ⟨⟨rfl, rfl⟩, rfl⟩, _, _, ?x42285, ?s42286, _, hTri _ _ _ _ (imageP _ _ _ _ _ _ _ _ _ _ ?a42284), ?k42287⟩
        case x42285 => cbv <;> rfl
        case s42286 => cbv <;> rfl
        case a42284 => assumption
        rintro r42290 σ42291 ⟨x42288, ⟨h42289, ⟨rfl, rfl⟩⟩⟩
        cbv
        refine' ⟨[220, 221, 222], ⟨⟨rfl, rfl⟩, rfl⟩, _, _, ?x42293, ?s42294, _, hTri _ _ _ _ (imageP _ _ _ _ _ _ _ _ _ _ ?a42292), ?k42295⟩
        case x42293 => cbv <;> rfl
        case s42294 => cbv <;> rfl
        case a42292 => assumption
        rintro r42298 σ42299 ⟨x42296, ⟨h42297, ⟨rfl, rfl⟩⟩⟩
        cbv
        refine' ⟨[], ⟨⟨rfl, rfl⟩, rfl⟩, _, _, ?x42303, ?s42304, _, hTri _ _ _ _ (texts_eq _ _ _ _ _ _ ?a42300 ?a42301 ?a42302), ?k42305⟩
        case x42303 => cbv <;> rfl
        case s42304 => cbv <;> rfl
        case a42300 => omega
        case a42301 => rfl
        case a42302 => (intro j _ _; subst_vars; simp only [hH, AM.hd, Int.zero_add, Bool.cond_decide]; grind)
        rintro r42306 σ42307 ⟨rfl, rfl⟩
        cbv
        refine' ⟨[], ⟨⟨rfl, rfl⟩, rfl⟩, _, _, ?x42308, ?s42309, _, hTri _ _ _ _ hl, ?k42310⟩
        case x42308 => cbv <;> rfl
        case s42309 => cbv <;> rfl
        rintro r42311 σ42312 ⟨rfl, rfl⟩
        cbv
        refine' ⟨_, [], rfl, ?c42313, ?s42314⟩
        case s42314 => cbv <;> repeat' first | exact rfl | exact trivial | exact Or.inr trivial | exact Or.inl rfl | apply And.intro | omega | (split <;> first | exact trivial | (exfalso; simp_all; done)) | (subst_vars; simp [o0]; done)
        case c42313 => rfl
    · rename_i h42315
      simp only [hH, decide_eq_false_iff_not, Int.not_lt, Int.not_le] at h42315
      cbv
      generalize e42317 : H Bool _ = b42316
      simp only [hH] at e42317
      replace e42317 := boolN e42317
      refine' ⟨[200, 201, 202], ⟨⟨rfl, rfl⟩, rfl⟩, _, _, ?x42323, ?s42324, _, hTri _ _ _ _ (flushP_ok _ _ _ _ _ _ _ _ _ _ ?a42318 ?a42319 ?a42320 ?a42321 ?a42322), ?k42325⟩
      case x42323 => cbv <;> rfl
      case s42324 => cbv <;> rfl
      case a42318 => omega
      case a42319 => omega
      case a42320 => omega
      case a42321 => omega
      case a42322 => assumption
      rintro r42334 σ42335 ⟨v42326, ⟨v42327, ⟨x42328, ⟨x42329, ⟨x42330, ⟨h42331, ⟨h42332, ⟨h42333, ⟨rfl, rfl⟩⟩⟩⟩⟩⟩⟩⟩⟩
      cbv
      refine' ⟨[220, 221, 222], ⟨⟨rfl, rfl⟩, rfl⟩, _, _, ?x42343, ?s42344, _, hTri _ _ _ _ (crashP_all ?a42336 ?a42337 _ _ _ ?a42338 ?a42339 ?a42340 ?a42341 ?a42342), ?k42345⟩
      case x42343 => cbv <;> rfl
      case s42344 => cbv <;> rfl
      case a42336 => assumption
      case a42337 => assumption
      case a42338 => omega
      case a42339 => rfl
      case a42340 => (intro j _ _; subst_vars; simp only [hH, AM.hd, Int.zero_add, Bool.cond_decide]; grind)
      case a42341 => assumption
      case a42342 => assumption
      rintro r42350 σ42351 ⟨x42346, ⟨x42347, ⟨x42348, ⟨h42349, ⟨rfl, rfl⟩⟩⟩⟩⟩
      cbv
      split
      case h_2 => rename_i hh; exact absurd hh (by rw [hH]; simp; try omega)
      cbv
      split
      case h_2 => rename_i hh; exact absurd hh (by rw [hH]; simp; try omega)
      cbv
      generalize e42353 : H Bool _ = b42352
      simp only [hH] at e42353
      replace e42353 := boolN e42353
      obtain rfl : b42352 = true := e42353.2 (by decide)
      generalize e42355 : H Bool _ = b42354
      simp only [hH] at e42355
      replace e42355 := boolN e42355
      obtain rfl : b42354 = true := e42355.2 (by decide)
      refine' ⟨[200, 201, 202], ⟨⟨rfl, rfl⟩, rfl⟩, _, _, ?x42357, ?s42358, _, hTri _ _ _ _ (imageP _ _ _ _ _ _ _ _ _ _ ?a42356), ?k42359⟩
      case x42357 => cbv <;> rfl
      case s42358 => cbv <;> rfl
      case a42356 => assumption
      rintro r42362 σ42363 ⟨x42360, ⟨h42361, ⟨rfl, rfl⟩⟩⟩
      cbv
      refine' ⟨[220, 221, 222], ⟨⟨rfl, rfl⟩, rfl⟩, _, _, ?x42365, ?s42366, _, hTri _ _ _ _ (imageP _ _ _ _ _ _ _ _ _ _ ?a42364), ?k42367⟩
      case x42365 => cbv <;> rfl
      case s42366 => cbv <;> rfl
      case a42364 => assumption
      rintro r42370 σ42371 ⟨x42368, ⟨h42369, ⟨rfl, rfl⟩⟩⟩
      cbv
      refine' ⟨[], ⟨⟨rfl, rfl⟩, rfl⟩, _, _, ?x42375, ?s42376, _, hTri _ _ _ _ (texts_eq _ _ _ _ _ _ ?a42372 ?a42373 ?a42374), ?k42377⟩
      case x42375 => cbv <;> rfl
      case s42376 => cbv <;> rfl
      case a42372 => omega
      case a42373 => rfl
      case a42374 => (intro j _ _; subst_vars; simp only [hH, AM.hd, Int.zero_add, Bool.cond_decide]; grind)
      rintro r42378 σ42379 ⟨rfl, rfl⟩
      cbv
      refine' ⟨[], ⟨⟨rfl, rfl⟩, rfl⟩, _, _, ?x42380, ?s42381, _, hTri _ _ _ _ hl, ?k42382⟩
      case x42380 => cbv <;> rfl
      case s42381 => cbv <;> rfl
      rintro r42383 σ42384 ⟨rfl, rfl⟩
      cbv
      refine' ⟨_, [], rfl, ?c42385, ?s42386⟩
      case s42386 => cbv <;> repeat' first | exact rfl | exact trivial | exact Or.inr trivial | exact Or.inl rfl | apply And.intro | omega | (split <;> first | exact trivial | (exfalso; simp_all; done)) | (subst_vars; simp [o0]; done)
      case c42385 => rfl
end Go.Proofs.Ytabmdohibkkflaa.AM

