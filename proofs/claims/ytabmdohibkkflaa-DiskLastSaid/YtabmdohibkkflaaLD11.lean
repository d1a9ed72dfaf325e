/-
  What was written last is read, whatever waits: the walk. No condition beside those that each theorem states.
-/
import Derived.Test.YtabmdohibkkflaaDN5
set_option linter.all false

namespace Go.Proofs.Ytabmdohibkkflaa.AM
open Go
set_option maxRecDepth 100000
set_option maxHeartbeats 8000000
/-- what Read gives -/
def seen (pg : Ix → Str) (wn : Ix → Int) (ws : Ix → Str) (m : Int) (j : Int) : Str := (lastW wn ws j m.toNat).getD (pg [j])
theorem seen_write {pg : Ix → Str} {wn wn1 : Ix → Int} {ws ws1 : Ix → Str} {m m' q : Int} {s : Str} (hm : 0 ≤ m) (h1 : ∀ j, 0 ≤ j → j < m → wn1 [j] = wn [j] ∧ ws1 [j] = ws [j]) (e1 : wn1 [m] = q) (f1 : ws1 [m] = s) (hm' : m' = m + 1) (j : Int) : seen pg wn1 ws1 m' j = if j = q then s else seen pg wn ws m j := by
  subst hm'
  rw [seen, show (m + 1).toNat = m.toNat + 1 by omega, lastW, Int.toNat_of_nonneg hm, e1, f1]
  by_cases h : q = j
  · rw [if_pos h, if_pos h.symm]; rfl
  · rw [if_neg h, if_neg (fun e => h e.symm), seen, lastW_congr (wn' := wn) (ws' := ws) (fun j j0 j1 => h1 j j0 (by omega))]
theorem seen_flush {pg pg1 : Ix → Str} {wn wn1 : Ix → Int} {ws ws1 : Ix → Str} {m : Int} (h : pg1 = flushed pg wn ws m.toNat) (j : Int) : seen pg1 wn1 ws1 0 j = seen pg wn ws m j := by
  rw [h, seen, seen, flushed_at]; rfl
theorem seen_put {pg la c : Ix → Str} {wn wn1 : Ix → Int} {ws ws1 : Ix → Str} {m m' q n : Int} {s s' : Str} (hla : ∀ j, 0 ≤ j → j < n → la [j] = seen pg wn ws m j) (hm : 0 ≤ m) (h1 : ∀ j, 0 ≤ j → j < m → wn1 [j] = wn [j] ∧ ws1 [j] = ws [j]) (e1 : wn1 [m] = q) (f1 : ws1 [m] = s) (hc : (fun ix => bif decide (hd ix = q) then s' else la ix) = c) (hs : s = s') (hm' : m' = m + 1) : ∀ j, 0 ≤ j → j < n → c [j] = seen pg wn1 ws1 m' j := by
  intro j j0 j1
  rw [seen_write hm h1 e1 f1 hm', ← hc]
  show (bif decide (j = q) then s' else la [j]) = _
  by_cases h : j = q
  · rw [decide_eq_true h, if_pos h, hs]; rfl
  · rw [decide_eq_false h, if_neg h, ← hla j j0 j1]; rfl
section
variable (n m k r w f u q : Int) (pg : Ix → Str) (wn : Ix → Int) (ws : Ix → Str)
theorem readP_seen (hq : 0 ≤ q ∧ q < n) (hm : 0 ≤ m ∧ m ≤ 1000000000000) (hr : 0 ≤ r ∧ r ≤ 1000000000000) :
    TriS Try.prog 30 [.pt 0 0, .i .i64 q] (diskS 0 1 2 n m k r w f u pg wn ws) (fun x σ => ∃ r' s, r' = r + 1 ∧ s = seen pg wn ws m q ∧ x = .tu [.s s, .i .i64 0] ∧ σ = diskS 0 1 2 n m k r' w f u pg wn ws) :=
  readP_ok n m k r w f u q pg wn ws hq hm hr
end
theorem last04 (n L : Int) (dO nn cc kn tt aa : Ix → Int) (kf : Ix → Int) (hL : 0 ≤ L) : TriS Try.prog 8 [.i .i64 n, .l L [.i .i64 dO, .i .i64 nn, .i .u8 cc, .l kn [.i .i64 kf], .i .i64 tt, .i .i64 aa] false] [] (fun r _ => r = .b true) := by
  have hl := live04
  have hb := blankR_tri
  by_cases hn : 1 ≤ n ∧ n ≤ 1000
  case neg =>
    refine tri_of TT_ok mixed (OR := ORD8) (fn := Try.f8) (c := body Try.f8) (by kernel_rfl) (by kernel_rfl) (by kernel_rfl) (by kernel_rfl) (by simp [Try.f8]) fun H Tri hH hTri => ?_
    cbv
    refine' ⟨[], ⟨⟨rfl, rfl⟩, rfl⟩, _, _, ?x36001, ?s36002, _, hTri _ _ _ _ (disk_new_bad _ ?a36000), ?k36003⟩
    case x36001 => cbv <;> rfl
    case s36002 => cbv <;> rfl
    case a36000 => assumption
    rintro r36004 σ36005 ⟨rfl, rfl⟩
    cbv
    split
    case h_2 => rename_i hh; exact absurd hh (by rw [hH]; simp; try omega)
    cbv
    generalize e36007 : H Bool _ = b36006
    simp only [hH] at e36007
    replace e36007 := boolN e36007
    obtain rfl : b36006 = true := e36007.2 (by decide)
    refine' ⟨[], ⟨⟨rfl, rfl⟩, rfl⟩, _, _, ?x36008, ?s36009, _, hTri _ _ _ _ hl, ?k36010⟩
    case x36008 => cbv <;> rfl
    case s36009 => cbv <;> rfl
    rintro r36011 σ36012 ⟨rfl, rfl⟩
    cbv
    refine' ⟨_, [], rfl, ?c36013, ?s36014⟩
    case s36014 => cbv <;> repeat' first | exact rfl | exact trivial | exact Or.inr trivial | exact Or.inl rfl | apply And.intro | omega | (split <;> first | exact trivial | (exfalso; simp_all; done)) | (subst_vars; simp [o0]; done)
    case c36013 => rfl
  have hnew := newP_ok n hn
  generalize blankF = B at *
  refine tri_of TT_ok mixed (OR := ORD8) (fn := Try.f8) (c := body Try.f8) (by kernel_rfl) (by kernel_rfl) (by kernel_rfl) (by kernel_rfl) (by simp [Try.f8]) fun H Tri hH hTri => ?_
  cbv
  refine' ⟨[], ⟨⟨rfl, rfl⟩, rfl⟩, _, _, ?x40000, ?s40001, _, hTri _ _ _ _ hnew, ?k40002⟩
  case x40000 => cbv <;> rfl
  case s40001 => cbv <;> rfl
  rintro r40007 σ40008 ⟨x40003, ⟨x40004, ⟨x40005, ⟨h40006, ⟨rfl, rfl⟩⟩⟩⟩⟩
  cbv
  split
  case h_1 => rename_i hh; exact absurd hh (by rw [hH]; simp; try omega)
  cbv
  split
  · rename_i h40009
    simp only [hH, decide_eq_true_eq] at h40009
    cbv
    generalize e40011 : H Bool _ = b40010
    simp only [hH] at e40011
    replace e40011 := boolN e40011
    generalize e40013 : H Bool _ = b40012
    simp only [hH] at e40013
    replace e40013 := boolN e40013
    obtain rfl : b40012 = false := Bool.eq_false_iff.2 fun q => absurd (e40013.1 q) (by decide)
    refine' ⟨[], ⟨⟨rfl, rfl⟩, rfl⟩, _, _, ?x40014, ?s40015, _, hTri _ _ _ _ hl, ?k40016⟩
    case x40014 => cbv <;> rfl
    case s40015 => cbv <;> rfl
    rintro r40017 σ40018 ⟨rfl, rfl⟩
    cbv
    refine' ⟨_, [], rfl, ?c40019, ?s40020⟩
    case s40020 => cbv <;> repeat' first | exact rfl | exact trivial | exact Or.inr trivial | exact Or.inl rfl | apply And.intro | omega | (split <;> first | exact trivial | (exfalso; simp_all; done)) | (subst_vars; simp [o0]; done)
    case c40019 => rfl
  · rename_i h40021
    simp only [hH, decide_eq_false_iff_not, Int.not_lt, Int.not_le] at h40021
    cbv
    refine' ⟨0, Int × (Ix → Str), fun ((i, la) : Int × (Ix → Str)) => ⟨[(5, V.pt 200 0), (4, V.b false), (0, V.i IntKind.i64 n), (1, V.l L [C.i IntKind.i64 dO, C.i IntKind.i64 nn, C.i IntKind.u8 cc, C.l kn [C.i IntKind.i64 kf], C.i IntKind.i64 tt, C.i IntKind.i64 aa] false), (8, .i .i64 i), (7, .sl 230 0 i 1 false)], [(200, O.st [V.sl 201 0 n 1 false, V.sl 202 0 0 2 false, V.i IntKind.i64 0, V.i IntKind.i64 0, V.i IntKind.i64 0, V.i IntKind.i64 (-1)] 91), (201, O.ar n [C.s x40003] 9), (202, O.ar 0 [C.i IntKind.i64 x40004, C.s x40005] 93), (230, .ar i [.s la] 9)], 231⟩, fun ((i, la) : Int × (Ix → Str)) => (0 ≤ i ∧ i ≤ n) ∧ (∀ j, 0 ≤ j → j < i → la [j] = B), fun ((i, la) : Int × (Ix → Str)) => (n - i).toNat, ⟨(0, fun _ => []), ⟨?p40025, ?p40026⟩, ?s40023⟩, ?r40024⟩
    case s40023 => cbv <;> repeat' first | exact rfl | exact trivial | exact Or.inr trivial | exact Or.inl rfl | apply And.intro | omega | (split <;> first | exact trivial | (exfalso; simp_all; done)) | (subst_vars; simp [o0]; done)
    case p40025 => omega
    case p40026 => omega
    rintro ⟨i, la⟩ ⟨hi, hla⟩
    cbv
    split
    · rename_i h40027
      simp only [hH, decide_eq_true_eq] at h40027
      cbv
      generalize e40029 : H Bool _ = b40028
      simp only [hH] at e40029
      replace e40029 := boolN e40029
      refine' ⟨[], ⟨⟨rfl, rfl⟩, rfl⟩, _, _, ?x40030, ?s40031, _, hTri _ _ _ _ hb, ?k40032⟩
      case x40030 => cbv <;> rfl
      case s40031 => cbv <;> rfl
      rintro r40035 σ40036 ⟨x40033, ⟨h40034, ⟨rfl, rfl⟩⟩⟩
      cbv
      generalize e40038 : H Int _ = v40037
      simp only [hH, Int.zero_add, Int.add_zero, o0, Int.sub_zero] at e40038
      replace e40038 := (IntWalk.i64_in _ (by omega)).symm.trans e40038
      generalize e40040 : H Int _ = v40039
      simp only [hH, Int.zero_add, Int.add_zero, o0, Int.sub_zero] at e40040
      generalize e40042 : (fun ix => bif decide (hd ix < i) then la ix else x40033) = c40041
      refine ⟨by rw [hH]; simp, ?_⟩
      cbv
      refine ⟨by rw [hH]; simp; omega, ?_⟩
      cbv
      refine' ⟨(_, _), ⟨⟨?p40043, ?p40044⟩, ?p40045⟩, ?m40046, ?s40047⟩
      case s40047 => cbv <;> repeat' first | exact rfl | exact trivial | exact Or.inr trivial | exact Or.inl rfl | apply And.intro | omega | (split <;> first | exact trivial | (exfalso; simp_all; done)) | (subst_vars; simp [o0]; done)
      case m40046 => simp; omega
      case p40043 => omega
      case p40044 => omega
      case p40045 => (intro j _ _; subst_vars; simp only [hH, AM.hd, Int.zero_add, Bool.cond_decide]; grind)
    · rename_i h40048
      simp only [hH, decide_eq_false_iff_not, Int.not_lt, Int.not_le] at h40048
      cbv
      refine' ⟨0, Int × Int × Int × Int × Int × Int × Int × (Ix → Str) × (Ix → Int) × (Ix → Str) × (Ix → Str), fun ((i, m, k, r, w, f, u, pg, wn, ws, la) : Int × Int × Int × Int × Int × Int × Int × (Ix → Str) × (Ix → Int) × (Ix → Str) × (Ix → Str)) => ⟨[(5, V.pt 200 0), (0, V.i IntKind.i64 n), (1, V.l L [C.i IntKind.i64 dO, C.i IntKind.i64 nn, C.i IntKind.u8 cc, C.l kn [C.i IntKind.i64 kf], C.i IntKind.i64 tt, C.i IntKind.i64 aa] false), (9, .i .i64 i), (7, .sl 230 0 n 1 false), (4, V.b false)], [(200, .st [.sl 201 0 n 1 false, .sl 202 0 m 2 false, .i .i64 r, .i .i64 w, .i .i64 f, .i .i64 u] 91), (201, .ar n [.s pg] 9), (202, .ar k [.i .i64 wn, .s ws] 93), (230, .ar n [.s la] 9)], 231⟩, fun ((i, m, k, r, w, f, u, pg, wn, ws, la) : Int × Int × Int × Int × Int × Int × Int × (Ix → Str) × (Ix → Int) × (Ix → Str) × (Ix → Str)) => (0 ≤ i ∧ i ≤ 50) ∧ (0 ≤ m ∧ m ≤ i) ∧ (0 ≤ r ∧ r ≤ 30 * i) ∧ (0 ≤ w ∧ w ≤ i) ∧ (0 ≤ f ∧ f ≤ i) ∧ (u = -1) ∧ (∀ j, 0 ≤ j → j < m → 0 ≤ wn [j] ∧ wn [j] < n) ∧ (∀ j, 0 ≤ j → j < m → (ws [j]).length = 256) ∧ (∀ j, 0 ≤ j → j < n → la [j] = seen pg wn ws m j), fun ((i, m, k, r, w, f, u, pg, wn, ws, la) : Int × Int × Int × Int × Int × Int × Int × (Ix → Str) × (Ix → Int) × (Ix → Str) × (Ix → Str)) => (50 - i).toNat, ⟨(0, 0, 0, 0, 0, 0, -1, _, _, _, _), ⟨?p40052, ?p40053, ?p40054, ?p40055, ?p40056, ?p40057, ?p40058, ?p40059, ?p40060⟩, ?s40050⟩, ?r40051⟩
      case s40050 => cbv <;> repeat' first | exact rfl | exact trivial | exact Or.inr trivial | exact Or.inl rfl | apply And.intro | omega | (split <;> first | exact trivial | (exfalso; simp_all; done)) | (subst_vars; simp [o0]; done)
      case p40052 => omega
      case p40053 => omega
      case p40054 => omega
      case p40055 => omega
      case p40056 => omega
      case p40057 => rfl
      case p40058 => omega
      case p40059 => omega
      case p40060 => (intro j j0 j1; rw [hla j j0 (by omega)]; exact ((by assumption : ∀ j, 0 ≤ j → j < n → (_ : Ix → Str) [j] = B) j j0 j1).symm)
      rintro ⟨i, m, k, r, w, f, u, pg, wn, ws, la⟩ ⟨hi, hm, hr, hw, hf, hu, hra, hle, hla⟩
      cbv
      split
      · rename_i h40061
        simp only [hH, decide_eq_true_eq] at h40061
        cbv
        split
        · rename_i h40062
          simp only [hH, decide_eq_true_eq] at h40062
          cbv
          generalize e40064 : H Int _ = v40063
          simp only [hH, Int.zero_add, Int.add_zero, o0, Int.sub_zero] at e40064
          generalize e40066 : H Int _ = v40065
          simp only [hH, Int.zero_add, Int.add_zero, o0, Int.sub_zero] at e40066
          generalize e40068 : H Int _ = v40067
          simp only [hH, Int.zero_add, Int.add_zero, o0, Int.sub_zero] at e40068
          generalize e40070 : H Int _ = v40069
          simp only [hH, Int.zero_add, Int.add_zero, o0, Int.sub_zero] at e40070
          generalize e40072 : H Int _ = v40071
          simp only [hH, Int.zero_add, Int.add_zero, o0, Int.sub_zero] at e40072
          generalize e40074 : H Int _ = v40073
          simp only [hH, Int.zero_add, Int.add_zero, o0, Int.sub_zero] at e40074
          generalize e40076 : (fun ix => kf (i :: ix)) = c40075
          generalize e40078 : (fun ix => dO (i :: ix)) = c40077
          generalize e40080 : (fun ix => nn (i :: ix)) = c40079
          generalize e40082 : (fun ix => cc (i :: ix)) = c40081
          generalize e40084 : (fun ix => tt (i :: ix)) = c40083
          generalize e40086 : (fun ix => aa (i :: ix)) = c40085
          refine ⟨by rw [hH]; simp; omega, ?_⟩
          cbv
          split
          · rename_i h40087
            simp only [hH, decide_eq_true_eq] at h40087
            cbv
            generalize e40089 : H Bool _ = b40088
            simp only [hH] at e40089
            replace e40089 := boolN e40089
            generalize e40091 : H Bool _ = b40090
            simp only [hH] at e40091
            replace e40091 := boolN e40091
            generalize e40093 : H Bool _ = b40092
            simp only [hH] at e40093
            replace e40093 := boolN e40093
            refine' ⟨[200, 201, 202], ⟨⟨rfl, rfl⟩, rfl⟩, _, _, ?x40099, ?s40100, _, hTri _ _ _ _ (flushP_ok _ _ _ _ _ _ _ _ _ _ ?a40094 ?a40095 ?a40096 ?a40097 ?a40098), ?k40101⟩
            case x40099 => cbv <;> rfl
            case s40100 => cbv <;> rfl
            case a40094 => omega
            case a40095 => omega
            case a40096 => omega
            case a40097 => omega
            case a40098 => assumption
            rintro r40110 σ40111 ⟨v40102, ⟨v40103, ⟨x40104, ⟨x40105, ⟨x40106, ⟨h40107, ⟨h40108, ⟨h40109, ⟨rfl, rfl⟩⟩⟩⟩⟩⟩⟩⟩⟩
            cbv
            refine' ⟨0, Int × Int × Int × Int × Int × Int × Int × (Ix → Str) × (Ix → Int) × (Ix → Str) × (Ix → Str), fun ((j, m, k, r, w, f, u, pg, wn, ws, la) : Int × Int × Int × Int × Int × Int × Int × (Ix → Str) × (Ix → Int) × (Ix → Str) × (Ix → Str)) => ⟨[(5, V.pt 200 0), (0, V.i IntKind.i64 n), (1, V.l L [C.i IntKind.i64 dO, C.i IntKind.i64 nn, C.i IntKind.u8 cc, C.l kn [C.i IntKind.i64 kf], C.i IntKind.i64 tt, C.i IntKind.i64 aa] false), (9, V.i IntKind.i64 i), (11, .i .i64 j), (7, .sl 230 0 n 1 false), (4, V.b false)], [(200, .st [.sl 201 0 n 1 false, .sl 202 0 m 2 false, .i .i64 r, .i .i64 w, .i .i64 f, .i .i64 u] 91), (201, .ar n [.s pg] 9), (202, .ar k [.i .i64 wn, .s ws] 93), (230, .ar n [.s la] 9)], 252⟩, fun ((j, m, k, r, w, f, u, pg, wn, ws, la) : Int × Int × Int × Int × Int × Int × Int × (Ix → Str) × (Ix → Int) × (Ix → Str) × (Ix → Str)) => (0 ≤ j ∧ j ≤ n) ∧ (0 ≤ m ∧ m ≤ i + 1) ∧ (0 ≤ r ∧ r ≤ 30 * i + j) ∧ (0 ≤ w ∧ w ≤ i + 1) ∧ (0 ≤ f ∧ f ≤ i + 1) ∧ (u = -1) ∧ (∀ j, 0 ≤ j → j < m → 0 ≤ wn [j] ∧ wn [j] < n) ∧ (∀ j, 0 ≤ j → j < m → (ws [j]).length = 256) ∧ (∀ j, 0 ≤ j → j < n → la [j] = seen pg wn ws m j), fun ((j, m, k, r, w, f, u, pg, wn, ws, la) : Int × Int × Int × Int × Int × Int × Int × (Ix → Str) × (Ix → Int) × (Ix → Str) × (Ix → Str)) => (n - j).toNat, ⟨(0, _, _, _, _, _, _, _, _, _, _), ⟨?p40115, ?p40116, ?p40117, ?p40118, ?p40119, ?p40120, ?p40121, ?p40122, ?p40123⟩, ?s40113⟩, ?r40114⟩
            case s40113 => cbv <;> repeat' first | exact rfl | exact trivial | exact Or.inr trivial | exact Or.inl rfl | apply And.intro | omega | (split <;> first | exact trivial | (exfalso; simp_all; done)) | (subst_vars; simp [o0]; done)
            case p40115 => omega
            case p40116 => omega
            case p40117 => omega
            case p40118 => omega
            case p40119 => omega
            case p40120 => omega
            case p40121 => omega
            case p40122 => omega
            case p40123 => (intro j j0 j1; rw [seen_flush ‹_ = flushed _ _ _ _›]; exact hla j j0 j1)
            rintro ⟨j, m, k, r, w, f, u, pg, wn, ws, la⟩ ⟨hj, hm, hr, hw, hf, hu, hra, hle, hla⟩
            cbv
            split
            · rename_i h40124
              simp only [hH, decide_eq_true_eq] at h40124
              cbv
              generalize e40126 : H Bool _ = b40125
              simp only [hH] at e40126
              replace e40126 := boolN e40126
              refine' ⟨[200, 201, 202], ⟨⟨rfl, rfl⟩, rfl⟩, _, _, ?x40130, ?s40131, _, hTri _ _ _ _ (readP_seen _ _ _ _ _ _ _ _ _ _ _ ?a40127 ?a40128 ?a40129), ?k40132⟩
              case x40130 => cbv <;> rfl
              case s40131 => cbv <;> rfl
              case a40127 => omega
              case a40128 => omega
              case a40129 => omega
              rintro r40137 σ40138 ⟨v40133, ⟨x40134, ⟨h40135, ⟨h40136, ⟨rfl, rfl⟩⟩⟩⟩⟩
              cbv
              generalize e40140 : H Int _ = v40139
              simp only [hH, Int.zero_add, Int.add_zero, o0, Int.sub_zero] at e40140
              subst e40140
              generalize e40142 : H (List UInt8) _ = s40141
              simp only [hH, Int.zero_add, Int.add_zero, o0, Int.sub_zero] at e40142
              refine ⟨by rw [hH]; simp; omega, ?_⟩
              cbv
              split
              case h_1 => rename_i hh; exact absurd hh (by simp only [hH]; (grind))
              cbv
              split
              case h_1 => rename_i hh; exact absurd hh (by rw [hH]; simp; try omega)
              cbv
              generalize e40144 : H Int _ = v40143
              simp only [hH, Int.zero_add, Int.add_zero, o0, Int.sub_zero] at e40144
              replace e40144 := (IntWalk.i64_in _ (by omega)).symm.trans e40144
              generalize e40146 : H Bool _ = b40145
              simp only [hH] at e40146
              replace e40146 := boolN e40146
              obtain rfl : b40145 = false := Bool.eq_false_iff.2 fun q => absurd (e40146.1 q) (by decide)
              generalize e40148 : H Bool _ = b40147
              simp only [hH] at e40148
              replace e40148 := boolN e40148
              refine' ⟨(_, (_, (_, (_, (_, (_, (_, (_, (_, (_, _)))))))))), ⟨⟨?p40149, ?p40150⟩, ⟨⟨?p40151, ?p40152⟩, ⟨⟨?p40153, ?p40154⟩, ⟨⟨?p40155, ?p40156⟩, ⟨⟨?p40157, ?p40158⟩, ⟨?p40159, ⟨?p40160, ⟨?p40161, ?p40162⟩⟩⟩⟩⟩⟩⟩⟩, ?m40163, ?s40164⟩
              case s40164 => cbv <;> repeat' first | exact rfl | exact trivial | exact Or.inr trivial | exact Or.inl rfl | apply And.intro | omega | (split <;> first | exact trivial | (exfalso; simp_all; done)) | (subst_vars; simp [o0]; done)
              case m40163 => simp; omega
              case p40149 => omega
              case p40150 => omega
              case p40151 => omega
              case p40152 => omega
              case p40153 => omega
              case p40154 => omega
              case p40155 => omega
              case p40156 => omega
              case p40157 => omega
              case p40158 => omega
              case p40159 => assumption
              case p40160 => assumption
              case p40161 => assumption
              case p40162 => assumption
            · rename_i h40165
              simp only [hH, decide_eq_false_iff_not, Int.not_lt, Int.not_le] at h40165
              cbv
              generalize e40167 : H Int _ = v40166
              simp only [hH, Int.zero_add, Int.add_zero, o0, Int.sub_zero] at e40167
              replace e40167 := (IntWalk.i64_in _ (by omega)).symm.trans e40167
              generalize e40169 : H Bool _ = b40168
              simp only [hH] at e40169
              replace e40169 := boolN e40169
              refine' ⟨(_, (_, (_, (_, (_, (_, (_, (_, (_, (_, _)))))))))), ⟨⟨?p40170, ?p40171⟩, ⟨⟨?p40172, ?p40173⟩, ⟨⟨?p40174, ?p40175⟩, ⟨⟨?p40176, ?p40177⟩, ⟨⟨?p40178, ?p40179⟩, ⟨?p40180, ⟨?p40181, ⟨?p40182, ?p40183⟩⟩⟩⟩⟩⟩⟩⟩, ?m40184, ?s40185⟩
              case s40185 => cbv <;> repeat' first | exact rfl | exact trivial | exact Or.inr trivial | exact Or.inl rfl | apply And.intro | omega | (split <;> first | exact trivial | (exfalso; simp_all; done)) | (subst_vars; simp [o0]; done)
              case m40184 => simp; omega
              case p40170 => omega
              case p40171 => omega
              case p40172 => omega
              case p40173 => omega
              case p40174 => omega
              case p40175 => omega
              case p40176 => omega
              case p40177 => omega
              case p40178 => omega
              case p40179 => omega
              case p40180 => assumption
              case p40181 => assumption
              case p40182 => assumption
              case p40183 => assumption
          · rename_i h40186
            simp only [hH, decide_eq_false_iff_not, Int.not_lt, Int.not_le] at h40186
            cbv
            generalize e40188 : H Bool _ = b40187
            simp only [hH] at e40188
            replace e40188 := boolN e40188
            generalize e40190 : H Bool _ = b40189
            simp only [hH] at e40190
            replace e40190 := boolN e40190
            generalize e40192 : H Bool _ = b40191
            simp only [hH] at e40192
            replace e40192 := boolN e40192
            refine' ⟨[], ⟨⟨rfl, rfl⟩, rfl⟩, _, _, ?x40193, ?s40194, _, hTri _ _ _ _ (filled_tri _), ?k40195⟩
            case x40193 => cbv <;> rfl
            case s40194 => cbv <;> rfl
            rintro r40198 σ40199 ⟨x40196, ⟨h40197, ⟨rfl, rfl⟩⟩⟩
            cbv
            refine' ⟨[200, 201, 202], ⟨⟨rfl, rfl⟩, rfl⟩, _, _, ?x40203, ?s40204, _, hTri _ _ _ _ (writeP _ _ _ _ _ _ _ _ _ _ _ _ ?a40200 ?a40201 ?a40202), ?k40205⟩
            case x40203 => cbv <;> rfl
            case s40204 => cbv <;> rfl
            case a40200 => omega
            case a40201 => omega
            case a40202 => omega
            rintro r40222 σ40223 (⟨v40206, ⟨v40207, ⟨v40208, ⟨x40209, ⟨x40210, ⟨h40211, ⟨⟨h40212, h40213⟩, ⟨h40214, ⟨h40215, ⟨h40216, ⟨h40217, ⟨h40218, ⟨⟨h40219, h40220⟩, ⟨rfl, rfl⟩⟩⟩⟩⟩⟩⟩⟩⟩⟩⟩⟩⟩⟩ | ⟨h40221, ⟨rfl, rfl⟩⟩)
            · cbv
              split
              case h_2 => rename_i hh; exact absurd hh (by rw [hH]; simp; try omega)
              cbv
              split
              case h_1 => rename_i hh; exact absurd hh (by rw [hH]; simp; omega)
              cbv
              split
              case h_1 => rename_i hh; exact absurd hh (by rw [hH]; simp; omega)
              cbv
              generalize e40225 : H Bool _ = b40224
              simp only [hH] at e40225
              replace e40225 := boolN e40225
              generalize e40227 : H Bool _ = b40226
              simp only [hH] at e40227
              replace e40227 := boolN e40227
              generalize e40229 : H Bool _ = b40228
              simp only [hH] at e40229
              replace e40229 := boolN e40229
              obtain rfl : b40228 = true := e40229.2 (by decide)
              refine' ⟨[], ⟨⟨rfl, rfl⟩, rfl⟩, _, _, ?x40230, ?s40231, _, hTri _ _ _ _ (filled_tri _), ?k40232⟩
              case x40230 => cbv <;> rfl
              case s40231 => cbv <;> rfl
              rintro r40235 σ40236 ⟨x40233, ⟨h40234, ⟨rfl, rfl⟩⟩⟩
              cbv
              generalize e40238 : H Int _ = v40237
              simp only [hH, Int.zero_add, Int.add_zero, o0, Int.sub_zero] at e40238
              subst e40238
              generalize e40240 : (fun ix => bif decide (hd ix = v40065) then x40233 else la ix) = c40239
              refine ⟨by rw [hH]; simp; omega, ?_⟩
              cbv
              refine' ⟨0, Int × Int × Int × Int × Int × Int × Int × (Ix → Str) × (Ix → Int) × (Ix → Str) × (Ix → Str), fun ((j, m, k, r, w, f, u, pg, wn, ws, la) : Int × Int × Int × Int × Int × Int × Int × (Ix → Str) × (Ix → Int) × (Ix → Str) × (Ix → Str)) => ⟨[(5, V.pt 200 0), (0, V.i IntKind.i64 n), (1, V.l L [C.i IntKind.i64 dO, C.i IntKind.i64 nn, C.i IntKind.u8 cc, C.l kn [C.i IntKind.i64 kf], C.i IntKind.i64 tt, C.i IntKind.i64 aa] false), (9, V.i IntKind.i64 i), (11, .i .i64 j), (7, .sl 230 0 n 1 false), (4, V.b false)], [(200, .st [.sl 201 0 n 1 false, .sl 202 0 m 2 false, .i .i64 r, .i .i64 w, .i .i64 f, .i .i64 u] 91), (201, .ar n [.s pg] 9), (202, .ar k [.i .i64 wn, .s ws] 93), (230, .ar n [.s la] 9)], 292⟩, fun ((j, m, k, r, w, f, u, pg, wn, ws, la) : Int × Int × Int × Int × Int × Int × Int × (Ix → Str) × (Ix → Int) × (Ix → Str) × (Ix → Str)) => (0 ≤ j ∧ j ≤ n) ∧ (0 ≤ m ∧ m ≤ i + 1) ∧ (0 ≤ r ∧ r ≤ 30 * i + j) ∧ (0 ≤ w ∧ w ≤ i + 1) ∧ (0 ≤ f ∧ f ≤ i + 1) ∧ (u = -1) ∧ (∀ j, 0 ≤ j → j < m → 0 ≤ wn [j] ∧ wn [j] < n) ∧ (∀ j, 0 ≤ j → j < m → (ws [j]).length = 256) ∧ (∀ j, 0 ≤ j → j < n → la [j] = seen pg wn ws m j), fun ((j, m, k, r, w, f, u, pg, wn, ws, la) : Int × Int × Int × Int × Int × Int × Int × (Ix → Str) × (Ix → Int) × (Ix → Str) × (Ix → Str)) => (n - j).toNat, ⟨(0, _, _, _, _, _, _, _, _, _, _), ⟨?p40244, ?p40245, ?p40246, ?p40247, ?p40248, ?p40249, ?p40250, ?p40251, ?p40252⟩, ?s40242⟩, ?r40243⟩
              case s40242 => cbv <;> repeat' first | exact rfl | exact trivial | exact Or.inr trivial | exact Or.inl rfl | apply And.intro | omega | (split <;> first | exact trivial | (exfalso; simp_all; done)) | (subst_vars; simp [o0]; done)
              case p40244 => omega
              case p40245 => omega
              case p40246 => omega
              case p40247 => omega
              case p40248 => omega
              case p40249 => omega
              case p40250 => (apply snocR hra; assumption; assumption; assumption; assumption; omega)
              case p40251 => grind
              case p40252 => (apply seen_put hla hm.1; assumption; assumption; assumption; assumption; exact Eq.trans ‹_ = filledF _› (Eq.symm ‹_ = filledF _›); omega)
              rintro ⟨j, m, k, r, w, f, u, pg, wn, ws, la⟩ ⟨hj, hm, hr, hw, hf, hu, hra, hle, hla⟩
              cbv
              split
              · rename_i h40253
                simp only [hH, decide_eq_true_eq] at h40253
                cbv
                generalize e40255 : H Bool _ = b40254
                simp only [hH] at e40255
                replace e40255 := boolN e40255
                refine' ⟨[200, 201, 202], ⟨⟨rfl, rfl⟩, rfl⟩, _, _, ?x40259, ?s40260, _, hTri _ _ _ _ (readP_seen _ _ _ _ _ _ _ _ _ _ _ ?a40256 ?a40257 ?a40258), ?k40261⟩
                case x40259 => cbv <;> rfl
                case s40260 => cbv <;> rfl
                case a40256 => omega
                case a40257 => omega
                case a40258 => omega
                rintro r40266 σ40267 ⟨v40262, ⟨x40263, ⟨h40264, ⟨h40265, ⟨rfl, rfl⟩⟩⟩⟩⟩
                cbv
                generalize e40269 : H Int _ = v40268
                simp only [hH, Int.zero_add, Int.add_zero, o0, Int.sub_zero] at e40269
                subst e40269
                generalize e40271 : H (List UInt8) _ = s40270
                simp only [hH, Int.zero_add, Int.add_zero, o0, Int.sub_zero] at e40271
                refine ⟨by rw [hH]; simp; omega, ?_⟩
                cbv
                split
                case h_1 => rename_i hh; exact absurd hh (by simp only [hH]; (grind))
                cbv
                split
                case h_1 => rename_i hh; exact absurd hh (by rw [hH]; simp; try omega)
                cbv
                generalize e40273 : H Int _ = v40272
                simp only [hH, Int.zero_add, Int.add_zero, o0, Int.sub_zero] at e40273
                replace e40273 := (IntWalk.i64_in _ (by omega)).symm.trans e40273
                generalize e40275 : H Bool _ = b40274
                simp only [hH] at e40275
                replace e40275 := boolN e40275
                obtain rfl : b40274 = false := Bool.eq_false_iff.2 fun q => absurd (e40275.1 q) (by decide)
                generalize e40277 : H Bool _ = b40276
                simp only [hH] at e40277
                replace e40277 := boolN e40277
                refine' ⟨(_, (_, (_, (_, (_, (_, (_, (_, (_, (_, _)))))))))), ⟨⟨?p40278, ?p40279⟩, ⟨⟨?p40280, ?p40281⟩, ⟨⟨?p40282, ?p40283⟩, ⟨⟨?p40284, ?p40285⟩, ⟨⟨?p40286, ?p40287⟩, ⟨?p40288, ⟨?p40289, ⟨?p40290, ?p40291⟩⟩⟩⟩⟩⟩⟩⟩, ?m40292, ?s40293⟩
                case s40293 => cbv <;> repeat' first | exact rfl | exact trivial | exact Or.inr trivial | exact Or.inl rfl | apply And.intro | omega | (split <;> first | exact trivial | (exfalso; simp_all; done)) | (subst_vars; simp [o0]; done)
                case m40292 => simp; omega
                case p40278 => omega
                case p40279 => omega
                case p40280 => omega
                case p40281 => omega
                case p40282 => omega
                case p40283 => omega
                case p40284 => omega
                case p40285 => omega
                case p40286 => omega
                case p40287 => omega
                case p40288 => assumption
                case p40289 => assumption
                case p40290 => assumption
                case p40291 => assumption
              · rename_i h40294
                simp only [hH, decide_eq_false_iff_not, Int.not_lt, Int.not_le] at h40294
                cbv
                generalize e40296 : H Int _ = v40295
                simp only [hH, Int.zero_add, Int.add_zero, o0, Int.sub_zero] at e40296
                replace e40296 := (IntWalk.i64_in _ (by omega)).symm.trans e40296
                generalize e40298 : H Bool _ = b40297
                simp only [hH] at e40298
                replace e40298 := boolN e40298
                refine' ⟨(_, (_, (_, (_, (_, (_, (_, (_, (_, (_, _)))))))))), ⟨⟨?p40299, ?p40300⟩, ⟨⟨?p40301, ?p40302⟩, ⟨⟨?p40303, ?p40304⟩, ⟨⟨?p40305, ?p40306⟩, ⟨⟨?p40307, ?p40308⟩, ⟨?p40309, ⟨?p40310, ⟨?p40311, ?p40312⟩⟩⟩⟩⟩⟩⟩⟩, ?m40313, ?s40314⟩
                case s40314 => cbv <;> repeat' first | exact rfl | exact trivial | exact Or.inr trivial | exact Or.inl rfl | apply And.intro | omega | (split <;> first | exact trivial | (exfalso; simp_all; done)) | (subst_vars; simp [o0]; done)
                case m40313 => simp; omega
                case p40299 => omega
                case p40300 => omega
                case p40301 => omega
                case p40302 => omega
                case p40303 => omega
                case p40304 => omega
                case p40305 => omega
                case p40306 => omega
                case p40307 => omega
                case p40308 => omega
                case p40309 => assumption
                case p40310 => assumption
                case p40311 => assumption
                case p40312 => assumption
            · cbv
              split
              case h_1 => rename_i hh; exact absurd hh (by rw [hH]; simp; try omega)
              cbv
              refine' ⟨0, Int × Int × Int × Int × Int × Int × Int × (Ix → Str) × (Ix → Int) × (Ix → Str) × (Ix → Str), fun ((j, m, k, r, w, f, u, pg, wn, ws, la) : Int × Int × Int × Int × Int × Int × Int × (Ix → Str) × (Ix → Int) × (Ix → Str) × (Ix → Str)) => ⟨[(5, V.pt 200 0), (0, V.i IntKind.i64 n), (1, V.l L [C.i IntKind.i64 dO, C.i IntKind.i64 nn, C.i IntKind.u8 cc, C.l kn [C.i IntKind.i64 kf], C.i IntKind.i64 tt, C.i IntKind.i64 aa] false), (9, V.i IntKind.i64 i), (11, .i .i64 j), (7, .sl 230 0 n 1 false), (4, V.b false)], [(200, .st [.sl 201 0 n 1 false, .sl 202 0 m 2 false, .i .i64 r, .i .i64 w, .i .i64 f, .i .i64 u] 91), (201, .ar n [.s pg] 9), (202, .ar k [.i .i64 wn, .s ws] 93), (230, .ar n [.s la] 9)], 272⟩, fun ((j, m, k, r, w, f, u, pg, wn, ws, la) : Int × Int × Int × Int × Int × Int × Int × (Ix → Str) × (Ix → Int) × (Ix → Str) × (Ix → Str)) => (0 ≤ j ∧ j ≤ n) ∧ (0 ≤ m ∧ m ≤ i + 1) ∧ (0 ≤ r ∧ r ≤ 30 * i + j) ∧ (0 ≤ w ∧ w ≤ i + 1) ∧ (0 ≤ f ∧ f ≤ i + 1) ∧ (u = -1) ∧ (∀ j, 0 ≤ j → j < m → 0 ≤ wn [j] ∧ wn [j] < n) ∧ (∀ j, 0 ≤ j → j < m → (ws [j]).length = 256) ∧ (∀ j, 0 ≤ j → j < n → la [j] = seen pg wn ws m j), fun ((j, m, k, r, w, f, u, pg, wn, ws, la) : Int × Int × Int × Int × Int × Int × Int × (Ix → Str) × (Ix → Int) × (Ix → Str) × (Ix → Str)) => (n - j).toNat, ⟨(0, _, _, _, _, _, _, _, _, _, _), ⟨?p40318, ?p40319, ?p40320, ?p40321, ?p40322, ?p40323, ?p40324, ?p40325, ?p40326⟩, ?s40316⟩, ?r40317⟩
              case s40316 => cbv <;> repeat' first | exact rfl | exact trivial | exact Or.inr trivial | exact Or.inl rfl | apply And.intro | omega | (split <;> first | exact trivial | (exfalso; simp_all; done)) | (subst_vars; simp [o0]; done)
              case p40318 => omega
              case p40319 => omega
              case p40320 => omega
              case p40321 => omega
              case p40322 => omega
              case p40323 => assumption
              case p40324 => assumption
              case p40325 => assumption
              case p40326 => assumption
              rintro ⟨j, m, k, r, w, f, u, pg, wn, ws, la⟩ ⟨hj, hm, hr, hw, hf, hu, hra, hle, hla⟩
              cbv
              split
              · rename_i h40327
                simp only [hH, decide_eq_true_eq] at h40327
                cbv
                generalize e40329 : H Bool _ = b40328
                simp only [hH] at e40329
                replace e40329 := boolN e40329
                refine' ⟨[200, 201, 202], ⟨⟨rfl, rfl⟩, rfl⟩, _, _, ?x40333, ?s40334, _, hTri _ _ _ _ (readP_seen _ _ _ _ _ _ _ _ _ _ _ ?a40330 ?a40331 ?a40332), ?k40335⟩
                case x40333 => cbv <;> rfl
                case s40334 => cbv <;> rfl
                case a40330 => omega
                case a40331 => omega
                case a40332 => omega
                rintro r40340 σ40341 ⟨v40336, ⟨x40337, ⟨h40338, ⟨h40339, ⟨rfl, rfl⟩⟩⟩⟩⟩
                cbv
                generalize e40343 : H Int _ = v40342
                simp only [hH, Int.zero_add, Int.add_zero, o0, Int.sub_zero] at e40343
                subst e40343
                generalize e40345 : H (List UInt8) _ = s40344
                simp only [hH, Int.zero_add, Int.add_zero, o0, Int.sub_zero] at e40345
                refine ⟨by rw [hH]; simp; omega, ?_⟩
                cbv
                split
                case h_1 => rename_i hh; exact absurd hh (by simp only [hH]; (grind))
                cbv
                split
                case h_1 => rename_i hh; exact absurd hh (by rw [hH]; simp; try omega)
                cbv
                generalize e40347 : H Int _ = v40346
                simp only [hH, Int.zero_add, Int.add_zero, o0, Int.sub_zero] at e40347
                replace e40347 := (IntWalk.i64_in _ (by omega)).symm.trans e40347
                generalize e40349 : H Bool _ = b40348
                simp only [hH] at e40349
                replace e40349 := boolN e40349
                obtain rfl : b40348 = false := Bool.eq_false_iff.2 fun q => absurd (e40349.1 q) (by decide)
                generalize e40351 : H Bool _ = b40350
                simp only [hH] at e40351
                replace e40351 := boolN e40351
                refine' ⟨(_, (_, (_, (_, (_, (_, (_, (_, (_, (_, _)))))))))), ⟨⟨?p40352, ?p40353⟩, ⟨⟨?p40354, ?p40355⟩, ⟨⟨?p40356, ?p40357⟩, ⟨⟨?p40358, ?p40359⟩, ⟨⟨?p40360, ?p40361⟩, ⟨?p40362, ⟨?p40363, ⟨?p40364, ?p40365⟩⟩⟩⟩⟩⟩⟩⟩, ?m40366, ?s40367⟩
                case s40367 => cbv <;> repeat' first | exact rfl | exact trivial | exact Or.inr trivial | exact Or.inl rfl | apply And.intro | omega | (split <;> first | exact trivial | (exfalso; simp_all; done)) | (subst_vars; simp [o0]; done)
                case m40366 => simp; omega
                case p40352 => omega
                case p40353 => omega
                case p40354 => omega
                case p40355 => omega
                case p40356 => omega
                case p40357 => omega
                case p40358 => omega
                case p40359 => omega
                case p40360 => omega
                case p40361 => omega
                case p40362 => assumption
                case p40363 => assumption
                case p40364 => assumption
                case p40365 => assumption
              · rename_i h40368
                simp only [hH, decide_eq_false_iff_not, Int.not_lt, Int.not_le] at h40368
                cbv
                generalize e40370 : H Int _ = v40369
                simp only [hH, Int.zero_add, Int.add_zero, o0, Int.sub_zero] at e40370
                replace e40370 := (IntWalk.i64_in _ (by omega)).symm.trans e40370
                generalize e40372 : H Bool _ = b40371
                simp only [hH] at e40372
                replace e40372 := boolN e40372
                refine' ⟨(_, (_, (_, (_, (_, (_, (_, (_, (_, (_, _)))))))))), ⟨⟨?p40373, ?p40374⟩, ⟨⟨?p40375, ?p40376⟩, ⟨⟨?p40377, ?p40378⟩, ⟨⟨?p40379, ?p40380⟩, ⟨⟨?p40381, ?p40382⟩, ⟨?p40383, ⟨?p40384, ⟨?p40385, ?p40386⟩⟩⟩⟩⟩⟩⟩⟩, ?m40387, ?s40388⟩
                case s40388 => cbv <;> repeat' first | exact rfl | exact trivial | exact Or.inr trivial | exact Or.inl rfl | apply And.intro | omega | (split <;> first | exact trivial | (exfalso; simp_all; done)) | (subst_vars; simp [o0]; done)
                case m40387 => simp; omega
                case p40373 => omega
                case p40374 => omega
                case p40375 => omega
                case p40376 => omega
                case p40377 => omega
                case p40378 => omega
                case p40379 => omega
                case p40380 => omega
                case p40381 => omega
                case p40382 => omega
                case p40383 => assumption
                case p40384 => assumption
                case p40385 => assumption
                case p40386 => assumption
        · rename_i h40389
          simp only [hH, decide_eq_false_iff_not, Int.not_lt, Int.not_le] at h40389
          cbv
          generalize e40391 : H Bool _ = b40390
          simp only [hH] at e40391
          replace e40391 := boolN e40391
          generalize e40393 : H Bool _ = b40392
          simp only [hH] at e40393
          replace e40393 := boolN e40393
          refine' ⟨[200, 201, 202], ⟨⟨rfl, rfl⟩, rfl⟩, _, _, ?x40399, ?s40400, _, hTri _ _ _ _ (flushP_ok _ _ _ _ _ _ _ _ _ _ ?a40394 ?a40395 ?a40396 ?a40397 ?a40398), ?k40401⟩
          case x40399 => cbv <;> rfl
          case s40400 => cbv <;> rfl
          case a40394 => omega
          case a40395 => omega
          case a40396 => omega
          case a40397 => omega
          case a40398 => assumption
          rintro r40410 σ40411 ⟨v40402, ⟨v40403, ⟨x40404, ⟨x40405, ⟨x40406, ⟨h40407, ⟨h40408, ⟨h40409, ⟨rfl, rfl⟩⟩⟩⟩⟩⟩⟩⟩⟩
          cbv
          refine' ⟨[200, 201, 202], ⟨⟨rfl, rfl⟩, rfl⟩, _, _, ?x40415, ?s40416, _, hTri _ _ _ _ (crashP_nil _ _ _ _ _ _ _ _ _ _ ?a40412 ?a40413 ?a40414), ?k40417⟩
          case x40415 => cbv <;> rfl
          case s40416 => cbv <;> rfl
          case a40412 => omega
          case a40413 => omega
          case a40414 => omega
          rintro r40420 σ40421 ⟨x40418, ⟨x40419, ⟨rfl, rfl⟩⟩⟩
          cbv
          refine' ⟨[200, 201, 202], ⟨⟨rfl, rfl⟩, rfl⟩, _, _, ?x40423, ?s40424, _, hTri _ _ _ _ (imageP _ _ _ _ _ _ _ _ _ _ ?a40422), ?k40425⟩
          case x40423 => cbv <;> rfl
          case s40424 => cbv <;> rfl
          case a40422 => assumption
          rintro r40428 σ40429 ⟨x40426, ⟨h40427, ⟨rfl, rfl⟩⟩⟩
          cbv
          refine' ⟨[], ⟨⟨rfl, rfl⟩, rfl⟩, _, _, ?x40433, ?s40434, _, hTri _ _ _ _ (texts_eq _ _ _ _ _ _ ?a40430 ?a40431 ?a40432), ?k40435⟩
          case x40433 => cbv <;> rfl
          case s40434 => cbv <;> rfl
          case a40430 => omega
          case a40431 => rfl
          case a40432 => (intro j j0 j1; simp only [AM.hd, Int.add_zero, List.tail_cons]; exact (‹∀ j : Int, 0 ≤ j → j < n → (_ : Ix → Str) [j] = (_ : Ix → Str) [j]› j j0 j1).trans ((congrFun ‹_ = flushed _ _ _ _› [j]).trans ((flushed_at j _).trans (hla j j0 j1).symm)))
          rintro r40436 σ40437 ⟨rfl, rfl⟩
          cbv
          refine' ⟨[], ⟨⟨rfl, rfl⟩, rfl⟩, _, _, ?x40438, ?s40439, _, hTri _ _ _ _ hl, ?k40440⟩
          case x40438 => cbv <;> rfl
          case s40439 => cbv <;> rfl
          rintro r40441 σ40442 ⟨rfl, rfl⟩
          cbv
          refine' ⟨_, [], rfl, ?c40443, ?s40444⟩
          case s40444 => cbv <;> repeat' first | exact rfl | exact trivial | exact Or.inr trivial | exact Or.inl rfl | apply And.intro | omega | (split <;> first | exact trivial | (exfalso; simp_all; done)) | (subst_vars; simp [o0]; done)
          case c40443 => rfl
      · rename_i h40445
        simp only [hH, decide_eq_false_iff_not, Int.not_lt, Int.not_le] at h40445
        cbv
        generalize e40447 : H Bool _ = b40446
        simp only [hH] at e40447
        replace e40447 := boolN e40447
        refine' ⟨[200, 201, 202], ⟨⟨rfl, rfl⟩, rfl⟩, _, _, ?x40453, ?s40454, _, hTri _ _ _ _ (flushP_ok _ _ _ _ _ _ _ _ _ _ ?a40448 ?a40449 ?a40450 ?a40451 ?a40452), ?k40455⟩
        case x40453 => cbv <;> rfl
        case s40454 => cbv <;> rfl
        case a40448 => omega
        case a40449 => omega
        case a40450 => omega
        case a40451 => omega
        case a40452 => assumption
        rintro r40464 σ40465 ⟨v40456, ⟨v40457, ⟨x40458, ⟨x40459, ⟨x40460, ⟨h40461, ⟨h40462, ⟨h40463, ⟨rfl, rfl⟩⟩⟩⟩⟩⟩⟩⟩⟩
        cbv
        refine' ⟨[200, 201, 202], ⟨⟨rfl, rfl⟩, rfl⟩, _, _, ?x40469, ?s40470, _, hTri _ _ _ _ (crashP_nil _ _ _ _ _ _ _ _ _ _ ?a40466 ?a40467 ?a40468), ?k40471⟩
        case x40469 => cbv <;> rfl
        case s40470 => cbv <;> rfl
        case a40466 => omega
        case a40467 => omega
        case a40468 => omega
        rintro r40474 σ40475 ⟨x40472, ⟨x40473, ⟨rfl, rfl⟩⟩⟩
        cbv
        refine' ⟨[200, 201, 202], ⟨⟨rfl, rfl⟩, rfl⟩, _, _, ?x40477, ?s40478, _, hTri _ _ _ _ (imageP _ _ _ _ _ _ _ _ _ _ ?a40476), ?k40479⟩
        case x40477 => cbv <;> rfl
        case s40478 => cbv <;> rfl
        case a40476 => assumption
        rintro r40482 σ40483 ⟨x40480, ⟨h40481, ⟨rfl, rfl⟩⟩⟩
        cbv
        refine' ⟨[], ⟨⟨rfl, rfl⟩, rfl⟩, _, _, ?x40487, ?s40488, _, hTri _ _ _ _ (texts_eq _ _ _ _ _ _ ?a40484 ?a40485 ?a40486), ?k40489⟩
        case x40487 => cbv <;> rfl
        case s40488 => cbv <;> rfl
        case a40484 => omega
        case a40485 => rfl
        case a40486 => (intro j j0 j1; simp only [AM.hd, Int.add_zero, List.tail_cons]; exact (‹∀ j : Int, 0 ≤ j → j < n → (_ : Ix → Str) [j] = (_ : Ix → Str) [j]› j j0 j1).trans ((congrFun ‹_ = flushed _ _ _ _› [j]).trans ((flushed_at j _).trans (hla j j0 j1).symm)))
        rintro r40490 σ40491 ⟨rfl, rfl⟩
        cbv
        refine' ⟨[], ⟨⟨rfl, rfl⟩, rfl⟩, _, _, ?x40492, ?s40493, _, hTri _ _ _ _ hl, ?k40494⟩
        case x40492 => cbv <;> rfl
        case s40493 => cbv <;> rfl
        rintro r40495 σ40496 ⟨rfl, rfl⟩
        cbv
        refine' ⟨_, [], rfl, ?c40497, ?s40498⟩
        case s40498 => cbv <;> repeat' first | exact rfl | exact trivial | exact Or.inr trivial | exact Or.inl rfl | apply And.intro | omega | (split <;> first | exact trivial | (exfalso; simp_all; done)) | (subst_vars; simp [o0]; done)
        case c40497 => rfl
end Go.Proofs.Ytabmdohibkkflaa.AM

