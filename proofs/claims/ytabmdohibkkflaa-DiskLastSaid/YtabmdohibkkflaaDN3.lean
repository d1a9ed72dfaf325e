/-
  What functions of the program compute. No condition beside those that each theorem states.
-/
import Derived.Test.YtabmdohibkkflaaDN2
import Derived.Test.YtabmdohibkkflaaDN1
import Derived.Test.YtabmdohibkkflaaPA4
import Derived.Sort.OwnSortedInts
set_option linter.all false

namespace Go.Proofs.Ytabmdohibkkflaa.AM
open Go
set_option maxRecDepth 100000
set_option maxHeartbeats 4000000
section
variable {n L base size tx m : Int} {f : Int → Str} {D : DK} {pk pn : Ix → Int} {pb : Ix → Str}
/-- behind a commit, a journal of another transaction scans nothing -/
theorem scanA_after (tx2 : Int) (hD : DA n L (comF base tx m pk pn pb f) D) (hj : jplace n base size tx) (hj2 : jplace n base size tx2) (hL : L ≤ 10000000) (L' : Int) (hL' : L' = L + 1) (hm : 0 < m ∧ m ≤ size - 1 ∧ ∀ j : Int, 0 ≤ j → j < m → okP (pk [j]) (pn [j]) (pb [j])) (hne : tx ≠ tx2) :
    TriS Try.prog 17 [.pt 0 0] (jouS 0 1 2 3 base size tx2 D) (fun r σ => ∃ D', DA n L' (comF base tx m pk pn pb f) D' ∧ r = .tu [.l 0 [] true, .b false] ∧ σ = jouS 0 1 2 3 base size tx2 D') := by
  obtain ⟨h1, h2, h3⟩ := hm
  have hok := h3 0 (by omega) h1
  have hj' := hj.2.2
  exact scanA_other hD hj2 hL L' hL' (by rw [stage_len]; have := hok.2.2.1; omega) (comA_first (comA_comF (by omega)) h1) (decode_stage tx 0 _ _ _ (by omega) (by omega) hok) hne
/-- behind a commit its pages are scanned -/
theorem scanA_back (hD : DA n L (comF base tx m pk pn pb f) D) (hj : jplace n base size tx) (hL : L ≤ 10000000) (L' : Int) (hL' : L' = L + 2000) (hm : 0 < m ∧ m ≤ size - 1 ∧ ∀ j : Int, 0 ≤ j → j < m → okP (pk [j]) (pn [j]) (pb [j])) :
    TriS Try.prog 17 [.pt 0 0] (jouS 0 1 2 3 base size tx D) (fun r σ => ∃ D' pk' pn' pb', DA n L' (comF base tx m pk pn pb f) D' ∧ (∀ j : Int, 0 ≤ j → j < m → pk' [j] = pk [j] ∧ pn' [j] = pn [j] ∧ pb' [j] = pb [j]) ∧ r = .tu [.sl 101 0 m 3 false, .b true] ∧ σ = jouS 0 1 2 3 base size tx D' ++ [(101, .ar m [.i .i64 pk', .i .i64 pn', .s pb'] 75)]) :=
  scanA_some hD hj hL L' hL' ⟨hm.1, hm.2.1⟩ hm.2.2 (comA_comF (by omega))
theorem commitA' (full : Bool) (hD : DA n L f D) (hj : jplace n base size tx) (hL : L ≤ 10000000) (L' : Int) (hL' : L' = L + 2000) (hm : 0 < m ∧ m ≤ size - 1 ∧ ∀ j : Int, 0 ≤ j → j < m → okP (pk [j]) (pn [j]) (pb [j])) :
    TriS Try.prog 15 [.pt 0 0, .l m [.i .i64 pk, .i .i64 pn, .s pb] full] (jouS 0 1 2 3 base size tx D) (fun r σ => ∃ D', DA n L' (comF base tx m pk pn pb f) D' ∧ r = .i .i64 0 ∧ σ = jouS 0 1 2 100 base size tx D') :=
  commitA pk pn pb full hD hj hL L' hL' ⟨hm.1, hm.2.1⟩ hm.2.2 _ rfl
theorem commitA_bad (full : Bool) (hD : DA n L f D) (hj : jplace n base size tx) (hm0 : 0 ≤ m ∧ m ≤ 1000000000) (hm : ¬ (0 < m ∧ m ≤ size - 1 ∧ ∀ j : Int, 0 ≤ j → j < m → okP (pk [j]) (pn [j]) (pb [j]))) :
    TriS Try.prog 15 [.pt 0 0, .l m [.i .i64 pk, .i .i64 pn, .s pb] full] (jouS 0 1 2 3 base size tx D) (fun r σ => ∃ e : Int, e ≠ 0 ∧ r = .i .i64 e ∧ σ = jouS 0 1 2 3 base size tx D) := by
  have _ := hD
  refine (commit_bad m pk pn pb full hm0 D hj.1 ?_).mono ?_
  · by_cases h1 : 0 < m
    · by_cases h2 : m ≤ size - 1
      · exact .inr (.inr fun h3 => hm ⟨h1, h2, h3⟩)
      · exact .inr (.inl (by omega))
    · exact .inl (by omega)
  · rintro r σ ⟨e, h, rfl, rfl⟩
    exact ⟨e, h.1, rfl, rfl⟩
theorem abortA' (hD : DA n L f D) (hj : jplace n base size tx) (hL : L ≤ 10000000) (L' : Int) (hL' : L' = L + 2) :
    TriS Try.prog 19 [.pt 0 0] (jouS 0 1 2 3 base size tx D) (fun r σ => ∃ D', DA n L' (fun q => if q = base then sealF 5 base (abortF tx) else f q) D' ∧ r = .i .i64 0 ∧ σ = jouS 0 1 2 100 base size tx D') :=
  abortA hD hj hL L' hL' _ rfl
theorem scanA_aborted' (hD : DA n L (fun q => if q = base then sealF 5 base (abortF tx) else f q) D) (hj : jplace n base size tx) (hL : L ≤ 10000000) (L' : Int) (hL' : L' = L + 1) :
    TriS Try.prog 17 [.pt 0 0] (jouS 0 1 2 3 base size tx D) (fun r σ => ∃ D', r = .tu [.l 0 [] true, .b false] ∧ σ = jouS 0 1 2 3 base size tx D') :=
  (scanA_aborted hD hj hL L' hL' (if_pos rfl)).mono (by rintro r σ ⟨D', h, rfl, rfl⟩; exact ⟨D', rfl, rfl⟩)
theorem scanA_new (hD : DA n L (fun _ => blankF) D) (hj : jplace n base size tx) (hL : L ≤ 10000000) (L' : Int) (hL' : L' = L + 1) :
    TriS Try.prog 17 [.pt 0 0] (jouS 0 1 2 3 base size tx D) (fun r σ => ∃ D', DA n L' (fun _ => blankF) D' ∧ r = .tu [.l 0 [] true, .b false] ∧ σ = jouS 0 1 2 3 base size tx D') :=
  scanA_blank hD hj hL L' hL' rfl
theorem newA' (n : Int) (hn : 1 ≤ n ∧ n ≤ 1000) : TriS Try.prog 13 [.i .i64 n] [] (fun r σ => ∃ D : DK, DA n 0 (fun _ => blankF) D ∧ r = .tu [.pt 100 0, .i .i64 0] ∧ σ = D.S 100 101 102) :=
  newA n _ hn (fun _ _ _ => rfl)
end
theorem pages_same (n : Int) (a b : Ix → Int) (c : Ix → Str) (a' b' : Ix → Int) (c' : Ix → Str) (f f' : Bool) (hn : 0 ≤ n ∧ n ≤ 1000000000) (h : ∀ j : Int, 0 ≤ j → j < n → a [j] = a' [j] ∧ b [j] = b' [j] ∧ c [j] = c' [j]) :
    TriS Try.prog 18 [.l n [.i .i64 a, .i .i64 b, .s c] f, .l n [.i .i64 a', .i .i64 b', .s c'] f'] [] (fun r σ => r = .b true ∧ σ = []) :=
  (pages_tri n n a b c a' b' c' f f' hn hn.1).mono (by rintro r σ ⟨t, ht, rfl, rfl⟩; obtain rfl : t = true := ht.2 ⟨rfl, h⟩; exact ⟨rfl, rfl⟩)
theorem back07 (a b c d n : Int) (pk pn : Ix → Int) (pb : Ix → Str) (ab : Bool) (h0 : 0 ≤ n) : TriS Try.prog 5 [.ag [.i .i64 a, .i .i64 b, .i .i64 c, .i .i64 d], .l n [.i .i64 pk, .i .i64 pn, .s pb] false, .b ab] [] (fun r _ => r = .b true) := by
  by_cases ha : 1 ≤ a
  case neg =>
    refine tri_of TT_ok mixed (OR := ORD5) (fn := Try.f5) (c := body Try.f5) (by kernel_rfl) (by kernel_rfl) (by kernel_rfl) (by kernel_rfl) (by simp [Try.f5]) fun H Tri hH hTri => ?_
    cbv
    refine' ⟨[], ⟨⟨rfl, rfl⟩, rfl⟩, _, _, ?x53001, ?s53002, _, hTri _ _ _ _ (few_tri _ _ _ _ ?a53000), ?k53003⟩
    case x53001 => cbv <;> rfl
    case s53002 => cbv <;> rfl
    case a53000 => assumption
    rintro r53006 σ53007 ⟨b53004, ⟨rfl, ⟨h53005, rfl⟩⟩⟩
    cbv
    rcases b53004 with _ | _
    · simp only [Bool.false_eq_true, Bool.true_eq_false, reduceCtorEq, false_iff, true_iff, forall_const, not_false_eq_true, false_implies] at h53005
      cbv
      refine' ⟨[], ⟨⟨rfl, rfl⟩, rfl⟩, _, _, ?x53008, ?s53009, _, hTri _ _ _ _ live07, ?k53010⟩
      case x53008 => cbv <;> rfl
      case s53009 => cbv <;> rfl
      rintro r53011 σ53012 ⟨rfl, rfl⟩
      cbv
      refine' ⟨_, [], rfl, ?c53013, ?s53014⟩
      case s53014 => cbv <;> repeat' first | exact rfl | exact trivial | exact Or.inl rfl | apply And.intro
      case c53013 => rfl
    · simp only [Bool.false_eq_true, Bool.true_eq_false, reduceCtorEq, false_iff, true_iff, forall_const, not_false_eq_true, false_implies] at h53005
      cbv
      split
      case h_1 => rename_i hh; exact absurd hh (by rw [hH]; simp; omega)
      cbv
      generalize e53016 : H Bool _ = b53015
      rw [hH] at e53016
      replace e53016 := boolN e53016
      refine' ⟨[], ⟨⟨rfl, rfl⟩, rfl⟩, _, _, ?x53018, ?s53019, _, hTri _ _ _ _ (disk_new_bad _ ?a53017), ?k53020⟩
      case x53018 => cbv <;> rfl
      case s53019 => cbv <;> rfl
      case a53017 => omega
      rintro r53021 σ53022 ⟨rfl, rfl⟩
      cbv
      refine' ⟨[], ⟨⟨rfl, rfl⟩, rfl⟩, _, _, ?x53023, ?s53024, _, hTri _ _ _ _ (nil14 _ _ _), ?k53025⟩
      case x53023 => cbv <;> rfl
      case s53024 => cbv <;> rfl
      rintro r53026 σ53027 ⟨rfl, rfl⟩
      cbv
      split
      case h_2 => rename_i hh; exact absurd hh (by rw [hH]; simp; try omega)
      cbv
      generalize e53029 : H Bool _ = b53028
      rw [hH] at e53029
      replace e53029 := boolN e53029
      refine' ⟨[], ⟨⟨rfl, rfl⟩, rfl⟩, _, _, ?x53030, ?s53031, _, hTri _ _ _ _ live07, ?k53032⟩
      case x53030 => cbv <;> rfl
      case s53031 => cbv <;> rfl
      rintro r53033 σ53034 ⟨rfl, rfl⟩
      cbv
      refine' ⟨_, [], rfl, ?c53035, ?s53036⟩
      case s53036 => cbv <;> repeat' first | exact rfl | exact trivial | exact Or.inl rfl | apply And.intro
      case c53035 => rfl
  by_cases hj : jplace a b c d
  case neg =>
    refine tri_of TT_ok mixed (OR := ORD5) (fn := Try.f5) (c := body Try.f5) (by kernel_rfl) (by kernel_rfl) (by kernel_rfl) (by kernel_rfl) (by simp [Try.f5]) fun H Tri hH hTri => ?_
    cbv
    refine' ⟨[], ⟨⟨rfl, rfl⟩, rfl⟩, _, _, ?x57001, ?s57002, _, hTri _ _ _ _ (few_tri _ _ _ _ ?a57000), ?k57003⟩
    case x57001 => cbv <;> rfl
    case s57002 => cbv <;> rfl
    case a57000 => assumption
    rintro r57006 σ57007 ⟨b57004, ⟨rfl, ⟨h57005, rfl⟩⟩⟩
    cbv
    rcases b57004 with _ | _
    · simp only [Bool.false_eq_true, Bool.true_eq_false, reduceCtorEq, false_iff, true_iff, forall_const, not_false_eq_true, false_implies] at h57005
      cbv
      refine' ⟨[], ⟨⟨rfl, rfl⟩, rfl⟩, _, _, ?x57008, ?s57009, _, hTri _ _ _ _ live07, ?k57010⟩
      case x57008 => cbv <;> rfl
      case s57009 => cbv <;> rfl
      rintro r57011 σ57012 ⟨rfl, rfl⟩
      cbv
      refine' ⟨_, [], rfl, ?c57013, ?s57014⟩
      case s57014 => cbv <;> repeat' first | exact rfl | exact trivial | exact Or.inl rfl | apply And.intro
      case c57013 => rfl
    · simp only [Bool.false_eq_true, Bool.true_eq_false, reduceCtorEq, false_iff, true_iff, forall_const, not_false_eq_true, false_implies] at h57005
      cbv
      split
      · rename_i h57015
        simp only [hH, decide_eq_true_eq] at h57015
        cbv
        generalize e57017 : H Bool _ = b57016
        rw [hH] at e57017
        replace e57017 := boolN e57017
        refine' ⟨[], ⟨⟨rfl, rfl⟩, rfl⟩, _, _, ?x57018, ?s57019, _, hTri _ _ _ _ live07, ?k57020⟩
        case x57018 => cbv <;> rfl
        case s57019 => cbv <;> rfl
        rintro r57021 σ57022 ⟨rfl, rfl⟩
        cbv
        refine' ⟨_, [], rfl, ?c57023, ?s57024⟩
        case s57024 => cbv <;> repeat' first | exact rfl | exact trivial | exact Or.inl rfl | apply And.intro
        case c57023 => rfl
      · rename_i h57025
        simp only [hH, decide_eq_false_iff_not, Int.not_lt, Int.not_le] at h57025
        cbv
        generalize e57027 : H Bool _ = b57026
        rw [hH] at e57027
        replace e57027 := boolN e57027
        refine' ⟨[], ⟨⟨rfl, rfl⟩, rfl⟩, _, _, ?x57029, ?s57030, _, hTri _ _ _ _ (newA' _ ?a57028), ?k57031⟩
        case x57029 => cbv <;> rfl
        case s57030 => cbv <;> rfl
        case a57028 => omega
        rintro r57034 σ57035 ⟨x57032, ⟨h57033, ⟨rfl, rfl⟩⟩⟩
        cbv
        refine' ⟨[221, 222, 223], ⟨⟨rfl, rfl⟩, rfl⟩, _, _, ?x57038, ?s57039, _, hTri _ _ _ _ (jnewA_bad ?a57036 ?a57037), ?k57040⟩
        case x57038 => cbv <;> rfl
        case s57039 => cbv <;> rfl
        case a57036 => assumption
        case a57037 => assumption
        rintro r57041 σ57042 ⟨rfl, rfl⟩
        cbv
        split
        case h_2 => rename_i hh; exact absurd hh (by rw [hH]; simp; try omega)
        cbv
        generalize e57044 : H Bool _ = b57043
        rw [hH] at e57044
        replace e57044 := boolN e57044
        refine' ⟨[], ⟨⟨rfl, rfl⟩, rfl⟩, _, _, ?x57045, ?s57046, _, hTri _ _ _ _ live07, ?k57047⟩
        case x57045 => cbv <;> rfl
        case s57046 => cbv <;> rfl
        rintro r57048 σ57049 ⟨rfl, rfl⟩
        cbv
        refine' ⟨_, [], rfl, ?c57050, ?s57051⟩
        case s57051 => cbv <;> repeat' first | exact rfl | exact trivial | exact Or.inl rfl | apply And.intro
        case c57050 => rfl
  have hjd := hj.2.2
  by_cases hc : 0 < n ∧ n ≤ c - 1 ∧ ∀ j : Int, 0 ≤ j → j < n → okP (pk [j]) (pn [j]) (pb [j])
  case neg =>
    refine tri_of TT_ok mixed (OR := ORD5) (fn := Try.f5) (c := body Try.f5) (by kernel_rfl) (by kernel_rfl) (by kernel_rfl) (by kernel_rfl) (by simp [Try.f5]) fun H Tri hH hTri => ?_
    cbv
    refine' ⟨[], ⟨⟨rfl, rfl⟩, rfl⟩, _, _, ?x62001, ?s62002, _, hTri _ _ _ _ (few_tri _ _ _ _ ?a62000), ?k62003⟩
    case x62001 => cbv <;> rfl
    case s62002 => cbv <;> rfl
    case a62000 => assumption
    rintro r62006 σ62007 ⟨b62004, ⟨rfl, ⟨h62005, rfl⟩⟩⟩
    cbv
    rcases b62004 with _ | _
    · simp only [Bool.false_eq_true, Bool.true_eq_false, reduceCtorEq, false_iff, true_iff, forall_const, not_false_eq_true, false_implies] at h62005
      cbv
      refine' ⟨[], ⟨⟨rfl, rfl⟩, rfl⟩, _, _, ?x62008, ?s62009, _, hTri _ _ _ _ live07, ?k62010⟩
      case x62008 => cbv <;> rfl
      case s62009 => cbv <;> rfl
      rintro r62011 σ62012 ⟨rfl, rfl⟩
      cbv
      refine' ⟨_, [], rfl, ?c62013, ?s62014⟩
      case s62014 => cbv <;> repeat' first | exact rfl | exact trivial | exact Or.inl rfl | apply And.intro
      case c62013 => rfl
    · simp only [Bool.false_eq_true, Bool.true_eq_false, reduceCtorEq, false_iff, true_iff, forall_const, not_false_eq_true, false_implies] at h62005
      cbv
      split
      · rename_i h62015
        simp only [hH, decide_eq_true_eq] at h62015
        cbv
        generalize e62017 : H Bool _ = b62016
        rw [hH] at e62017
        replace e62017 := boolN e62017
        refine' ⟨[], ⟨⟨rfl, rfl⟩, rfl⟩, _, _, ?x62018, ?s62019, _, hTri _ _ _ _ live07, ?k62020⟩
        case x62018 => cbv <;> rfl
        case s62019 => cbv <;> rfl
        rintro r62021 σ62022 ⟨rfl, rfl⟩
        cbv
        refine' ⟨_, [], rfl, ?c62023, ?s62024⟩
        case s62024 => cbv <;> repeat' first | exact rfl | exact trivial | exact Or.inl rfl | apply And.intro
        case c62023 => rfl
      · rename_i h62025
        simp only [hH, decide_eq_false_iff_not, Int.not_lt, Int.not_le] at h62025
        cbv
        generalize e62027 : H Bool _ = b62026
        rw [hH] at e62027
        replace e62027 := boolN e62027
        refine' ⟨[], ⟨⟨rfl, rfl⟩, rfl⟩, _, _, ?x62029, ?s62030, _, hTri _ _ _ _ (newA' _ ?a62028), ?k62031⟩
        case x62029 => cbv <;> rfl
        case s62030 => cbv <;> rfl
        case a62028 => omega
        rintro r62034 σ62035 ⟨x62032, ⟨h62033, ⟨rfl, rfl⟩⟩⟩
        cbv
        refine' ⟨[221, 222, 223], ⟨⟨rfl, rfl⟩, rfl⟩, _, _, ?x62038, ?s62039, _, hTri _ _ _ _ (jnewA ?a62036 ?a62037), ?k62040⟩
        case x62038 => cbv <;> rfl
        case s62039 => cbv <;> rfl
        case a62036 => assumption
        case a62037 => assumption
        rintro r62041 σ62042 ⟨rfl, rfl⟩
        cbv
        split
        case h_1 => rename_i hh; exact absurd hh (by rw [hH]; simp; try omega)
        cbv
        generalize e62044 : H Bool _ = b62043
        rw [hH] at e62044
        replace e62044 := boolN e62044
        refine' ⟨[241, 221, 222, 223], ⟨⟨rfl, rfl⟩, rfl⟩, _, _, ?x62049, ?s62050, _, hTri _ _ _ _ (commitA_bad _ ?a62045 ?a62046 ?a62047 ?a62048), ?k62051⟩
        case x62049 => cbv <;> rfl
        case s62050 => cbv <;> rfl
        case a62045 => assumption
        case a62046 => assumption
        case a62047 => omega
        case a62048 => assumption
        rintro r62054 σ62055 ⟨v62052, ⟨h62053, ⟨rfl, rfl⟩⟩⟩
        cbv
        split
        case h_2 => rename_i hh; exact absurd hh (by rw [hH]; simp; omega)
        cbv
        generalize e62057 : H Bool _ = b62056
        rw [hH] at e62057
        replace e62057 := boolN e62057
        refine' ⟨[241, 221, 222, 223], ⟨⟨rfl, rfl⟩, rfl⟩, _, _, ?x62062, ?s62063, _, hTri _ _ _ _ (scanA_new ?a62058 ?a62059 ?a62060 _ ?a62061), ?k62064⟩
        case x62062 => cbv <;> rfl
        case s62063 => cbv <;> rfl
        case a62058 => assumption
        case a62059 => assumption
        case a62060 => omega
        case a62061 => rfl
        rintro r62067 σ62068 ⟨x62065, ⟨h62066, ⟨rfl, rfl⟩⟩⟩
        cbv
        refine' ⟨[], ⟨⟨rfl, rfl⟩, rfl⟩, _, _, ?x62069, ?s62070, _, hTri _ _ _ _ live07, ?k62071⟩
        case x62069 => cbv <;> rfl
        case s62070 => cbv <;> rfl
        rintro r62072 σ62073 ⟨rfl, rfl⟩
        cbv
        refine' ⟨_, [], rfl, ?c62074, ?s62075⟩
        case s62075 => cbv <;> repeat' first | exact rfl | exact trivial | exact Or.inl rfl | apply And.intro
        case c62074 => rfl
  by_cases hx : d = 4294967295
  case pos =>
    refine tri_of TT_ok mixed (OR := ORD5) (fn := Try.f5) (c := body Try.f5) (by kernel_rfl) (by kernel_rfl) (by kernel_rfl) (by kernel_rfl) (by simp [Try.f5]) fun H Tri hH hTri => ?_
    cbv
    refine' ⟨[], ⟨⟨rfl, rfl⟩, rfl⟩, _, _, ?x66001, ?s66002, _, hTri _ _ _ _ (few_tri _ _ _ _ ?a66000), ?k66003⟩
    case x66001 => cbv <;> rfl
    case s66002 => cbv <;> rfl
    case a66000 => assumption
    rintro r66006 σ66007 ⟨b66004, ⟨rfl, ⟨h66005, rfl⟩⟩⟩
    cbv
    rcases b66004 with _ | _
    · simp only [Bool.false_eq_true, Bool.true_eq_false, reduceCtorEq, false_iff, true_iff, forall_const, not_false_eq_true, false_implies] at h66005
      cbv
      refine' ⟨[], ⟨⟨rfl, rfl⟩, rfl⟩, _, _, ?x66008, ?s66009, _, hTri _ _ _ _ live07, ?k66010⟩
      case x66008 => cbv <;> rfl
      case s66009 => cbv <;> rfl
      rintro r66011 σ66012 ⟨rfl, rfl⟩
      cbv
      refine' ⟨_, [], rfl, ?c66013, ?s66014⟩
      case s66014 => cbv <;> repeat' first | exact rfl | exact trivial | exact Or.inl rfl | apply And.intro
      case c66013 => rfl
    · simp only [Bool.false_eq_true, Bool.true_eq_false, reduceCtorEq, false_iff, true_iff, forall_const, not_false_eq_true, false_implies] at h66005
      cbv
      split
      · rename_i h66015
        simp only [hH, decide_eq_true_eq] at h66015
        cbv
        generalize e66017 : H Bool _ = b66016
        rw [hH] at e66017
        replace e66017 := boolN e66017
        refine' ⟨[], ⟨⟨rfl, rfl⟩, rfl⟩, _, _, ?x66018, ?s66019, _, hTri _ _ _ _ live07, ?k66020⟩
        case x66018 => cbv <;> rfl
        case s66019 => cbv <;> rfl
        rintro r66021 σ66022 ⟨rfl, rfl⟩
        cbv
        refine' ⟨_, [], rfl, ?c66023, ?s66024⟩
        case s66024 => cbv <;> repeat' first | exact rfl | exact trivial | exact Or.inl rfl | apply And.intro
        case c66023 => rfl
      · rename_i h66025
        simp only [hH, decide_eq_false_iff_not, Int.not_lt, Int.not_le] at h66025
        cbv
        generalize e66027 : H Bool _ = b66026
        rw [hH] at e66027
        replace e66027 := boolN e66027
        refine' ⟨[], ⟨⟨rfl, rfl⟩, rfl⟩, _, _, ?x66029, ?s66030, _, hTri _ _ _ _ (newA' _ ?a66028), ?k66031⟩
        case x66029 => cbv <;> rfl
        case s66030 => cbv <;> rfl
        case a66028 => omega
        rintro r66034 σ66035 ⟨x66032, ⟨h66033, ⟨rfl, rfl⟩⟩⟩
        cbv
        refine' ⟨[221, 222, 223], ⟨⟨rfl, rfl⟩, rfl⟩, _, _, ?x66038, ?s66039, _, hTri _ _ _ _ (jnewA ?a66036 ?a66037), ?k66040⟩
        case x66038 => cbv <;> rfl
        case s66039 => cbv <;> rfl
        case a66036 => assumption
        case a66037 => assumption
        rintro r66041 σ66042 ⟨rfl, rfl⟩
        cbv
        split
        case h_1 => rename_i hh; exact absurd hh (by rw [hH]; simp; try omega)
        cbv
        generalize e66044 : H Bool _ = b66043
        rw [hH] at e66044
        replace e66044 := boolN e66044
        refine' ⟨[241, 221, 222, 223], ⟨⟨rfl, rfl⟩, rfl⟩, _, _, ?x66050, ?s66051, _, hTri _ _ _ _ (commitA' _ ?a66045 ?a66046 ?a66047 _ ?a66048 ?a66049), ?k66052⟩
        case x66050 => cbv <;> rfl
        case s66051 => cbv <;> rfl
        case a66045 => assumption
        case a66046 => assumption
        case a66047 => omega
        case a66048 => rfl
        case a66049 => assumption
        rintro r66055 σ66056 ⟨x66053, ⟨h66054, ⟨rfl, rfl⟩⟩⟩
        cbv
        split
        case h_1 => rename_i hh; exact absurd hh (by rw [hH]; simp; try omega)
        cbv
        generalize e66058 : H Bool _ = b66057
        rw [hH] at e66058
        replace e66058 := boolN e66058
        refine' ⟨[221, 222, 261], ⟨⟨rfl, rfl⟩, rfl⟩, _, _, ?x66061, ?s66062, _, hTri _ _ _ _ (jnewA ?a66059 ?a66060), ?k66063⟩
        case x66061 => cbv <;> rfl
        case s66062 => cbv <;> rfl
        case a66059 => assumption
        case a66060 => assumption
        rintro r66064 σ66065 ⟨rfl, rfl⟩
        cbv
        refine' ⟨[241, 221, 222, 261], ⟨⟨rfl, rfl⟩, rfl⟩, _, _, ?x66071, ?s66072, _, hTri _ _ _ _ (scanA_back ?a66066 ?a66067 ?a66068 _ ?a66069 ?a66070), ?k66073⟩
        case x66071 => cbv <;> rfl
        case s66072 => cbv <;> rfl
        case a66066 => assumption
        case a66067 => assumption
        case a66068 => omega
        case a66069 => rfl
        case a66070 => assumption
        rintro r66080 σ66081 ⟨x66074, ⟨x66075, ⟨x66076, ⟨x66077, ⟨h66078, ⟨h66079, ⟨rfl, rfl⟩⟩⟩⟩⟩⟩⟩
        cbv
        refine' ⟨[281, 221, 222, 261], ⟨⟨rfl, rfl⟩, rfl⟩, _, _, ?x66087, ?s66088, _, hTri _ _ _ _ (scanA_back ?a66082 ?a66083 ?a66084 _ ?a66085 ?a66086), ?k66089⟩
        case x66087 => cbv <;> rfl
        case s66088 => cbv <;> rfl
        case a66082 => assumption
        case a66083 => assumption
        case a66084 => omega
        case a66085 => rfl
        case a66086 => assumption
        rintro r66096 σ66097 ⟨x66090, ⟨x66091, ⟨x66092, ⟨x66093, ⟨h66094, ⟨h66095, ⟨rfl, rfl⟩⟩⟩⟩⟩⟩⟩
        cbv
        refine' ⟨[], ⟨⟨rfl, rfl⟩, rfl⟩, _, _, ?x66100, ?s66101, _, hTri _ _ _ _ (pages_same _ _ _ _ _ _ _ _ _ ?a66098 ?a66099), ?k66102⟩
        case x66100 => cbv <;> rfl
        case s66101 => cbv <;> rfl
        case a66098 => omega
        case a66099 => intros; simp only [AM.hd, Int.add_zero, List.tail_cons]; solve_by_elim
        rintro r66103 σ66104 ⟨rfl, rfl⟩
        cbv
        refine' ⟨[], ⟨⟨rfl, rfl⟩, rfl⟩, _, _, ?x66107, ?s66108, _, hTri _ _ _ _ (pages_same _ _ _ _ _ _ _ _ _ ?a66105 ?a66106), ?k66109⟩
        case x66107 => cbv <;> rfl
        case s66108 => cbv <;> rfl
        case a66105 => omega
        case a66106 => intros; simp only [AM.hd, Int.add_zero, List.tail_cons]; solve_by_elim
        rintro r66110 σ66111 ⟨rfl, rfl⟩
        cbv
        rcases ab with _ | _
        · cbv
          refine' ⟨[241, 221, 222, 261], ⟨⟨rfl, rfl⟩, rfl⟩, _, _, ?x66113, ?s66114, _, hTri _ _ _ _ (jnext_bad _ _ _ ⟨_, _, _, _, _, _, _, _, _⟩ ?a66112), ?k66115⟩
          case x66113 => cbv <;> rfl
          case s66114 => cbv <;> rfl
          case a66112 => assumption
          rintro r66116 σ66117 ⟨rfl, rfl⟩
          cbv
          split
          case h_2 => rename_i hh; exact absurd hh (by rw [hH]; simp; try omega)
          cbv
          split
          case h_2 => rename_i hh; exact absurd hh (by rw [hH]; simp; omega)
          cbv
          generalize e66119 : H Bool _ = b66118
          rw [hH] at e66119
          replace e66119 := boolN e66119
          generalize e66121 : H Bool _ = b66120
          rw [hH] at e66121
          replace e66121 := boolN e66121
          refine' ⟨[], ⟨⟨rfl, rfl⟩, rfl⟩, _, _, ?x66122, ?s66123, _, hTri _ _ _ _ live07, ?k66124⟩
          case x66122 => cbv <;> rfl
          case s66123 => cbv <;> rfl
          rintro r66125 σ66126 ⟨rfl, rfl⟩
          cbv
          refine' ⟨_, [], rfl, ?c66127, ?s66128⟩
          case s66128 => cbv <;> repeat' first | exact rfl | exact trivial | exact Or.inl rfl | apply And.intro
          case c66127 => rfl
        · cbv
          refine' ⟨[241, 221, 222, 261], ⟨⟨rfl, rfl⟩, rfl⟩, _, _, ?x66133, ?s66134, _, hTri _ _ _ _ (abortA' ?a66129 ?a66130 ?a66131 _ ?a66132), ?k66135⟩
          case x66133 => cbv <;> rfl
          case s66134 => cbv <;> rfl
          case a66129 => assumption
          case a66130 => assumption
          case a66131 => omega
          case a66132 => rfl
          rintro r66138 σ66139 ⟨x66136, ⟨h66137, ⟨rfl, rfl⟩⟩⟩
          cbv
          refine' ⟨[241, 221, 222, 381], ⟨⟨rfl, rfl⟩, rfl⟩, _, _, ?x66152, ?s66153, _, hTri _ _ _ _ (scanA_aborted' ?a66148 ?a66149 ?a66150 _ ?a66151), ?k66154⟩
          case x66152 => cbv <;> rfl
          case s66153 => cbv <;> rfl
          case a66148 => assumption
          case a66149 => assumption
          case a66150 => omega
          case a66151 => rfl
          rintro r66156 σ66157 ⟨x66155, ⟨rfl, rfl⟩⟩
          cbv
          refine' ⟨[], ⟨⟨rfl, rfl⟩, rfl⟩, _, _, ?x66158, ?s66159, _, hTri _ _ _ _ live07, ?k66160⟩
          case x66158 => cbv <;> rfl
          case s66159 => cbv <;> rfl
          rintro r66161 σ66162 ⟨rfl, rfl⟩
          cbv
          refine' ⟨_, [], rfl, ?c66163, ?s66164⟩
          case s66164 => cbv <;> repeat' first | exact rfl | exact trivial | exact Or.inl rfl | apply And.intro
          case c66163 => rfl
  have hj3 : jplace a b c (d + 1) := ⟨hj.1, hj.2.1, by omega, by omega⟩
  refine tri_of TT_ok mixed (OR := ORD5) (fn := Try.f5) (c := body Try.f5) (by kernel_rfl) (by kernel_rfl) (by kernel_rfl) (by kernel_rfl) (by simp [Try.f5]) fun H Tri hH hTri => ?_
  cbv
  refine' ⟨[], ⟨⟨rfl, rfl⟩, rfl⟩, _, _, ?x69001, ?s69002, _, hTri _ _ _ _ (few_tri _ _ _ _ ?a69000), ?k69003⟩
  case x69001 => cbv <;> rfl
  case s69002 => cbv <;> rfl
  case a69000 => assumption
  rintro r69006 σ69007 ⟨b69004, ⟨rfl, ⟨h69005, rfl⟩⟩⟩
  cbv
  rcases b69004 with _ | _
  · simp only [Bool.false_eq_true, Bool.true_eq_false, reduceCtorEq, false_iff, true_iff, forall_const, not_false_eq_true, false_implies] at h69005
    cbv
    refine' ⟨[], ⟨⟨rfl, rfl⟩, rfl⟩, _, _, ?x69008, ?s69009, _, hTri _ _ _ _ live07, ?k69010⟩
    case x69008 => cbv <;> rfl
    case s69009 => cbv <;> rfl
    rintro r69011 σ69012 ⟨rfl, rfl⟩
    cbv
    refine' ⟨_, [], rfl, ?c69013, ?s69014⟩
    case s69014 => cbv <;> repeat' first | exact rfl | exact trivial | exact Or.inl rfl | apply And.intro
    case c69013 => rfl
  · simp only [Bool.false_eq_true, Bool.true_eq_false, reduceCtorEq, false_iff, true_iff, forall_const, not_false_eq_true, false_implies] at h69005
    cbv
    split
    · rename_i h69015
      simp only [hH, decide_eq_true_eq] at h69015
      cbv
      generalize e69017 : H Bool _ = b69016
      rw [hH] at e69017
      replace e69017 := boolN e69017
      refine' ⟨[], ⟨⟨rfl, rfl⟩, rfl⟩, _, _, ?x69018, ?s69019, _, hTri _ _ _ _ live07, ?k69020⟩
      case x69018 => cbv <;> rfl
      case s69019 => cbv <;> rfl
      rintro r69021 σ69022 ⟨rfl, rfl⟩
      cbv
      refine' ⟨_, [], rfl, ?c69023, ?s69024⟩
      case s69024 => cbv <;> repeat' first | exact rfl | exact trivial | exact Or.inl rfl | apply And.intro
      case c69023 => rfl
    · rename_i h69025
      simp only [hH, decide_eq_false_iff_not, Int.not_lt, Int.not_le] at h69025
      cbv
      generalize e69027 : H Bool _ = b69026
      rw [hH] at e69027
      replace e69027 := boolN e69027
      refine' ⟨[], ⟨⟨rfl, rfl⟩, rfl⟩, _, _, ?x69029, ?s69030, _, hTri _ _ _ _ (newA' _ ?a69028), ?k69031⟩
      case x69029 => cbv <;> rfl
      case s69030 => cbv <;> rfl
      case a69028 => omega
      rintro r69034 σ69035 ⟨x69032, ⟨h69033, ⟨rfl, rfl⟩⟩⟩
      cbv
      refine' ⟨[221, 222, 223], ⟨⟨rfl, rfl⟩, rfl⟩, _, _, ?x69038, ?s69039, _, hTri _ _ _ _ (jnewA ?a69036 ?a69037), ?k69040⟩
      case x69038 => cbv <;> rfl
      case s69039 => cbv <;> rfl
      case a69036 => assumption
      case a69037 => assumption
      rintro r69041 σ69042 ⟨rfl, rfl⟩
      cbv
      split
      case h_1 => rename_i hh; exact absurd hh (by rw [hH]; simp; try omega)
      cbv
      generalize e69044 : H Bool _ = b69043
      rw [hH] at e69044
      replace e69044 := boolN e69044
      refine' ⟨[241, 221, 222, 223], ⟨⟨rfl, rfl⟩, rfl⟩, _, _, ?x69050, ?s69051, _, hTri _ _ _ _ (commitA' _ ?a69045 ?a69046 ?a69047 _ ?a69048 ?a69049), ?k69052⟩
      case x69050 => cbv <;> rfl
      case s69051 => cbv <;> rfl
      case a69045 => assumption
      case a69046 => assumption
      case a69047 => omega
      case a69048 => rfl
      case a69049 => assumption
      rintro r69055 σ69056 ⟨x69053, ⟨h69054, ⟨rfl, rfl⟩⟩⟩
      cbv
      split
      case h_1 => rename_i hh; exact absurd hh (by rw [hH]; simp; try omega)
      cbv
      generalize e69058 : H Bool _ = b69057
      rw [hH] at e69058
      replace e69058 := boolN e69058
      refine' ⟨[221, 222, 261], ⟨⟨rfl, rfl⟩, rfl⟩, _, _, ?x69061, ?s69062, _, hTri _ _ _ _ (jnewA ?a69059 ?a69060), ?k69063⟩
      case x69061 => cbv <;> rfl
      case s69062 => cbv <;> rfl
      case a69059 => assumption
      case a69060 => assumption
      rintro r69064 σ69065 ⟨rfl, rfl⟩
      cbv
      refine' ⟨[241, 221, 222, 261], ⟨⟨rfl, rfl⟩, rfl⟩, _, _, ?x69071, ?s69072, _, hTri _ _ _ _ (scanA_back ?a69066 ?a69067 ?a69068 _ ?a69069 ?a69070), ?k69073⟩
      case x69071 => cbv <;> rfl
      case s69072 => cbv <;> rfl
      case a69066 => assumption
      case a69067 => assumption
      case a69068 => omega
      case a69069 => rfl
      case a69070 => assumption
      rintro r69080 σ69081 ⟨x69074, ⟨x69075, ⟨x69076, ⟨x69077, ⟨h69078, ⟨h69079, ⟨rfl, rfl⟩⟩⟩⟩⟩⟩⟩
      cbv
      refine' ⟨[281, 221, 222, 261], ⟨⟨rfl, rfl⟩, rfl⟩, _, _, ?x69087, ?s69088, _, hTri _ _ _ _ (scanA_back ?a69082 ?a69083 ?a69084 _ ?a69085 ?a69086), ?k69089⟩
      case x69087 => cbv <;> rfl
      case s69088 => cbv <;> rfl
      case a69082 => assumption
      case a69083 => assumption
      case a69084 => omega
      case a69085 => rfl
      case a69086 => assumption
      rintro r69096 σ69097 ⟨x69090, ⟨x69091, ⟨x69092, ⟨x69093, ⟨h69094, ⟨h69095, ⟨rfl, rfl⟩⟩⟩⟩⟩⟩⟩
      cbv
      refine' ⟨[], ⟨⟨rfl, rfl⟩, rfl⟩, _, _, ?x69100, ?s69101, _, hTri _ _ _ _ (pages_same _ _ _ _ _ _ _ _ _ ?a69098 ?a69099), ?k69102⟩
      case x69100 => cbv <;> rfl
      case s69101 => cbv <;> rfl
      case a69098 => omega
      case a69099 => intros; simp only [AM.hd, Int.add_zero, List.tail_cons]; solve_by_elim
      rintro r69103 σ69104 ⟨rfl, rfl⟩
      cbv
      refine' ⟨[], ⟨⟨rfl, rfl⟩, rfl⟩, _, _, ?x69107, ?s69108, _, hTri _ _ _ _ (pages_same _ _ _ _ _ _ _ _ _ ?a69105 ?a69106), ?k69109⟩
      case x69107 => cbv <;> rfl
      case s69108 => cbv <;> rfl
      case a69105 => omega
      case a69106 => intros; simp only [AM.hd, Int.add_zero, List.tail_cons]; solve_by_elim
      rintro r69110 σ69111 ⟨rfl, rfl⟩
      cbv
      rcases ab with _ | _
      · cbv
        refine' ⟨[241, 221, 222, 261], ⟨⟨rfl, rfl⟩, rfl⟩, _, _, ?x69113, ?s69114, _, hTri _ _ _ _ (jnext _ _ _ ⟨_, _, _, _, _, _, _, _, _⟩ ?a69112), ?k69115⟩
        case x69113 => cbv <;> rfl
        case s69114 => cbv <;> rfl
        case a69112 => omega
        rintro r69118 σ69119 ⟨v69116, ⟨h69117, ⟨rfl, rfl⟩⟩⟩
        cbv
        split
        case h_1 => rename_i hh; exact absurd hh (by rw [hH]; simp; try omega)
        cbv
        generalize e69121 : H Bool _ = b69120
        rw [hH] at e69121
        replace e69121 := boolN e69121
        refine' ⟨[241, 221, 222, 261], ⟨⟨rfl, rfl⟩, rfl⟩, _, _, ?x69144, ?s69145, _, hTri _ _ _ _ (scanA_after _ ?a69137 ?a69138 ?a69139 ?a69140 _ ?a69141 ?a69142 ?a69143), ?k69146⟩
        case x69144 => cbv <;> rfl
        case s69145 => cbv <;> rfl
        case a69137 => assumption
        case a69138 => assumption
        case a69139 => simp_all; done
        case a69140 => omega
        case a69141 => rfl
        case a69142 => assumption
        case a69143 => omega
        rintro r69149 σ69150 ⟨x69147, ⟨h69148, ⟨rfl, rfl⟩⟩⟩
        cbv
        refine' ⟨[], ⟨⟨rfl, rfl⟩, rfl⟩, _, _, ?x69151, ?s69152, _, hTri _ _ _ _ live07, ?k69153⟩
        case x69151 => cbv <;> rfl
        case s69152 => cbv <;> rfl
        rintro r69154 σ69155 ⟨rfl, rfl⟩
        cbv
        refine' ⟨_, [], rfl, ?c69156, ?s69157⟩
        case s69157 => cbv <;> repeat' first | exact rfl | exact trivial | exact Or.inl rfl | apply And.intro
        case c69156 => rfl
      · cbv
        refine' ⟨[241, 221, 222, 261], ⟨⟨rfl, rfl⟩, rfl⟩, _, _, ?x69162, ?s69163, _, hTri _ _ _ _ (abortA' ?a69158 ?a69159 ?a69160 _ ?a69161), ?k69164⟩
        case x69162 => cbv <;> rfl
        case s69163 => cbv <;> rfl
        case a69158 => assumption
        case a69159 => assumption
        case a69160 => omega
        case a69161 => rfl
        rintro r69167 σ69168 ⟨x69165, ⟨h69166, ⟨rfl, rfl⟩⟩⟩
        cbv
        refine' ⟨[241, 221, 222, 381], ⟨⟨rfl, rfl⟩, rfl⟩, _, _, ?x69181, ?s69182, _, hTri _ _ _ _ (scanA_aborted' ?a69177 ?a69178 ?a69179 _ ?a69180), ?k69183⟩
        case x69181 => cbv <;> rfl
        case s69182 => cbv <;> rfl
        case a69177 => assumption
        case a69178 => assumption
        case a69179 => omega
        case a69180 => rfl
        rintro r69185 σ69186 ⟨x69184, ⟨rfl, rfl⟩⟩
        cbv
        refine' ⟨[], ⟨⟨rfl, rfl⟩, rfl⟩, _, _, ?x69187, ?s69188, _, hTri _ _ _ _ live07, ?k69189⟩
        case x69187 => cbv <;> rfl
        case s69188 => cbv <;> rfl
        rintro r69190 σ69191 ⟨rfl, rfl⟩
        cbv
        refine' ⟨_, [], rfl, ?c69192, ?s69193⟩
        case s69193 => cbv <;> repeat' first | exact rfl | exact trivial | exact Or.inl rfl | apply And.intro
        case c69192 => rfl
end Go.Proofs.Ytabmdohibkkflaa.AM

namespace Go.Proofs.Ytabmdohibkkflaa.AM
open Go
set_option maxRecDepth 100000
set_option maxHeartbeats 4000000
/-! the program's disk, with a fuse -/
def wok (n u q : Int) (s : Str) : Prop := (0 ≤ q ∧ q < n) ∧ s.length = 256 ∧ (0 < u ∨ u = -1)
abbrev burnt (u : Int) : Int := if 0 < u then u - 1 else u
section
variable (n m k r w f u q : Int) (pg : Ix → Str) (wn : Ix → Int) (ws : Ix → Str)
theorem writeP_ok (s : Str) (hu : -1 ≤ u ∧ u ≤ 9223372036854775807) (hq : wok n u q s) (hm : 0 ≤ m ∧ m ≤ 1000000000000) (hw : 0 ≤ w ∧ w ≤ 1000000000000) :
    TriS Try.prog 23 [.pt 0 0, .i .i64 q, .s s] (diskS 0 1 2 n m k r w f u pg wn ws) (fun x σ => ∃ u' m' w' wn' ws', u' = burnt u ∧ m' = m + 1 ∧ w' = w + 1 ∧ (wn' = fun ix => bif decide (hd ix < m) then wn ix else q) ∧ (ws' = fun ix => bif decide (hd ix < m) then ws ix else s) ∧ x = .i .i64 0 ∧ σ = diskS 0 1 100 n m' m' r w' f u' pg wn' ws') := by
  obtain ⟨hq, hs, hu2⟩ := hq
  refine tri_of TT_ok mixed (OR := ORD23) (fn := Try.f23) (c := body Try.f23) (by kernel_rfl) (by kernel_rfl) (by kernel_rfl) (by kernel_rfl) (by simp [Try.f23]) fun H Tri hH hTri => ?_
  cbv
  refine' ⟨[0, 1, 2], ⟨⟨rfl, rfl⟩, rfl⟩, _, _, ?x16000, ?s16001, _, hTri _ _ _ _ (has_tri _ _ _ _ _ _ _ _ _ _ _), ?k16002⟩
  case x16000 => cbv <;> rfl
  case s16001 => cbv <;> rfl
  rintro r16005 σ16006 ⟨b16003, ⟨rfl, ⟨h16004, rfl⟩⟩⟩
  cbv
  rcases b16003 with _ | _
  · simp only [Bool.false_eq_true, Bool.true_eq_false, reduceCtorEq, false_iff, true_iff, forall_const, not_false_eq_true, false_implies] at h16004
    omega
  · simp only [Bool.false_eq_true, Bool.true_eq_false, reduceCtorEq, false_iff, true_iff, forall_const, not_false_eq_true, false_implies] at h16004
    cbv
    generalize e16008 : H Int _ = v16007
    rw [hH] at e16008
    obtain ⟨e16008, e16008a, e16008b⟩ := castN e16008.symm
    split
    case h_1 => rename_i hh; exact absurd hh (by rw [hH]; simp; omega)
    cbv
    generalize e16010 : H Bool _ = b16009
    rw [hH] at e16010
    replace e16010 := boolN e16010
    refine' ⟨[0, 1, 2], ⟨⟨rfl, rfl⟩, rfl⟩, _, _, ?x16012, ?s16013, _, hTri _ _ _ _ (step_tri _ _ _ _ _ _ _ _ _ _ ?a16011), ?k16014⟩
    case x16012 => cbv <;> rfl
    case s16013 => cbv <;> rfl
    case a16011 => assumption
    rintro r16019 σ16020 ⟨b16015, ⟨v16016, ⟨rfl, ⟨h16017, ⟨h16018, rfl⟩⟩⟩⟩⟩
    cbv
    rcases b16015 with _ | _
    · simp only [Bool.false_eq_true, Bool.true_eq_false, reduceCtorEq, false_iff, true_iff, forall_const, not_false_eq_true, false_implies] at h16017
      omega
    · simp only [Bool.false_eq_true, Bool.true_eq_false, reduceCtorEq, false_iff, true_iff, forall_const, not_false_eq_true, false_implies] at h16017
      cbv
      generalize e16022 : H Int _ = v16021
      rw [hH] at e16022
      replace e16022 := (IntWalk.i64_in _ (by omega)).symm.trans e16022
      generalize e16024 : H Int _ = v16023
      rw [hH] at e16024
      generalize e16026 : (fun ix => bif decide (hd ix < m) then wn ix else q) = c16025
      generalize e16028 : (fun ix => bif decide (hd ix < m) then ws ix else s) = c16027
      refine ⟨by rw [hH]; simp, ?_⟩
      cbv
      refine ⟨by rw [hH]; simp; omega, ?_⟩
      cbv
      refine' ⟨_, _, ⟨_, ⟨_, ⟨_, ⟨_, ⟨_, ⟨?p16029, ⟨?p16030, ⟨?p16031, ⟨?p16032, ⟨?p16033, ⟨rfl, rfl⟩⟩⟩⟩⟩⟩⟩⟩⟩⟩⟩, ?c16034, ?s16035⟩
      case s16035 => cbv <;> repeat' first | exact rfl | exact trivial | exact Or.inr trivial | exact Or.inl rfl | apply And.intro | omega
      case c16034 => rfl
      case p16029 => assumption
      case p16030 => omega
      case p16031 => omega
      case p16032 => rfl
      case p16033 => rfl
theorem writeP_bad (s : Str) (hu : -1 ≤ u ∧ u ≤ 9223372036854775807) (hq : ¬ wok n u q s) :
    TriS Try.prog 23 [.pt 0 0, .i .i64 q, .s s] (diskS 0 1 2 n m k r w f u pg wn ws) (fun x σ => x = .i .i64 1 ∧ σ = diskS 0 1 2 n m k r w f u pg wn ws) := by
  unfold wok at hq
  refine tri_of TT_ok mixed (OR := ORD23) (fn := Try.f23) (c := body Try.f23) (by kernel_rfl) (by kernel_rfl) (by kernel_rfl) (by kernel_rfl) (by simp [Try.f23]) fun H Tri hH hTri => ?_
  cbv
  refine' ⟨[0, 1, 2], ⟨⟨rfl, rfl⟩, rfl⟩, _, _, ?x21000, ?s21001, _, hTri _ _ _ _ (has_tri _ _ _ _ _ _ _ _ _ _ _), ?k21002⟩
  case x21000 => cbv <;> rfl
  case s21001 => cbv <;> rfl
  rintro r21005 σ21006 ⟨b21003, ⟨rfl, ⟨h21004, rfl⟩⟩⟩
  cbv
  rcases b21003 with _ | _
  · simp only [Bool.false_eq_true, Bool.true_eq_false, reduceCtorEq, false_iff, true_iff, forall_const, not_false_eq_true, false_implies] at h21004
    cbv
    refine' ⟨_, _, ⟨rfl, rfl⟩, ?c21007, ?s21008⟩
    case s21008 => cbv <;> repeat' first | exact rfl | exact trivial | exact Or.inr trivial | exact Or.inl rfl | apply And.intro | omega
    case c21007 => rfl
  · simp only [Bool.false_eq_true, Bool.true_eq_false, reduceCtorEq, false_iff, true_iff, forall_const, not_false_eq_true, false_implies] at h21004
    cbv
    generalize e21010 : H Int _ = v21009
    rw [hH] at e21010
    obtain ⟨e21010, e21010a, e21010b⟩ := castN e21010.symm
    split
    · rename_i h21011
      simp only [hH, decide_eq_true_eq] at h21011
      cbv
      generalize e21013 : H Bool _ = b21012
      rw [hH] at e21013
      replace e21013 := boolN e21013
      refine' ⟨_, _, ⟨rfl, rfl⟩, ?c21014, ?s21015⟩
      case s21015 => cbv <;> repeat' first | exact rfl | exact trivial | exact Or.inr trivial | exact Or.inl rfl | apply And.intro | omega
      case c21014 => rfl
    · rename_i h21016
      simp only [hH, decide_eq_false_iff_not, Int.not_lt, Int.not_le] at h21016
      cbv
      generalize e21018 : H Bool _ = b21017
      rw [hH] at e21018
      replace e21018 := boolN e21018
      refine' ⟨[0, 1, 2], ⟨⟨rfl, rfl⟩, rfl⟩, _, _, ?x21020, ?s21021, _, hTri _ _ _ _ (step_tri _ _ _ _ _ _ _ _ _ _ ?a21019), ?k21022⟩
      case x21020 => cbv <;> rfl
      case s21021 => cbv <;> rfl
      case a21019 => assumption
      rintro r21027 σ21028 ⟨b21023, ⟨v21024, ⟨rfl, ⟨h21025, ⟨h21026, rfl⟩⟩⟩⟩⟩
      cbv
      rcases b21023 with _ | _
      · simp only [Bool.false_eq_true, Bool.true_eq_false, reduceCtorEq, false_iff, true_iff, forall_const, not_false_eq_true, false_implies] at h21025
        cbv
        refine' ⟨_, _, ⟨rfl, rfl⟩, ?c21029, ?s21030⟩
        case s21030 => cbv <;> repeat' first | exact rfl | exact trivial | exact Or.inr trivial | exact Or.inl rfl | apply And.intro | omega
        case c21029 => rfl
      · simp only [Bool.false_eq_true, Bool.true_eq_false, reduceCtorEq, false_iff, true_iff, forall_const, not_false_eq_true, false_implies] at h21025
        omega
theorem flushP_ok (hu : -1 ≤ u ∧ u ≤ 9223372036854775807) (hu2 : u ≠ 0) (hm : 0 ≤ m ∧ m ≤ 1000000000000) (hf : 0 ≤ f ∧ f ≤ 1000000000000) (hw : ∀ j, 0 ≤ j → j < m → 0 ≤ wn [j] ∧ wn [j] < n) :
    TriS Try.prog 25 [.pt 0 0] (diskS 0 1 2 n m k r w f u pg wn ws) (fun x σ => ∃ u' f' pg' wn' ws', u' = burnt u ∧ f' = f + 1 ∧ pg' = flushed pg wn ws m.toNat ∧ x = .i .i64 m ∧ σ = diskS 0 1 2 n 0 k r w f' u' pg' wn' ws') := by
  refine tri_of TT_ok mixed (OR := ORD25) (fn := Try.f25) (c := body Try.f25) (by kernel_rfl) (by kernel_rfl) (by kernel_rfl) (by kernel_rfl) (by simp [Try.f25]) fun H Tri hH hTri => ?_
  cbv
  refine' ⟨[0, 1, 2], ⟨⟨rfl, rfl⟩, rfl⟩, _, _, ?x25001, ?s25002, _, hTri _ _ _ _ (step_tri _ _ _ _ _ _ _ _ _ _ ?a25000), ?k25003⟩
  case x25001 => cbv <;> rfl
  case s25002 => cbv <;> rfl
  case a25000 => assumption
  rintro r25008 σ25009 ⟨b25004, ⟨v25005, ⟨rfl, ⟨h25006, ⟨h25007, rfl⟩⟩⟩⟩⟩
  cbv
  rcases b25004 with _ | _
  · simp only [Bool.false_eq_true, Bool.true_eq_false, reduceCtorEq, false_iff, true_iff, forall_const, not_false_eq_true, false_implies] at h25006
    omega
  · simp only [Bool.false_eq_true, Bool.true_eq_false, reduceCtorEq, false_iff, true_iff, forall_const, not_false_eq_true, false_implies] at h25006
    cbv
    refine ⟨0, Int × (Ix → Str), fun ((q, p) : Int × (Ix → Str)) => ⟨[(16, V.i IntKind.i64 m), (15, V.sl 2 0 m 2 false), (2, V.i IntKind.i64 0), (0, V.pt 0 0), (17, .i .i64 q)], [(0, O.st [V.sl 1 0 n 1 false, V.sl 2 0 m 2 false, V.i IntKind.i64 r, V.i IntKind.i64 w, V.i IntKind.i64 f, V.i IntKind.i64 v25005] 91), (1, .ar n [.s p] 9), (2, O.ar k [C.i IntKind.i64 wn, C.s ws] 93)], 120⟩, fun ((q, p) : Int × (Ix → Str)) => (0 ≤ q ∧ q ≤ m) ∧ (p = flushed pg wn ws q.toNat), fun ((q, p) : Int × (Ix → Str)) => (m - q).toNat, ⟨(0, pg), ⟨?p25013, ?p25014⟩, ?s25011⟩, ?r25012⟩
    case s25011 => cbv <;> repeat' first | exact rfl | exact trivial | exact Or.inr trivial | exact Or.inl rfl | apply And.intro | omega
    case p25013 => omega
    case p25014 => rfl
    rintro ⟨q, p⟩ ⟨hq, hp⟩
    cbv
    split
    · rename_i h25015
      simp only [hH, decide_eq_true_eq] at h25015
      cbv
      generalize e25017 : H Int _ = v25016
      rw [hH] at e25017
      generalize e25019 : H Int _ = v25018
      rw [hH] at e25019
      replace e25019 := (IntWalk.i64_in _ (by omega)).symm.trans e25019
      generalize e25021 : H Int _ = v25020
      rw [hH] at e25021
      simp only [Int.zero_add, Int.add_zero] at e25021
      subst e25021
      generalize e25023 : H Int _ = v25022
      rw [hH] at e25023
      simp only [Int.zero_add, Int.add_zero] at e25023
      subst e25023
      generalize e25025 : H (List UInt8) _ = s25024
      rw [hH] at e25025
      generalize e25027 : (fun ix => bif decide (hd ix = v25016) then s25024 else p ix) = c25026
      refine ⟨by rw [hH]; simp; omega, ?_⟩
      cbv
      refine ⟨?q25028, ?_⟩
      case q25028 => grind
      cbv
      generalize e25030 : H Bool _ = b25029
      rw [hH] at e25030
      replace e25030 := boolN e25030
      refine' ⟨(_, _), ⟨⟨?p25031, ?p25032⟩, ?p25033⟩, ?m25034, ?s25035⟩
      case s25035 => cbv <;> repeat' first | exact rfl | exact trivial | exact Or.inr trivial | exact Or.inl rfl | apply And.intro | omega
      case m25034 => simp only []; omega
      case p25031 => omega
      case p25032 => omega
      case p25033 =>
        subst_vars; rw [show (q + 1).toNat = q.toNat + 1 by omega, flushed, Int.toNat_of_nonneg hq.1]; simp [hH]
    · rename_i h25036
      simp only [hH, decide_eq_false_iff_not, Int.not_lt, Int.not_le] at h25036
      cbv
      generalize e25038 : H Int _ = v25037
      rw [hH] at e25038
      replace e25038 := (IntWalk.i64_in _ (by omega)).symm.trans e25038
      generalize e25040 : H Bool _ = b25039
      rw [hH] at e25040
      replace e25040 := boolN e25040
      refine' ⟨[0, 1, 2], ⟨⟨rfl, rfl⟩, rfl⟩, _, _, ?x25042, ?s25043, _, hTri _ _ _ _ (drop_tri _ _ _ _ _ _ _ _ _ _ ?a25041), ?k25044⟩
      case x25042 => cbv <;> rfl
      case s25043 => cbv <;> rfl
      case a25041 => omega
      rintro r25047 σ25048 ⟨x25045, ⟨x25046, ⟨rfl, rfl⟩⟩⟩
      cbv
      refine' ⟨_, _, ⟨_, ⟨_, ⟨_, ⟨_, ⟨_, ⟨?p25049, ⟨?p25050, ⟨?p25051, ⟨rfl, rfl⟩⟩⟩⟩⟩⟩⟩⟩⟩, ?c25052, ?s25053⟩
      case s25053 => cbv <;> repeat' first | exact rfl | exact trivial | exact Or.inr trivial | exact Or.inl rfl | apply And.intro | omega
      case c25052 => rfl
      case p25049 => assumption
      case p25050 => omega
      case p25051 => grind
theorem flushP_dead : TriS Try.prog 25 [.pt 0 0] (diskS 0 1 2 n m k r w f 0 pg wn ws) (fun x σ => x = .i .i64 0 ∧ σ = diskS 0 1 2 n m k r w f 0 pg wn ws) := by
  refine tri_of TT_ok mixed (OR := ORD25) (fn := Try.f25) (c := body Try.f25) (by kernel_rfl) (by kernel_rfl) (by kernel_rfl) (by kernel_rfl) (by simp [Try.f25]) fun H Tri hH hTri => ?_
  cbv
  refine' ⟨[0, 1, 2], ⟨⟨rfl, rfl⟩, rfl⟩, _, _, ?x30001, ?s30002, _, hTri _ _ _ _ (step_tri _ _ _ _ _ _ _ _ _ _ ?a30000), ?k30003⟩
  case x30001 => cbv <;> rfl
  case s30002 => cbv <;> rfl
  case a30000 => omega
  rintro r30008 σ30009 ⟨b30004, ⟨v30005, ⟨rfl, ⟨h30006, ⟨h30007, rfl⟩⟩⟩⟩⟩
  cbv
  rcases b30004 with _ | _
  · simp only [Bool.false_eq_true, Bool.true_eq_false, reduceCtorEq, false_iff, true_iff, forall_const, not_false_eq_true, false_implies] at h30006
    cbv
    refine' ⟨_, _, ⟨rfl, rfl⟩, ?c30010, ?s30011⟩
    case s30011 => cbv <;> repeat' first | exact rfl | exact trivial | exact Or.inr trivial | exact Or.inl rfl | apply And.intro | omega
    case c30010 => rfl
  · simp only [Bool.false_eq_true, Bool.true_eq_false, reduceCtorEq, false_iff, true_iff, forall_const, not_false_eq_true, false_implies] at h30006
    contradiction
theorem readP_bad (hq : ¬ (0 ≤ q ∧ q < n)) : TriS Try.prog 30 [.pt 0 0, .i .i64 q] (diskS 0 1 2 n m k r w f u pg wn ws) (fun x σ => x = .tu [.s [], .i .i64 1] ∧ σ = diskS 0 1 2 n m k r w f u pg wn ws) := by
  refine tri_of2 TT_ok mixed (OR := ORD30) (fn := Try.f30) (c := body Try.f30) (by kernel_rfl) (by kernel_rfl) (by kernel_rfl) (by kernel_rfl) (by simp [Try.f30]) fun H Tri TrI hH hTri hTrI => ?_
  cbv
  refine' ⟨[0, 1, 2], ⟨⟨rfl, rfl⟩, rfl⟩, _, _, ?x33000, ?s33001, _, hTri _ _ _ _ (has_tri _ _ _ _ _ _ _ _ _ _ _), ?k33002⟩
  case x33000 => cbv <;> rfl
  case s33001 => cbv <;> rfl
  rintro r33005 σ33006 ⟨b33003, ⟨rfl, ⟨h33004, rfl⟩⟩⟩
  cbv
  rcases b33003 with _ | _
  · simp only [Bool.false_eq_true, Bool.true_eq_false, reduceCtorEq, false_iff, true_iff, forall_const, not_false_eq_true, false_implies] at h33004
    cbv
    refine' ⟨_, _, ⟨rfl, rfl⟩, ?c33007, ?s33008⟩
    case s33008 => cbv <;> repeat' first | exact rfl | exact trivial | exact Or.inr trivial | exact Or.inl rfl | apply And.intro | omega
    case c33007 => rfl
  · simp only [Bool.false_eq_true, Bool.true_eq_false, reduceCtorEq, false_iff, true_iff, forall_const, not_false_eq_true, false_implies] at h33004
    omega
theorem imageP (hn : 1 ≤ n ∧ n ≤ 1000) : TriS Try.prog 27 [.pt 0 0] (diskS 0 1 2 n m k r w f u pg wn ws) (fun x σ => ∃ c : Ix → Str, (∀ j : Int, 0 ≤ j → j < n → c [j] = pg [j]) ∧ x = .sl 100 0 n 1 false ∧ σ = diskS 0 1 2 n m k r w f u pg wn ws ++ [(100, .ar n [.s c] 9)]) := by
  refine tri_of TT_ok mixed (OR := ORD27) (fn := Try.f27) (c := body Try.f27) (by kernel_rfl) (by kernel_rfl) (by kernel_rfl) (by kernel_rfl) (by simp [Try.f27]) fun H Tri hH hTri => ?_
  cbv
  refine' ⟨[], ⟨⟨rfl, rfl⟩, rfl⟩, _, _, ?x36001, ?s36002, _, hTri _ _ _ _ (sclone _ _ ?a36000), ?k36003⟩
  case x36001 => cbv <;> rfl
  case s36002 => cbv <;> rfl
  case a36000 => omega
  rintro r36004 σ36005 ⟨rfl, rfl⟩
  cbv
  generalize e36007 : (fun ix => pg ((hd ix + 0) :: ix.tail)) = c36006
  refine' ⟨_, _, ⟨_, ⟨?p36008, ⟨rfl, rfl⟩⟩⟩, ?c36009, ?s36010⟩
  case s36010 => cbv <;> repeat' first | exact rfl | exact trivial | exact Or.inr trivial | exact Or.inl rfl | apply And.intro | omega
  case c36009 => rfl
  case p36008 => intros; subst_vars; simp [AM.hd]; done
theorem waitsP (hm : 0 ≤ m ∧ m ≤ 1000000000) : TriS Try.prog 39 [.pt 0 0] (diskS 0 1 2 n m k r w f u pg wn ws) (fun x σ => ∃ c, (∀ j, 0 ≤ j → j < m → c [j] = wn [j]) ∧ x = .sl 100 0 m 1 false ∧ σ = diskS 0 1 2 n m k r w f u pg wn ws ++ [(100, .ar m [.i .i64 c] 3)]) := by
  refine tri_of TT_ok mixed (OR := ORD39) (fn := Try.f39) (c := body Try.f39) (by kernel_rfl) (by kernel_rfl) (by kernel_rfl) (by kernel_rfl) (by simp [Try.f39]) fun H Tri hH hTri => ?_
  cbv
  refine ⟨0, Int × (Ix → Int), fun ((q, c) : Int × (Ix → Int)) => ⟨[(12, V.i IntKind.i64 m), (11, V.sl 2 0 m 2 false), (2, V.l 0 [] true), (3, .sl 101 0 q 1 false), (13, .i .i64 q)], [(0, O.st [V.sl 1 0 n 1 false, V.sl 2 0 m 2 false, V.i IntKind.i64 r, V.i IntKind.i64 w, V.i IntKind.i64 f, V.i IntKind.i64 u] 91), (1, O.ar n [C.s pg] 9), (2, O.ar k [C.i IntKind.i64 wn, C.s ws] 93), (101, .ar q [.i .i64 c] 3)], 102⟩, fun ((q, c) : Int × (Ix → Int)) => (0 ≤ q ∧ q ≤ m) ∧ (∀ j, 0 ≤ j → j < q → c [j] = wn [j]), fun ((q, c) : Int × (Ix → Int)) => (m - q).toNat, ⟨(0, wn), ⟨?p39003, ?p39004⟩, ?s39001⟩, ?r39002⟩
  case s39001 => cbv <;> repeat' first | exact rfl | exact trivial | exact Or.inr trivial | exact Or.inl rfl | apply And.intro | omega
  case p39003 => omega
  case p39004 => omega
  rintro ⟨q, c⟩ ⟨hq, hc⟩
  cbv
  split
  · rename_i h39005
    simp only [hH, decide_eq_true_eq] at h39005
    cbv
    generalize e39007 : H Int _ = v39006
    rw [hH] at e39007
    replace e39007 := (IntWalk.i64_in _ (by omega)).symm.trans e39007
    generalize e39009 : H Int _ = v39008
    rw [hH] at e39009
    generalize e39011 : H Int _ = v39010
    rw [hH] at e39011
    generalize e39013 : H Int _ = v39012
    rw [hH] at e39013
    simp only [Int.zero_add, Int.add_zero] at e39013
    subst e39013
    generalize e39015 : H (List UInt8) _ = s39014
    rw [hH] at e39015
    generalize e39017 : (fun ix => bif decide (hd ix < q) then c ix else v39010) = c39016
    refine ⟨by rw [hH]; simp; omega, ?_⟩
    cbv
    refine ⟨by rw [hH]; simp, ?_⟩
    cbv
    refine ⟨by rw [hH]; simp; omega, ?_⟩
    cbv
    generalize e39019 : H Bool _ = b39018
    rw [hH] at e39019
    replace e39019 := boolN e39019
    refine' ⟨(_, _), ⟨⟨?p39020, ?p39021⟩, ?p39022⟩, ?m39023, ?s39024⟩
    case s39024 => cbv <;> repeat' first | exact rfl | exact trivial | exact Or.inr trivial | exact Or.inl rfl | apply And.intro | omega
    case m39023 => simp only []; omega
    case p39020 => omega
    case p39021 => omega
    case p39022 => (intro j _ _; subst_vars; simp only [hH, AM.hd, Int.zero_add, Bool.cond_decide]; grind)
  · rename_i h39025
    simp only [hH, decide_eq_false_iff_not, Int.not_lt, Int.not_le] at h39025
    cbv
    generalize e39027 : H Bool _ = b39026
    rw [hH] at e39027
    replace e39027 := boolN e39027
    refine' ⟨_, _, ⟨_, ⟨?p39028, ⟨rfl, rfl⟩⟩⟩, ?c39029, ?s39030⟩
    case s39030 => cbv <;> repeat' first | exact rfl | exact trivial | exact Or.inr trivial | exact Or.inl rfl | apply And.intro | omega
    case c39029 => rfl
    case p39028 => grind
end
end Go.Proofs.Ytabmdohibkkflaa.AM

namespace Go.Proofs.Ytabmdohibkkflaa.AM
open Go
set_option maxRecDepth 100000
/-- the numbers of a row -/
def rng (n : Int) (f : Ix → Int) : List Int := (List.range n.toNat).map fun (j : Nat) => f [(j : Int)]
theorem rng_len (n : Int) (f : Ix → Int) : (rng n f).length = n.toNat := by simp [rng]
theorem rng_get {n : Int} {f : Ix → Int} {j : Nat} (h : j < n.toNat) : (rng n f)[j]? = some (f [(j : Int)]) := by simp [rng, h]
def sorted (l : List Int) : List Int := l.mergeSort fun x y => decide (x ≤ y)
theorem sorted_len (l : List Int) : (sorted l).length = l.length := List.length_mergeSort l
/-- slices.Sort of whole numbers -/
theorem sort_tri (n : Int) (f : Ix → Int) (hn : n < 4611686018427387904) : TriS Try.prog 102 [.sl 0 0 n 1 false] [(0, .ar n [.i .i64 f] 3)]
    (fun r σ => ∃ g : Ix → Int, (∀ j : Nat, j < n.toNat → g [(j : Int)] = (sorted (rng n f)).getD j 0) ∧ r = .tu [] ∧ σ = [(0, .ar n [.i .i64 g] 3)]) := by
  refine ⟨by kernel_rfl, fun X g w vs hX hob hvs => ?_⟩
  match vs, hvs with
  | [v], hvs =>
  have hv : RSl (g 0) 0 n 1 false v := hvs.1
  have ho := hob.objs 0 _ rfl
  obtain ⟨h1, h2, h3⟩ := ho
  obtain ⟨a, len, cap, rfl, hlen, h4⟩ := hv
  have hpost : ∀ {w' : World} {g2 : Ix → Int}, Kp (mine [(0, O.ar n [.i .i64 f] 3)] g) w w' → Ob ⟨mine [(0, O.ar n [.i .i64 f] 3)] g, X, g⟩ g w' [(0, .ar n [.i .i64 g2] 3)] →
      (∀ j : Nat, j < n.toNat → g2 [(j : Int)] = (sorted (rng n f)).getD j 0) → ∃ r σ' g' v, (∃ g : Ix → Int, (∀ j : Nat, j < n.toNat → g [(j : Int)] = (sorted (rng n f)).getD j 0) ∧ r = V.tu [] ∧ σ' = [(0, O.ar n [.i .i64 g] 3)]) ∧ Ending.returned (.tuple #[]) = .returned v ∧
        RV g' w' (own ⟨mine [(0, O.ar n [.i .i64 f] 3)] g, X, g⟩ σ' g') r v ∧ Ob ⟨mine [(0, O.ar n [.i .i64 f] 3)] g, X, g⟩ g' w' σ' ∧ Kp (mine [(0, O.ar n [.i .i64 f] 3)] g) w w' ∧
        (∀ b, mine σ' g' b → mine [(0, O.ar n [.i .i64 f] 3)] g b ∨ w.heap.size ≤ b) ∧ (∀ i, i < 100 → (look i σ').isSome = true → g' i = g i) ∧ closed r σ' = true := by
    intro w' g2 hk hob' hg
    refine ⟨_, _, g, _, ⟨g2, hg, rfl, rfl⟩, rfl, ⟨#[], rfl, trivial⟩, hob', hk, fun b hb => .inl ?_, fun _ _ _ => rfl, rfl⟩
    obtain ⟨i, hi, h5⟩ := hb
    refine ⟨i, ?_, h5⟩
    rw [look_cons] at hi ⊢
    split at hi
    · rename_i e; rw [if_pos e]; rfl
    · simp [look] at hi
  by_cases h0 : len = 0
  · subst h0
    refine (Try.slices_Sort_int_none a cap w).mono ?_
    rintro e w' ⟨rfl, rfl⟩
    exact hpost (Kp.refl _ _) hob fun j hj => by omega
  rcases h4 with ⟨h4, -⟩ | ⟨hvi, l, hl, rfl, hlc, hll, -, hcap⟩
  · exact absurd h4 h0
  obtain rfl : l = 0 := by omega
  rcases h3 with ⟨h3, -⟩ | ⟨-, ⟨c, hc, hcs, hcl⟩, hr⟩
  · rw [hvi] at h3; cases h3
  have hsz : (g 0).sz = 1 := by
    rcases h2 with h2 | ⟨h2, -⟩
    · omega
    · exact h2.symm
  rw [hsz] at hr hcl
  have hln : (g 0).ln = len := by omega
  have hnt : n.toNat = len := by omega
  have hb : (g 0).bl < w.heap.size := (Array.getElem?_eq_some_iff.1 hc).1
  have hrl : (rng n f).length = len := by rw [rng_len, hnt]
  have hcell : ∀ j, j < len → c[j]? = some (.int .i64 (f [(j : Int)])) := fun j hj => by
    obtain ⟨⟨v, h5, h6⟩, -⟩ := hr j (by omega)
    obtain rfl : v = _ := h6
    rw [Nat.mul_one] at h5
    simpa [World.cell?, hc] using h5
  have hh : Go.Sort.Holds (Value.int .i64) w (g 0).bl 0 (rng n f).toArray := by
    refine Go.holds_of_blockI hc ?_
    apply List.ext_getElem?
    intro j
    by_cases hj : j < len
    · rw [List.getElem?_take_of_lt (by rw [hrl]; exact hj), Array.getElem?_toList, hcell j hj, List.getElem?_map, rng_get (by omega)]
      rfl
    · rw [List.getElem?_take_eq_none (by rw [hrl]; omega), List.getElem?_eq_none (by simp [hrl]; omega)]
  have hcall := Try.slices_Sort_int (g 0).bl 0 cap (rng n f) w hh hb (by rw [hrl]; omega)
  rw [hrl] at hcall
  simp only [Nat.zero_mul] at *
  refine hcall.mono ?_
  rintro e w' ⟨rfl, k, os, rfl⟩
  have hgb := Go.grownBy_sortedI (w := w) (g := (g 0).bl) (n := k) (os := os) ((rng n f).mergeSort fun x y => decide (x ≤ y)).toArray
  have hhp := Go.heap_sortedI (w := w) (g := (g 0).bl) (n := k) (os := os) ((rng n f).mergeSort fun x y => decide (x ≤ y)).toArray hc
  generalize hw' : Go.Sort.grow (Go.Sort.putRow (Value.int .i64) (Go.Sort.ahead w k) (g 0).bl 0 ((rng n f).mergeSort fun x y => decide (x ≤ y)).toArray) os = w' at hgb hhp
  have hmine : mine [(0, O.ar n [.i .i64 f] 3)] g (g 0).bl := ⟨0, rfl, hvi, rfl⟩
  obtain ⟨q1, q2, q3, q4, q5⟩ := hgb
  refine hpost (g2 := fun ix => (sorted (rng n f)).getD (hd ix).toNat 0) ⟨q1, q2, q3, q4, fun b hb2 hnm => q5 b hb2 fun e => hnm (by cases e; exact hmine)⟩ ⟨fun i o hi => ?_, fun i j hi hj _ _ _ => ?_⟩ fun j hj => by simp [hd]
  · rw [look_cons] at hi
    split at hi
    · rename_i e; subst e; cases hi
      refine ⟨h1, .inr ⟨hsz.symm, by omega⟩, .inr ⟨hvi, ⟨_, hhp, ?_, ?_⟩, fun j hj => ?_⟩⟩
      · simp [Go.Sort.putCells, hcs]
      · simp only [Go.Sort.putCells, Array.size_mapIdx, hsz]; omega
      · refine ⟨⟨_, ?_, rfl⟩, trivial⟩
        have hjs : j < c.size := by omega
        have hjl : j < ((rng n f).mergeSort fun x y => decide (x ≤ y)).length := by rw [List.length_mergeSort, hrl]; omega
        rw [hsz, Nat.mul_one]
        simp only [World.cell?, hhp, Option.isSome_none, Bool.false_eq_true, if_false, Go.Sort.putCells, Array.getElem?_mapIdx, Array.getElem?_eq_getElem hjs, Option.map_some, List.size_toArray, Nat.zero_le, true_and, Nat.zero_add, hjl, if_true, Nat.sub_zero]
        simp [hd, sorted, hjl]
    · simp [look] at hi
  · rw [look_cons] at hi hj
    split at hi
    · split at hj
      · rename_i e1 e2; omega
      · simp [look] at hj
    · simp [look] at hi
end Go.Proofs.Ytabmdohibkkflaa.AM

namespace Go.Proofs.Ytabmdohibkkflaa.AM
open Go
set_option maxRecDepth 100000
set_option maxHeartbeats 4000000
/-! slices.Sorted(slices.Values(l)) of whole numbers -/
theorem values_tri (n : Int) (f : Ix → Int) (fl : Bool) : TriS Try.prog 76 [.l n [.i .i64 f] fl] [] (fun r σ => r = .fn (.func 103) [.pt 100 0] ∧ σ = [(100, .st [.l n [.i .i64 f] fl] 48)]) := by
  refine tri_of TT_ok mixed (OR := ORD76) (fn := Try.f76) (c := body Try.f76) (by kernel_rfl) (by kernel_rfl) (by kernel_rfl) (by kernel_rfl) (by simp [Try.f76]) fun H Tri hH hTri => ?_
  cbv
  refine' ⟨_, _, ⟨rfl, rfl⟩, ?c11000, ?s11001⟩
  case s11001 => cbv <;> repeat' first | exact rfl | exact trivial | exact Or.inr trivial | exact Or.inl rfl | apply And.intro | omega | (split <;> first | exact trivial | (exfalso; simp_all; done))
  case c11000 => rfl
/-- what a round of AppendSeq is handed -/
def appA (l : Nat) (rf : LoopState → Option Code → Obj) (vs : List Value) (n : Nat) (x : V) : Sto :=
  [(n, .rw l rf .ready none [.pt (n + 1) 0] vs), (n + 1, .st [x] 48)]
theorem values_it (n : Int) (f : Ix → Int) (fl : Bool) (hn : 0 ≤ n ∧ n ≤ 1000000000) (l : Nat) (rf : LoopState → Option Code → Obj) (vs : List Value) (J : YSp)
    (hJ : ∀ (j : Int) (c : Ix → Int) (x : Int), 0 ≤ j → j < n → (∀ i, 0 ≤ i → i < j → c [i] = f [i]) → x = f [j] → J [.i .i64 x] (appA l rf vs 0 (.sl 2 0 j 1 false) ++ [(2, .ar j [.i .i64 c] 3)])
      (fun r σ => ∃ (c' : Ix → Int) (j' : Int), j' = j + 1 ∧ (∀ i, 0 ≤ i → i < j' → c' [i] = f [i]) ∧ r = .b true ∧ σ = appA l rf vs 0 (.sl 100 0 j' 1 false) ++ [(100, .ar j' [.i .i64 c'] 3)])) :
    TriIS Try.prog l J 103 [.fn (.yield l) [], .pt 0 0] ([(0, .st [.l n [.i .i64 f] fl] 48)] ++ appA l rf vs 1 (.l 0 [] true))
      (fun x σ => ∃ c : Ix → Int, (∀ j, 0 ≤ j → j < n → c [j] = f [j]) ∧ x = .tu [] ∧ σ = [(0, .st [.l n [.i .i64 f] fl] 48)] ++ appA l rf vs 1 (.sl 100 0 n 1 false) ++ [(100, .ar n [.i .i64 c] 3)]) := by
  refine tri_it TT_ok mixed (OR := ORD103) (fn := Try.f103) (c := body Try.f103) (by kernel_rfl) (by kernel_rfl) (by kernel_rfl) (by kernel_rfl) (by simp [Try.f103]) fun H Tri Yl hH hTri hYl => ?_
  cbv
  refine ⟨0, Int × (Ix → Int), fun ((j, c) : Int × (Ix → Int)) => ⟨[(6, V.i IntKind.i64 n), (5, V.l n [C.i IntKind.i64 f] fl), (0, V.fn (Fn.yield l) []), (7, .i .i64 j)], [(0, O.st [V.l n [C.i IntKind.i64 f] fl] 48), (1, O.rw l rf LoopState.ready none [V.pt 2 0] vs), (2, .st [.sl 103 0 j 1 false] 48), (103, .ar j [.i .i64 c] 3)], 104⟩, fun ((j, c) : Int × (Ix → Int)) => (0 ≤ j ∧ j ≤ n) ∧ (∀ i, 0 ≤ i → i < j → c [i] = f [i]), fun ((j, c) : Int × (Ix → Int)) => (n - j).toNat, ⟨(0, f), ⟨?p21003, ?p21004⟩, ?s21001⟩, ?r21002⟩
  case s21001 => cbv <;> repeat' first | exact rfl | exact trivial | exact Or.inr trivial | exact Or.inl rfl | apply And.intro | omega | (split <;> first | exact trivial | (exfalso; simp_all; done))
  case p21003 => omega
  case p21004 => omega
  rintro ⟨j, c⟩ ⟨hj, hc⟩
  cbv
  split
  · rename_i h21005
    simp only [hH, decide_eq_true_eq] at h21005
    cbv
    generalize e21007 : H Int _ = v21006
    rw [hH] at e21007
    generalize e21009 : (fun ix => f (j :: ix)) = c21008
    refine ⟨by rw [hH]; simp; omega, ?_⟩
    cbv
    generalize e21011 : H Bool _ = b21010
    rw [hH] at e21011
    replace e21011 := boolN e21011
    refine' ⟨[1, 2, 103], ⟨⟨rfl, rfl⟩, rfl⟩, _, _, ?x21016, ?s21017, _, hYl _ _ _ (hJ _ _ _ ?a21012 ?a21013 ?a21014 ?a21015), ?k21018⟩
    case x21016 => cbv <;> rfl
    case s21017 => cbv <;> rfl
    case a21012 => omega
    case a21013 => assumption
    case a21014 => assumption
    case a21015 => omega
    rintro r21023 σ21024 ⟨x21019, ⟨v21020, ⟨h21021, ⟨h21022, ⟨rfl, rfl⟩⟩⟩⟩⟩
    cbv
    generalize e21026 : H Int _ = v21025
    rw [hH] at e21026
    replace e21026 := (IntWalk.i64_in _ (by omega)).symm.trans e21026
    refine' ⟨(_, _), ⟨⟨?p21027, ?p21028⟩, ?p21029⟩, ?m21030, ?s21031⟩
    case s21031 => cbv <;> repeat' first | exact rfl | exact trivial | exact Or.inr trivial | exact Or.inl rfl | apply And.intro | omega | (split <;> first | exact trivial | (exfalso; simp_all; done))
    case m21030 => simp only []; omega
    case p21027 => omega
    case p21028 => omega
    case p21029 => simp_all; done
  · rename_i h21032
    simp only [hH, decide_eq_false_iff_not, Int.not_lt, Int.not_le] at h21032
    cbv
    generalize e21034 : H Bool _ = b21033
    rw [hH] at e21034
    replace e21034 := boolN e21034
    refine' ⟨_, _, ⟨_, ⟨?p21035, ⟨rfl, rfl⟩⟩⟩, ?c21036, ?s21037⟩
    case s21037 => cbv <;> repeat' first | exact rfl | exact trivial | exact Or.inr trivial | exact Or.inl rfl | apply And.intro | omega | (split <;> first | exact trivial | (exfalso; simp_all; done))
    case c21036 => rfl
    case p21035 => grind
theorem appendseq_tri (n : Int) (f : Ix → Int) (fl : Bool) (hn : 0 ≤ n ∧ n ≤ 1000000000) : TriS Try.prog 113 [.l 0 [] true, .fn (.func 103) [.pt 0 0]] [(0, .st [.l n [.i .i64 f] fl] 48)]
    (fun x σ => ∃ c : Ix → Int, (∀ j, 0 ≤ j → j < n → c [j] = f [j]) ∧ x = .sl 100 0 n 1 false ∧ σ = [(0, .st [.l n [.i .i64 f] fl] 48), (100, .ar n [.i .i64 c] 3)]) := by
  refine tri_of2 TT_ok mixed (OR := ORD113) (fn := Try.f113) (c := body Try.f113) (by kernel_rfl) (by kernel_rfl) (by kernel_rfl) (by kernel_rfl) (by simp [Try.f113]) fun H Tri TrI hH hTri hTrI => ?_
  cbv
  refine ⟨[2], ?_⟩
  cbv
  intro l rf vs
  refine ⟨fun xs σ R => ∃ (j : Int) (c : Ix → Int) (x : Int), (0 ≤ j ∧ j < n) ∧ (∀ i, 0 ≤ i → i < j → c [i] = f [i]) ∧ x = f [j] ∧ xs = [.i .i64 x] ∧ σ = appA l rf vs 0 (.sl 2 0 j 1 false) ++ [(2, .ar j [.i .i64 c] 3)] ∧ R = (fun r σ => ∃ (c' : Ix → Int) (j' : Int), j' = j + 1 ∧ (∀ i, 0 ≤ i → i < j' → c' [i] = f [i]) ∧ r = .b true ∧ σ = appA l rf vs 0 (.sl 100 0 j' 1 false) ++ [(100, .ar j' [.i .i64 c'] 3)]), ?_, ?_⟩
  · rintro _ _ _ ⟨j, c, x, hj, hc, hx, rfl, rfl, rfl⟩
    refine ⟨0, ?_⟩
    cbv
    generalize e33001 : H Int _ = v33000
    rw [hH] at e33001
    generalize e33003 : (fun ix => bif decide (hd ix < j) then c ix else x) = c33002
    refine ⟨by rw [hH]; simp, ?_⟩
    cbv
    refine ⟨by rw [hH]; simp; omega, ?_⟩
    cbv
    refine' ⟨_, _, ⟨_, ⟨_, ⟨?p33004, ⟨?p33005, ⟨rfl, rfl⟩⟩⟩⟩⟩, ?c33006, ?s33007⟩
    case s33007 => cbv <;> repeat' first | exact rfl | exact trivial | exact Or.inr trivial | exact Or.inl rfl | apply And.intro | omega | (split <;> first | exact trivial | (exfalso; simp_all; done))
    case c33006 => rfl
    case p33004 => omega
    case p33005 => (intro j _ _; subst_vars; simp only [hH, AM.hd, Int.zero_add, Bool.cond_decide]; grind)
  · cbv
    refine' ⟨[0, 101, 100], ⟨⟨rfl, rfl⟩, rfl⟩, _, _, ?x34002, ?s34003, _, hTrI _ _ _ _ _ _ (by kernel_rfl) (values_it _ _ _ ?a34000 _ _ _ _ ?a34001), ?k34004⟩
    case x34002 => cbv <;> rfl
    case s34003 => cbv <;> rfl
    case a34000 => assumption
    case a34001 => grind
    rintro r34007 σ34008 ⟨x34005, ⟨h34006, ⟨rfl, rfl⟩⟩⟩
    cbv
    refine' ⟨_, _, ⟨_, ⟨?p34009, ⟨rfl, rfl⟩⟩⟩, ?c34010, ?s34011⟩
    case s34011 => cbv <;> repeat' first | exact rfl | exact trivial | exact Or.inr trivial | exact Or.inl rfl | apply And.intro | omega | (split <;> first | exact trivial | (exfalso; simp_all; done))
    case c34010 => rfl
    case p34009 => assumption
theorem collect_tri (n : Int) (f : Ix → Int) (fl : Bool) (hn : 0 ≤ n ∧ n ≤ 1000000000) : TriS Try.prog 101 [.fn (.func 103) [.pt 0 0]] [(0, .st [.l n [.i .i64 f] fl] 48)]
    (fun x σ => ∃ c : Ix → Int, (∀ j, 0 ≤ j → j < n → c [j] = f [j]) ∧ x = .sl 100 0 n 1 false ∧ σ = [(0, .st [.l n [.i .i64 f] fl] 48), (100, .ar n [.i .i64 c] 3)]) := by
  refine tri_of TT_ok mixed (OR := ORD101) (fn := Try.f101) (c := body Try.f101) (by kernel_rfl) (by kernel_rfl) (by kernel_rfl) (by kernel_rfl) (by simp [Try.f101]) fun H Tri hH hTri => ?_
  cbv
  refine' ⟨[0], ⟨⟨rfl, rfl⟩, rfl⟩, _, _, ?x38001, ?s38002, _, hTri _ _ _ _ (appendseq_tri _ _ _ ?a38000), ?k38003⟩
  case x38001 => cbv <;> rfl
  case s38002 => cbv <;> rfl
  case a38000 => assumption
  rintro r38006 σ38007 ⟨x38004, ⟨h38005, ⟨rfl, rfl⟩⟩⟩
  cbv
  refine' ⟨_, _, ⟨_, ⟨?p38008, ⟨rfl, rfl⟩⟩⟩, ?c38009, ?s38010⟩
  case s38010 => cbv <;> repeat' first | exact rfl | exact trivial | exact Or.inr trivial | exact Or.inl rfl | apply And.intro | omega | (split <;> first | exact trivial | (exfalso; simp_all; done))
  case c38009 => rfl
  case p38008 => assumption
theorem rng_congr {n : Int} {f g : Ix → Int} (h : ∀ j, 0 ≤ j → j < n → g [j] = f [j]) : rng n g = rng n f := by
  unfold rng
  apply List.map_congr_left
  intro j hj
  have := List.mem_range.1 hj
  exact h j (by omega) (by omega)
theorem sorted_tri (n : Int) (f : Ix → Int) (fl : Bool) (hn : 0 ≤ n ∧ n ≤ 1000000000) : TriS Try.prog 75 [.fn (.func 103) [.pt 0 0]] [(0, .st [.l n [.i .i64 f] fl] 48)]
    (fun x σ => ∃ c : Ix → Int, (∀ j : Nat, j < n.toNat → c [(j : Int)] = (sorted (rng n f)).getD j 0) ∧ x = .sl 100 0 n 1 false ∧ σ = [(0, .st [.l n [.i .i64 f] fl] 48), (100, .ar n [.i .i64 c] 3)]) := by
  refine tri_of TT_ok mixed (OR := ORD75) (fn := Try.f75) (c := body Try.f75) (by kernel_rfl) (by kernel_rfl) (by kernel_rfl) (by kernel_rfl) (by simp [Try.f75]) fun H Tri hH hTri => ?_
  cbv
  refine' ⟨[0], ⟨⟨rfl, rfl⟩, rfl⟩, _, _, ?x48001, ?s48002, _, hTri _ _ _ _ (collect_tri _ _ _ ?a48000), ?k48003⟩
  case x48001 => cbv <;> rfl
  case s48002 => cbv <;> rfl
  case a48000 => assumption
  rintro r48006 σ48007 ⟨x48004, ⟨h48005, ⟨rfl, rfl⟩⟩⟩
  cbv
  refine' ⟨[200], ⟨⟨rfl, rfl⟩, rfl⟩, _, _, ?x48009, ?s48010, _, hTri _ _ _ _ (sort_tri _ _ ?a48008), ?k48011⟩
  case x48009 => cbv <;> rfl
  case s48010 => cbv <;> rfl
  case a48008 => omega
  rintro r48014 σ48015 ⟨x48012, ⟨h48013, ⟨rfl, rfl⟩⟩⟩
  cbv
  refine' ⟨_, _, ⟨_, ⟨?p48016, ⟨rfl, rfl⟩⟩⟩, ?c48017, ?s48018⟩
  case s48018 => cbv <;> repeat' first | exact rfl | exact trivial | exact Or.inr trivial | exact Or.inl rfl | apply And.intro | omega | (split <;> first | exact trivial | (exfalso; simp_all; done))
  case c48017 => rfl
  case p48016 =>
    rw [← rng_congr (by assumption)]; assumption
end Go.Proofs.Ytabmdohibkkflaa.AM

namespace Go.Proofs.Ytabmdohibkkflaa.AM
open Go
set_option maxRecDepth 100000
set_option maxHeartbeats 4000000
/-! crashes of the program's disk -/
theorem index_tri (m x : Int) (f : Ix → Int) (fl : Bool) (hm : 0 ≤ m ∧ m ≤ 1000000000) : TriS Try.prog 77 [.l m [.i .i64 f] fl, .i .i64 x] []
    (fun r σ => ∃ v : Int, ((0 ≤ v ∧ ∃ j, 0 ≤ j ∧ j < m ∧ f [j] = x) ∨ (v = -1 ∧ ∀ j, 0 ≤ j → j < m → f [j] ≠ x)) ∧ r = .i .i64 v ∧ σ = []) := by
  refine tri_of TT_ok mixed (OR := ORD77) (fn := Try.f77) (c := body Try.f77) (by kernel_rfl) (by kernel_rfl) (by kernel_rfl) (by kernel_rfl) (by simp [Try.f77]) fun H Tri hH hTri => ?_
  cbv
  refine ⟨0, Int, fun (j : Int) => ⟨[(7, V.i IntKind.i64 m), (0, V.l m [C.i IntKind.i64 f] fl), (1, V.i IntKind.i64 x), (8, .i .i64 j), (4, V.i IntKind.i64 0)], [], 100⟩, fun (j : Int) => (0 ≤ j ∧ j ≤ m) ∧ (∀ i, 0 ≤ i → i < j → f [i] ≠ x), fun (j : Int) => (m - j).toNat, ⟨0, ⟨?p12003, ?p12004⟩, ?s12001⟩, ?r12002⟩
  case s12001 => cbv <;> repeat' first | exact rfl | exact trivial | exact Or.inr trivial | exact Or.inl rfl | apply And.intro | omega | (split <;> first | exact trivial | (exfalso; simp_all; done))
  case p12003 => omega
  case p12004 => omega
  rintro j ⟨hj, hc⟩
  cbv
  split
  · rename_i h12005
    simp only [hH, decide_eq_true_eq] at h12005
    cbv
    generalize e12007 : H Int _ = v12006
    simp only [hH, Int.zero_add, Int.add_zero] at e12007
    generalize e12009 : (fun ix => f (j :: ix)) = c12008
    refine ⟨by rw [hH]; simp; omega, ?_⟩
    cbv
    split
    · rename_i h12010
      simp only [hH, decide_eq_true_eq] at h12010
      cbv
      generalize e12012 : H Bool _ = b12011
      simp only [hH] at e12012
      replace e12012 := boolN e12012
      generalize e12014 : H Bool _ = b12013
      simp only [hH] at e12014
      replace e12014 := boolN e12014
      refine' ⟨_, _, ⟨_, ⟨?p12015, ⟨rfl, rfl⟩⟩⟩, ?c12016, ?s12017⟩
      case s12017 => cbv <;> repeat' first | exact rfl | exact trivial | exact Or.inr trivial | exact Or.inl rfl | apply And.intro | omega | (split <;> first | exact trivial | (exfalso; simp_all; done))
      case c12016 => rfl
      case p12015 => grind
    · rename_i h12018
      simp only [hH, decide_eq_false_iff_not, Int.not_lt, Int.not_le] at h12018
      cbv
      generalize e12020 : H Int _ = v12019
      simp only [hH, Int.zero_add, Int.add_zero] at e12020
      replace e12020 := (IntWalk.i64_in _ (by omega)).symm.trans e12020
      generalize e12022 : H Bool _ = b12021
      simp only [hH] at e12022
      replace e12022 := boolN e12022
      generalize e12024 : H Bool _ = b12023
      simp only [hH] at e12024
      replace e12024 := boolN e12024
      refine' ⟨_, ⟨⟨?p12025, ?p12026⟩, ?p12027⟩, ?m12028, ?s12029⟩
      case s12029 => cbv <;> repeat' first | exact rfl | exact trivial | exact Or.inr trivial | exact Or.inl rfl | apply And.intro | omega | (split <;> first | exact trivial | (exfalso; simp_all; done))
      case m12028 => simp only []; omega
      case p12025 => omega
      case p12026 => omega
      case p12027 => grind
  · rename_i h12030
    simp only [hH, decide_eq_false_iff_not, Int.not_lt, Int.not_le] at h12030
    cbv
    generalize e12032 : H Bool _ = b12031
    simp only [hH] at e12032
    replace e12032 := boolN e12032
    refine' ⟨_, _, ⟨_, ⟨?p12033, ⟨rfl, rfl⟩⟩⟩, ?c12034, ?s12035⟩
    case s12035 => cbv <;> repeat' first | exact rfl | exact trivial | exact Or.inr trivial | exact Or.inl rfl | apply And.intro | omega | (split <;> first | exact trivial | (exfalso; simp_all; done))
    case c12034 => rfl
    case p12033 => grind
theorem contains_tri (m x : Int) (f : Ix → Int) (fl : Bool) (hm : 0 ≤ m ∧ m ≤ 1000000000) : TriS Try.prog 57 [.l m [.i .i64 f] fl, .i .i64 x] []
    (fun r σ => ∃ b : Bool, (b = true ↔ ∃ j, 0 ≤ j ∧ j < m ∧ f [j] = x) ∧ r = .b b ∧ σ = []) := by
  refine tri_of TT_ok mixed (OR := ORD57) (fn := Try.f57) (c := body Try.f57) (by kernel_rfl) (by kernel_rfl) (by kernel_rfl) (by kernel_rfl) (by simp [Try.f57]) fun H Tri hH hTri => ?_
  cbv
  refine' ⟨[], ⟨⟨rfl, rfl⟩, rfl⟩, _, _, ?x17001, ?s17002, _, hTri _ _ _ _ (index_tri _ _ _ _ ?a17000), ?k17003⟩
  case x17001 => cbv <;> rfl
  case s17002 => cbv <;> rfl
  case a17000 => assumption
  rintro r17006 σ17007 ⟨v17004, ⟨h17005, ⟨rfl, rfl⟩⟩⟩
  cbv
  generalize e17009 : H Bool _ = b17008
  simp only [hH] at e17009
  replace e17009 := boolN e17009
  refine' ⟨_, _, ⟨_, ⟨?p17010, ⟨rfl, rfl⟩⟩⟩, ?c17011, ?s17012⟩
  case s17012 => cbv <;> repeat' first | exact rfl | exact trivial | exact Or.inr trivial | exact Or.inl rfl | apply And.intro | omega | (split <;> first | exact trivial | (exfalso; simp_all; done))
  case c17011 => rfl
  case p17010 => grind
theorem mem_rng {K x : Int} {kf : Ix → Int} : x ∈ rng K kf ↔ ∃ j, 0 ≤ j ∧ j < K ∧ kf [j] = x := by
  constructor
  · intro h
    obtain ⟨j, hj, rfl⟩ := List.mem_map.1 h
    have := List.mem_range.1 hj
    exact ⟨j, by omega, by omega, rfl⟩
  · rintro ⟨j, h0, h1, rfl⟩
    refine List.mem_map.2 ⟨j.toNat, List.mem_range.2 (by omega), ?_⟩
    rw [Int.toNat_of_nonneg h0]
theorem contains_mem (m x : Int) (f : Ix → Int) (fl : Bool) (hm : 0 ≤ m ∧ m ≤ 1000000000) : TriS Try.prog 57 [.l m [.i .i64 f] fl, .i .i64 x] []
    (fun r σ => ∃ b : Bool, (b = true ↔ x ∈ rng m f) ∧ r = .b b ∧ σ = []) := by
  refine (contains_tri m x f fl hm).mono ?_
  rintro r σ ⟨b, h, rfl, rfl⟩
  exact ⟨b, h.trans mem_rng.symm, rfl, rfl⟩
def tornF (s : Str) (a : Nat) : Str := s.take a ++ List.replicate (256 - a) 238
theorem repeatL_one (x : UInt8) : ∀ c : Nat, Lib.repeatL [x] c = List.replicate c x
  | 0 => rfl
  | c + 1 => by simp [Lib.repeatL, repeatL_one x c, List.replicate_succ]
theorem rep_tri (x : UInt8) (c : Int) (hc : 0 ≤ c ∧ c ≤ 1000000) : TriS Try.prog 66 [.s [x], .i .i64 c] [] (fun r σ => ∃ z, z = List.replicate c.toNat x ∧ r = .s z ∧ σ = []) := by
  have h : TriS Try.prog 66 [.s [x], .i .i64 c] [] (fun r σ => r = .s (List.replicate c.toNat x) ∧ σ = []) := by
    refine tri_plain (vs0 := [.string ⟨#[x]⟩, .int .i64 c]) (v := .string ⟨(List.replicate c.toNat x).toArray⟩) (by kernel_rfl) (fun g w ow vs h => ?_) (fun _ _ _ => rfl) rfl (fun w => ?_)
    · match vs, h with
      | [a, b], h => obtain rfl : a = _ := h.1; obtain rfl : b = _ := h.2.1; rfl
    · have := Try.strings_Repeat ⟨#[x]⟩ c.toNat w (by omega) (by show 1 * c.toNat ≤ _; omega)
      rw [show ((c.toNat : Nat) : Int) = c by omega] at this
      refine this.mono ?_
      rintro e w' ⟨rfl, h⟩
      refine ⟨?_, h⟩
      rw [← repeatL_one]
  exact h.mono (by rintro r σ ⟨rfl, rfl⟩; exact ⟨_, rfl, rfl, rfl⟩)
theorem torn_tri (s : Str) (a : Int) (hs : s.length = 256) (ha : 0 ≤ a ∧ a ≤ 256) : TriS Try.prog 56 [.s s, .i .i64 a] [] (fun r σ => ∃ z, z = tornF s a.toNat ∧ r = .tu [.s z, .i .i64 0] ∧ σ = []) := by
  refine tri_of TT_ok mixed (OR := ORD56) (fn := Try.f56) (c := body Try.f56) (by kernel_rfl) (by kernel_rfl) (by kernel_rfl) (by kernel_rfl) (by simp [Try.f56]) fun H Tri hH hTri => ?_
  cbv
  generalize e50001 : H Int _ = v50000
  simp only [hH, Int.zero_add, Int.add_zero] at e50001
  obtain ⟨e50001, e50001a, e50001b⟩ := castN e50001.symm
  split
  case h_1 => rename_i hh; exact absurd hh (by rw [hH]; simp; omega)
  cbv
  split
  case h_1 => rename_i hh; exact absurd hh (by rw [hH]; simp; omega)
  cbv
  split
  case h_1 => rename_i hh; exact absurd hh (by rw [hH]; simp; omega)
  cbv
  generalize e50003 : H Int _ = v50002
  simp only [hH, Int.zero_add, Int.add_zero] at e50003
  replace e50003 := (IntWalk.i64_in _ (by omega)).symm.trans e50003
  generalize e50005 : H (List UInt8) _ = s50004
  simp only [hH, Int.zero_add, Int.add_zero] at e50005
  refine ⟨by rw [hH]; simp [o0]; omega, ?_⟩
  cbv
  generalize e50007 : H Bool _ = b50006
  simp only [hH] at e50007
  replace e50007 := boolN e50007
  generalize e50009 : H Bool _ = b50008
  simp only [hH] at e50009
  replace e50009 := boolN e50009
  generalize e50011 : H Bool _ = b50010
  simp only [hH] at e50011
  replace e50011 := boolN e50011
  refine' ⟨[], ⟨⟨rfl, rfl⟩, rfl⟩, _, _, ?x50013, ?s50014, _, hTri _ _ _ _ (rep_tri ⟨_⟩ _ ?a50012), ?k50015⟩
  case x50013 => cbv <;> rfl
  case s50014 => cbv <;> rfl
  case a50012 => omega
  rintro r50018 σ50019 ⟨x50016, ⟨h50017, ⟨rfl, rfl⟩⟩⟩
  cbv
  generalize e50021 : H (List UInt8) _ = s50020
  simp only [hH, Int.zero_add, Int.add_zero] at e50021
  generalize e50023 : H (List UInt8) _ = s50022
  simp only [hH, Int.zero_add, Int.add_zero] at e50023
  refine ⟨?q50024, ?_⟩
  case q50024 => (subst_vars; simp [hH, o0]; omega)
  cbv
  refine ⟨?q50025, ?_⟩
  case q50025 => (subst_vars; simp [hH, o0]; omega)
  cbv
  refine' ⟨_, _, ⟨_, ⟨?p50026, ⟨rfl, rfl⟩⟩⟩, ?c50027, ?s50028⟩
  case s50028 => cbv <;> repeat' first | exact rfl | exact trivial | exact Or.inr trivial | exact Or.inl rfl | apply And.intro | omega | (split <;> first | exact trivial | (exfalso; simp_all; done))
  case c50027 => rfl
  case p50026 =>
    subst_vars
    show List.drop 0 (List.take a.toNat s) ++ List.replicate (256 - a).toNat 238 = tornF s a.toNat
    rw [tornF, List.drop_zero, show (256 - a).toNat = 256 - a.toNat by omega]
def crashOk (m K t a : Int) (kf : Ix → Int) : Prop :=
  (-1 ≤ t ∧ t < m ∧ (t ≠ -1 → 0 ≤ a ∧ a ≤ 256)) ∧ (∀ i, 0 ≤ i → i < K → 0 ≤ kf [i] ∧ kf [i] < m ∧ kf [i] ≠ t) ∧ ∀ i j, 0 ≤ i → i < j → j < K → kf [i] ≠ kf [j]
theorem sorted_perm (l : List Int) : (sorted l).Perm l := List.mergeSort_perm _ _
theorem sorted_le (l : List Int) : (sorted l).Pairwise (· ≤ ·) := by
  have := List.pairwise_mergeSort (le := fun x y : Int => decide (x ≤ y)) (fun a b c h1 h2 => by simp at *; omega) (fun a b => by simp; omega) l
  exact this.imp (by simp)
theorem sorted_nodup {l : List Int} : l.Nodup ↔ ∀ i : Nat, 0 < i → i < l.length → (sorted l).getD (i - 1) 0 ≠ (sorted l).getD i 0 := by
  rw [← (sorted_perm l).nodup_iff, ← sorted_len l]
  generalize hS : sorted l = S
  have hle : S.Pairwise (· ≤ ·) := hS ▸ sorted_le l
  rw [List.pairwise_iff_getElem] at hle
  constructor
  · intro h i h0 h1
    rw [List.getD_eq_getElem?_getD, List.getD_eq_getElem?_getD, List.getElem?_eq_getElem h1, List.getElem?_eq_getElem (by omega)]
    have := (List.pairwise_iff_getElem.1 h) (i - 1) i (by omega) h1 (by omega)
    simpa using this
  · intro h
    rw [List.Nodup, List.pairwise_iff_getElem]
    intro i j hi hj hij e
    have h1 := h j (by omega) hj
    rw [List.getD_eq_getElem?_getD, List.getD_eq_getElem?_getD, List.getElem?_eq_getElem hj, List.getElem?_eq_getElem (by omega)] at h1
    have h2 := hle (j - 1) j (by omega) hj (by omega)
    have h3 : S[i] ≤ S[j - 1] := by
      by_cases h4 : i = j - 1
      · subst h4; exact Int.le_refl _
      · exact hle i (j - 1) hi (by omega) (by omega)
    simp at h1
    omega
theorem sorted_all {l : List Int} {P : Int → Prop} : (∀ x ∈ l, P x) ↔ ∀ i : Nat, i < l.length → P ((sorted l).getD i 0) := by
  constructor
  · intro h i hi
    rw [← sorted_len l] at hi
    rw [List.getD_eq_getElem?_getD, List.getElem?_eq_getElem hi]
    exact h _ ((sorted_perm l).mem_iff.1 (List.getElem_mem hi))
  · intro h x hx
    obtain ⟨i, hi, rfl⟩ := List.mem_iff_getElem.1 ((sorted_perm l).mem_iff.2 hx)
    have := h i (by rw [← sorted_len l]; exact hi)
    rwa [List.getD_eq_getElem?_getD, List.getElem?_eq_getElem hi] at this
theorem crash_sorted {m K t a : Int} {kf c : Ix → Int} (hc : ∀ j : Nat, j < K.toNat → c [(j : Int)] = (sorted (rng K kf)).getD j 0) (h : -1 ≤ t ∧ t < m ∧ (t ≠ -1 → 0 ≤ a ∧ a ≤ 256)) :
    crashOk m K t a kf ↔ ∀ i : Int, 0 ≤ i → i < K → ¬ (c [i] < 0 ∨ m ≤ c [i] ∨ c [i] = t ∨ (0 < i ∧ c [i - 1] = c [i])) := by
  have h1 : (∀ i, 0 ≤ i → i < K → 0 ≤ kf [i] ∧ kf [i] < m ∧ kf [i] ≠ t) ↔ ∀ x ∈ rng K kf, 0 ≤ x ∧ x < m ∧ x ≠ t := by
    constructor
    · intro h x hx
      obtain ⟨j, hj, rfl⟩ := List.mem_map.1 hx
      have := List.mem_range.1 hj
      exact h j (by omega) (by omega)
    · intro h i h0 h1
      refine h _ (List.mem_map.2 ⟨i.toNat, List.mem_range.2 (by omega), ?_⟩)
      rw [Int.toNat_of_nonneg h0]
  have h2 : (∀ i j, 0 ≤ i → i < j → j < K → kf [i] ≠ kf [j]) ↔ (rng K kf).Nodup := by
    rw [List.Nodup, List.pairwise_iff_getElem]
    constructor
    · intro h i j hi hj hij
      rw [rng_len] at hi hj
      simp only [rng, List.getElem_map, List.getElem_range]
      exact h i j (by omega) (by omega) (by omega)
    · intro h i j h0 h1 h2
      have := h i.toNat j.toNat (by rw [rng_len]; omega) (by rw [rng_len]; omega) (by omega)
      simp only [rng, List.getElem_map, List.getElem_range] at this
      rwa [Int.toNat_of_nonneg h0, Int.toNat_of_nonneg (by omega)] at this
  rw [crashOk, h1, h2, sorted_all, sorted_nodup, rng_len]
  constructor
  · rintro ⟨-, h3, h4⟩ i h0 h5 h6
    have e := hc i.toNat (by omega)
    rw [Int.toNat_of_nonneg h0] at e
    have h7 := h3 i.toNat (by omega)
    rw [← e] at h7
    rcases h6 with h6 | h6 | h6 | ⟨h6, h8⟩
    · omega
    · omega
    · exact h7.2.2 h6
    · have h9 := h4 i.toNat (by omega) (by omega)
      rw [← hc _ (by omega), ← e, show ((i.toNat - 1 : Nat) : Int) = i - 1 by omega] at h9
      exact h9 h8
  · intro h3
    refine ⟨h, fun i hi => ?_, fun i h0 hi => ?_⟩
    · have := h3 i (by omega) (by omega)
      rw [← hc i hi]
      refine ⟨?_, ?_, fun e => this (.inr (.inr (.inl e)))⟩ <;> omega
    · have := h3 i (by omega) (by omega)
      rw [← hc i hi, ← hc (i - 1) (by omega)]
      intro e
      refine this (.inr (.inr (.inr ⟨by omega, ?_⟩)))
      rw [← e, show ((i - 1 : Nat) : Int) = (i : Int) - 1 by omega]
/-- the numbers in order -/
def cs (K : Int) (kf : Ix → Int) : Ix → Int := fun ix => (sorted (rng K kf)).getD (hd ix).toNat 0
theorem sorted_tri' (n : Int) (f : Ix → Int) (fl : Bool) (hn : 0 ≤ n ∧ n ≤ 1000000000) : TriS Try.prog 75 [.fn (.func 103) [.pt 0 0]] [(0, .st [.l n [.i .i64 f] fl] 48)]
    (fun x σ => ∃ c : Ix → Int, (∀ j : Int, 0 ≤ j → j < n → c [j] = cs n f [j]) ∧ x = .sl 100 0 n 1 false ∧ σ = [(0, .st [.l n [.i .i64 f] fl] 48), (100, .ar n [.i .i64 c] 3)]) := by
  refine (sorted_tri n f fl hn).mono ?_
  rintro r σ ⟨c, h, rfl, rfl⟩
  refine ⟨c, fun j h0 h1 => ?_, rfl, rfl⟩
  have := h j.toNat (by omega)
  rw [Int.toNat_of_nonneg h0] at this
  exact this
theorem crash_cs {m K t a : Int} {kf : Ix → Int} (h : -1 ≤ t ∧ t < m ∧ (t ≠ -1 → 0 ≤ a ∧ a ≤ 256)) :
    crashOk m K t a kf ↔ ∀ i : Int, 0 ≤ i → i < K → 0 ≤ cs K kf [i] ∧ cs K kf [i] < m ∧ cs K kf [i] ≠ t ∧ (0 < i → cs K kf [i - 1] ≠ cs K kf [i]) := by
  rw [crash_sorted (c := cs K kf) (fun j hj => by simp [cs, hd]) h]
  refine forall_congr' fun i => forall_congr' fun _ => forall_congr' fun _ => ?_
  constructor
  · intro h1
    exact ⟨by omega, by omega, by omega, fun h2 h3 => h1 (.inr (.inr (.inr ⟨h2, h3⟩)))⟩
  · rintro ⟨h1, h2, h3, h4⟩ (h5 | h5 | h5 | ⟨h5, h6⟩)
    · omega
    · omega
    · omega
    · exact h4 h5 h6
section
variable (n m k r w f u q : Int) (pg : Ix → Str) (wn : Ix → Int) (ws : Ix → Str)
theorem mayCrash_tri (K t a : Int) (kf : Ix → Int) (fl : Bool) (hK : 0 ≤ K ∧ K ≤ 1000000000) : TriS Try.prog 55 [.pt 0 0, .l K [.i .i64 kf] fl, .i .i64 t, .i .i64 a] (diskS 0 1 2 n m k r w f u pg wn ws)
    (fun x σ => ∃ b : Bool, (b = true ↔ crashOk m K t a kf) ∧ x = .b b ∧ σ = diskS 0 1 2 n m k r w f u pg wn ws) := by
  have h1 : crashOk m K t a kf → -1 ≤ t ∧ t < m ∧ (t ≠ -1 → 0 ≤ a ∧ a ≤ 256) := fun h => h.1
  have h2 := @crash_cs m K t a kf
  have h3 := sorted_tri' K kf fl hK
  generalize crashOk m K t a kf = P at *
  generalize cs K kf = C at *
  refine tri_of TT_ok mixed (OR := ORD55) (fn := Try.f55) (c := body Try.f55) (by kernel_rfl) (by kernel_rfl) (by kernel_rfl) (by kernel_rfl) (by simp [Try.f55]) fun H Tri hH hTri => ?_
  cbv
  split
  · rename_i h170000
    simp only [hH, decide_eq_true_eq] at h170000
    cbv
    generalize e170002 : H Bool _ = b170001
    simp only [hH] at e170002
    replace e170002 := boolN e170002
    refine' ⟨_, _, ⟨_, ⟨?p170003, ⟨rfl, rfl⟩⟩⟩, ?c170004, ?s170005⟩
    case s170005 => cbv <;> repeat' first | exact rfl | exact trivial | exact Or.inr trivial | exact Or.inl rfl | apply And.intro | omega | (split <;> first | exact trivial | (exfalso; simp_all; done))
    case c170004 => rfl
    case p170003 => grind
  · rename_i h170006
    simp only [hH, decide_eq_false_iff_not, Int.not_lt, Int.not_le] at h170006
    cbv
    split
    · rename_i h170007
      simp only [hH, decide_eq_true_eq] at h170007
      cbv
      generalize e170009 : H Bool _ = b170008
      simp only [hH] at e170009
      replace e170009 := boolN e170009
      generalize e170011 : H Bool _ = b170010
      simp only [hH] at e170011
      replace e170011 := boolN e170011
      refine' ⟨_, _, ⟨_, ⟨?p170012, ⟨rfl, rfl⟩⟩⟩, ?c170013, ?s170014⟩
      case s170014 => cbv <;> repeat' first | exact rfl | exact trivial | exact Or.inr trivial | exact Or.inl rfl | apply And.intro | omega | (split <;> first | exact trivial | (exfalso; simp_all; done))
      case c170013 => rfl
      case p170012 => grind
    · rename_i h170015
      simp only [hH, decide_eq_false_iff_not, Int.not_lt, Int.not_le] at h170015
      cbv
      split
      · rename_i h170016
        simp only [hH, decide_eq_true_eq] at h170016
        cbv
        split
        · rename_i h170017
          simp only [hH, decide_eq_true_eq] at h170017
          cbv
          generalize e170019 : H Bool _ = b170018
          simp only [hH] at e170019
          replace e170019 := boolN e170019
          generalize e170021 : H Bool _ = b170020
          simp only [hH] at e170021
          replace e170021 := boolN e170021
          generalize e170023 : H Bool _ = b170022
          simp only [hH] at e170023
          replace e170023 := boolN e170023
          generalize e170025 : H Bool _ = b170024
          simp only [hH] at e170025
          replace e170025 := boolN e170025
          refine' ⟨_, _, ⟨_, ⟨?p170026, ⟨rfl, rfl⟩⟩⟩, ?c170027, ?s170028⟩
          case s170028 => cbv <;> repeat' first | exact rfl | exact trivial | exact Or.inr trivial | exact Or.inl rfl | apply And.intro | omega | (split <;> first | exact trivial | (exfalso; simp_all; done))
          case c170027 => rfl
          case p170026 => grind
        · rename_i h170029
          simp only [hH, decide_eq_false_iff_not, Int.not_lt, Int.not_le] at h170029
          cbv
          split
          · rename_i h170030
            simp only [hH, decide_eq_true_eq] at h170030
            cbv
            generalize e170032 : H Bool _ = b170031
            simp only [hH] at e170032
            replace e170032 := boolN e170032
            generalize e170034 : H Bool _ = b170033
            simp only [hH] at e170034
            replace e170034 := boolN e170034
            generalize e170036 : H Bool _ = b170035
            simp only [hH] at e170036
            replace e170036 := boolN e170036
            generalize e170038 : H Bool _ = b170037
            simp only [hH] at e170038
            replace e170038 := boolN e170038
            generalize e170040 : H Bool _ = b170039
            simp only [hH] at e170040
            replace e170040 := boolN e170040
            refine' ⟨_, _, ⟨_, ⟨?p170041, ⟨rfl, rfl⟩⟩⟩, ?c170042, ?s170043⟩
            case s170043 => cbv <;> repeat' first | exact rfl | exact trivial | exact Or.inr trivial | exact Or.inl rfl | apply And.intro | omega | (split <;> first | exact trivial | (exfalso; simp_all; done))
            case c170042 => rfl
            case p170041 => grind
          · rename_i h170044
            simp only [hH, decide_eq_false_iff_not, Int.not_lt, Int.not_le] at h170044
            cbv
            generalize e170046 : H Bool _ = b170045
            simp only [hH] at e170046
            replace e170046 := boolN e170046
            generalize e170048 : H Bool _ = b170047
            simp only [hH] at e170048
            replace e170048 := boolN e170048
            generalize e170050 : H Bool _ = b170049
            simp only [hH] at e170050
            replace e170050 := boolN e170050
            generalize e170052 : H Bool _ = b170051
            simp only [hH] at e170052
            replace e170052 := boolN e170052
            generalize e170054 : H Bool _ = b170053
            simp only [hH] at e170054
            replace e170054 := boolN e170054
            refine' ⟨[], ⟨⟨rfl, rfl⟩, rfl⟩, _, _, ?x170055, ?s170056, _, hTri _ _ _ _ (values_tri _ _ _), ?k170057⟩
            case x170055 => cbv <;> rfl
            case s170056 => cbv <;> rfl
            rintro r170058 σ170059 ⟨rfl, rfl⟩
            cbv
            refine' ⟨[200], ⟨⟨rfl, rfl⟩, rfl⟩, _, _, ?x170060, ?s170061, _, hTri _ _ _ _ h3, ?k170062⟩
            case x170060 => cbv <;> rfl
            case s170061 => cbv <;> rfl
            rintro r170065 σ170066 ⟨x170063, ⟨h170064, ⟨rfl, rfl⟩⟩⟩
            cbv
            refine ⟨0, Int, fun (i : Int) => ⟨[(43, V.i IntKind.i64 K), (42, V.sl 220 0 K 1 false), (9, V.sl 220 0 K 1 false), (0, V.pt 0 0), (2, V.i IntKind.i64 t), (44, .i .i64 i), (8, V.b false)], [(200, O.st [V.l K [AM.C.i IntKind.i64 kf] fl] 48), (220, O.ar K [AM.C.i IntKind.i64 x170063] 3), (0, O.st [V.sl 1 0 n 1 false, V.sl 2 0 m 2 false, V.i IntKind.i64 r, V.i IntKind.i64 w, V.i IntKind.i64 f, V.i IntKind.i64 u] 91), (1, O.ar n [AM.C.s pg] 9), (2, O.ar k [AM.C.i IntKind.i64 wn, AM.C.s ws] 93)], 221⟩, fun (i : Int) => (0 ≤ i ∧ i ≤ K) ∧ (∀ j, 0 ≤ j → j < i → 0 ≤ C [j] ∧ C [j] < m ∧ C [j] ≠ t ∧ (0 < j → C [j - 1] ≠ C [j])), fun (i : Int) => (K - i).toNat, ⟨0, ⟨?p170070, ?p170071⟩, ?s170068⟩, ?r170069⟩
            case s170068 => cbv <;> repeat' first | exact rfl | exact trivial | exact Or.inr trivial | exact Or.inl rfl | apply And.intro | omega | (split <;> first | exact trivial | (exfalso; simp_all; done))
            case p170070 => omega
            case p170071 => omega
            rintro i ⟨hi, hc⟩
            cbv
            split
            · rename_i h170072
              simp only [hH, decide_eq_true_eq] at h170072
              cbv
              generalize e170074 : H Int _ = v170073
              simp only [hH, Int.zero_add, Int.add_zero] at e170074
              generalize e170076 : H Int _ = v170075
              simp only [hH, Int.zero_add, Int.add_zero] at e170076
              subst e170076
              refine ⟨by rw [hH]; simp; omega, ?_⟩
              cbv
              split
              · rename_i h170077
                simp only [hH, decide_eq_true_eq] at h170077
                cbv
                generalize e170079 : H Bool _ = b170078
                simp only [hH] at e170079
                replace e170079 := boolN e170079
                generalize e170081 : H Bool _ = b170080
                simp only [hH] at e170081
                replace e170081 := boolN e170081
                refine' ⟨_, _, ⟨_, ⟨?p170082, ⟨rfl, rfl⟩⟩⟩, ?c170083, ?s170084⟩
                case s170084 => cbv <;> repeat' first | exact rfl | exact trivial | exact Or.inr trivial | exact Or.inl rfl | apply And.intro | omega | (split <;> first | exact trivial | (exfalso; simp_all; done))
                case c170083 => rfl
                case p170082 => grind
              · rename_i h170085
                simp only [hH, decide_eq_false_iff_not, Int.not_lt, Int.not_le] at h170085
                cbv
                split
                · rename_i h170086
                  simp only [hH, decide_eq_true_eq] at h170086
                  cbv
                  generalize e170088 : H Bool _ = b170087
                  simp only [hH] at e170088
                  replace e170088 := boolN e170088
                  generalize e170090 : H Bool _ = b170089
                  simp only [hH] at e170090
                  replace e170090 := boolN e170090
                  generalize e170092 : H Bool _ = b170091
                  simp only [hH] at e170092
                  replace e170092 := boolN e170092
                  refine' ⟨_, _, ⟨_, ⟨?p170093, ⟨rfl, rfl⟩⟩⟩, ?c170094, ?s170095⟩
                  case s170095 => cbv <;> repeat' first | exact rfl | exact trivial | exact Or.inr trivial | exact Or.inl rfl | apply And.intro | omega | (split <;> first | exact trivial | (exfalso; simp_all; done))
                  case c170094 => rfl
                  case p170093 => grind
                · rename_i h170096
                  simp only [hH, decide_eq_false_iff_not, Int.not_lt, Int.not_le] at h170096
                  cbv
                  split
                  · rename_i h170097
                    simp only [hH, decide_eq_true_eq] at h170097
                    cbv
                    generalize e170099 : H Bool _ = b170098
                    simp only [hH] at e170099
                    replace e170099 := boolN e170099
                    generalize e170101 : H Bool _ = b170100
                    simp only [hH] at e170101
                    replace e170101 := boolN e170101
                    generalize e170103 : H Bool _ = b170102
                    simp only [hH] at e170103
                    replace e170103 := boolN e170103
                    generalize e170105 : H Bool _ = b170104
                    simp only [hH] at e170105
                    replace e170105 := boolN e170105
                    refine' ⟨_, _, ⟨_, ⟨?p170106, ⟨rfl, rfl⟩⟩⟩, ?c170107, ?s170108⟩
                    case s170108 => cbv <;> repeat' first | exact rfl | exact trivial | exact Or.inr trivial | exact Or.inl rfl | apply And.intro | omega | (split <;> first | exact trivial | (exfalso; simp_all; done))
                    case c170107 => rfl
                    case p170106 => grind
                  · rename_i h170109
                    simp only [hH, decide_eq_false_iff_not, Int.not_lt, Int.not_le] at h170109
                    cbv
                    split
                    · rename_i h170110
                      simp only [hH, decide_eq_true_eq] at h170110
                      cbv
                      generalize e170112 : H Int _ = v170111
                      simp only [hH, Int.zero_add, Int.add_zero] at e170112
                      replace e170112 := (IntWalk.i64_in _ (by omega)).symm.trans e170112
                      generalize e170114 : H Int _ = v170113
                      simp only [hH, Int.zero_add, Int.add_zero] at e170114
                      generalize e170116 : H Int _ = v170115
                      simp only [hH, Int.zero_add, Int.add_zero] at e170116
                      subst e170116
                      refine ⟨by rw [hH]; simp; omega, ?_⟩
                      cbv
                      split
                      · rename_i h170117
                        simp only [hH, decide_eq_true_eq] at h170117
                        cbv
                        generalize e170119 : H Bool _ = b170118
                        simp only [hH] at e170119
                        replace e170119 := boolN e170119
                        generalize e170121 : H Bool _ = b170120
                        simp only [hH] at e170121
                        replace e170121 := boolN e170121
                        generalize e170123 : H Bool _ = b170122
                        simp only [hH] at e170123
                        replace e170123 := boolN e170123
                        generalize e170125 : H Bool _ = b170124
                        simp only [hH] at e170125
                        replace e170125 := boolN e170125
                        generalize e170127 : H Bool _ = b170126
                        simp only [hH] at e170127
                        replace e170127 := boolN e170127
                        generalize e170129 : H Bool _ = b170128
                        simp only [hH] at e170129
                        replace e170129 := boolN e170129
                        refine' ⟨_, _, ⟨_, ⟨?p170130, ⟨rfl, rfl⟩⟩⟩, ?c170131, ?s170132⟩
                        case s170132 => cbv <;> repeat' first | exact rfl | exact trivial | exact Or.inr trivial | exact Or.inl rfl | apply And.intro | omega | (split <;> first | exact trivial | (exfalso; simp_all; done))
                        case c170131 => rfl
                        case p170130 => grind
                      · rename_i h170133
                        simp only [hH, decide_eq_false_iff_not, Int.not_lt, Int.not_le] at h170133
                        cbv
                        generalize e170135 : H Int _ = v170134
                        simp only [hH, Int.zero_add, Int.add_zero] at e170135
                        replace e170135 := (IntWalk.i64_in _ (by omega)).symm.trans e170135
                        generalize e170137 : H Bool _ = b170136
                        simp only [hH] at e170137
                        replace e170137 := boolN e170137
                        generalize e170139 : H Bool _ = b170138
                        simp only [hH] at e170139
                        replace e170139 := boolN e170139
                        generalize e170141 : H Bool _ = b170140
                        simp only [hH] at e170141
                        replace e170141 := boolN e170141
                        generalize e170143 : H Bool _ = b170142
                        simp only [hH] at e170143
                        replace e170143 := boolN e170143
                        generalize e170145 : H Bool _ = b170144
                        simp only [hH] at e170145
                        replace e170145 := boolN e170145
                        generalize e170147 : H Bool _ = b170146
                        simp only [hH] at e170147
                        replace e170147 := boolN e170147
                        refine' ⟨_, ⟨⟨?p170148, ?p170149⟩, ?p170150⟩, ?m170151, ?s170152⟩
                        case s170152 => cbv <;> repeat' first | exact rfl | exact trivial | exact Or.inr trivial | exact Or.inl rfl | apply And.intro | omega | (split <;> first | exact trivial | (exfalso; simp_all; done))
                        case m170151 => simp only []; omega
                        case p170148 => omega
                        case p170149 => omega
                        case p170150 => (intro j j0 j1; by_cases hji : j < i; exact hc j j0 hji; obtain rfl : j = i := (by omega); grind)
                    · rename_i h170153
                      simp only [hH, decide_eq_false_iff_not, Int.not_lt, Int.not_le] at h170153
                      cbv
                      generalize e170155 : H Int _ = v170154
                      simp only [hH, Int.zero_add, Int.add_zero] at e170155
                      replace e170155 := (IntWalk.i64_in _ (by omega)).symm.trans e170155
                      generalize e170157 : H Bool _ = b170156
                      simp only [hH] at e170157
                      replace e170157 := boolN e170157
                      generalize e170159 : H Bool _ = b170158
                      simp only [hH] at e170159
                      replace e170159 := boolN e170159
                      generalize e170161 : H Bool _ = b170160
                      simp only [hH] at e170161
                      replace e170161 := boolN e170161
                      generalize e170163 : H Bool _ = b170162
                      simp only [hH] at e170163
                      replace e170163 := boolN e170163
                      generalize e170165 : H Bool _ = b170164
                      simp only [hH] at e170165
                      replace e170165 := boolN e170165
                      refine' ⟨_, ⟨⟨?p170166, ?p170167⟩, ?p170168⟩, ?m170169, ?s170170⟩
                      case s170170 => cbv <;> repeat' first | exact rfl | exact trivial | exact Or.inr trivial | exact Or.inl rfl | apply And.intro | omega | (split <;> first | exact trivial | (exfalso; simp_all; done))
                      case m170169 => simp only []; omega
                      case p170166 => omega
                      case p170167 => omega
                      case p170168 => grind
            · rename_i h170171
              simp only [hH, decide_eq_false_iff_not, Int.not_lt, Int.not_le] at h170171
              cbv
              generalize e170173 : H Bool _ = b170172
              simp only [hH] at e170173
              replace e170173 := boolN e170173
              refine' ⟨_, _, ⟨_, ⟨?p170174, ⟨rfl, rfl⟩⟩⟩, ?c170175, ?s170176⟩
              case s170176 => cbv <;> repeat' first | exact rfl | exact trivial | exact Or.inr trivial | exact Or.inl rfl | apply And.intro | omega | (split <;> first | exact trivial | (exfalso; simp_all; done))
              case c170175 => rfl
              case p170174 => (exact ⟨fun _ => (h2 (by omega)).2 (fun j j0 j1 => hc j j0 (by omega)), fun _ => rfl⟩)
      · rename_i h170177
        simp only [hH, decide_eq_false_iff_not, Int.not_lt, Int.not_le] at h170177
        cbv
        generalize e170179 : H Bool _ = b170178
        simp only [hH] at e170179
        replace e170179 := boolN e170179
        generalize e170181 : H Bool _ = b170180
        simp only [hH] at e170181
        replace e170181 := boolN e170181
        generalize e170183 : H Bool _ = b170182
        simp only [hH] at e170183
        replace e170183 := boolN e170183
        refine' ⟨[], ⟨⟨rfl, rfl⟩, rfl⟩, _, _, ?x170184, ?s170185, _, hTri _ _ _ _ (values_tri _ _ _), ?k170186⟩
        case x170184 => cbv <;> rfl
        case s170185 => cbv <;> rfl
        rintro r170187 σ170188 ⟨rfl, rfl⟩
        cbv
        refine' ⟨[200], ⟨⟨rfl, rfl⟩, rfl⟩, _, _, ?x170189, ?s170190, _, hTri _ _ _ _ h3, ?k170191⟩
        case x170189 => cbv <;> rfl
        case s170190 => cbv <;> rfl
        rintro r170194 σ170195 ⟨x170192, ⟨h170193, ⟨rfl, rfl⟩⟩⟩
        cbv
        refine ⟨0, Int, fun (i : Int) => ⟨[(43, V.i IntKind.i64 K), (42, V.sl 220 0 K 1 false), (9, V.sl 220 0 K 1 false), (0, V.pt 0 0), (2, V.i IntKind.i64 t), (44, .i .i64 i), (8, V.b false)], [(200, O.st [V.l K [AM.C.i IntKind.i64 kf] fl] 48), (220, O.ar K [AM.C.i IntKind.i64 x170192] 3), (0, O.st [V.sl 1 0 n 1 false, V.sl 2 0 m 2 false, V.i IntKind.i64 r, V.i IntKind.i64 w, V.i IntKind.i64 f, V.i IntKind.i64 u] 91), (1, O.ar n [AM.C.s pg] 9), (2, O.ar k [AM.C.i IntKind.i64 wn, AM.C.s ws] 93)], 221⟩, fun (i : Int) => (0 ≤ i ∧ i ≤ K) ∧ (∀ j, 0 ≤ j → j < i → 0 ≤ C [j] ∧ C [j] < m ∧ C [j] ≠ t ∧ (0 < j → C [j - 1] ≠ C [j])), fun (i : Int) => (K - i).toNat, ⟨0, ⟨?p170199, ?p170200⟩, ?s170197⟩, ?r170198⟩
        case s170197 => cbv <;> repeat' first | exact rfl | exact trivial | exact Or.inr trivial | exact Or.inl rfl | apply And.intro | omega | (split <;> first | exact trivial | (exfalso; simp_all; done))
        case p170199 => omega
        case p170200 => omega
        rintro i ⟨hi, hc⟩
        cbv
        split
        · rename_i h170201
          simp only [hH, decide_eq_true_eq] at h170201
          cbv
          generalize e170203 : H Int _ = v170202
          simp only [hH, Int.zero_add, Int.add_zero] at e170203
          generalize e170205 : H Int _ = v170204
          simp only [hH, Int.zero_add, Int.add_zero] at e170205
          subst e170205
          refine ⟨by rw [hH]; simp; omega, ?_⟩
          cbv
          split
          · rename_i h170206
            simp only [hH, decide_eq_true_eq] at h170206
            cbv
            generalize e170208 : H Bool _ = b170207
            simp only [hH] at e170208
            replace e170208 := boolN e170208
            generalize e170210 : H Bool _ = b170209
            simp only [hH] at e170210
            replace e170210 := boolN e170210
            refine' ⟨_, _, ⟨_, ⟨?p170211, ⟨rfl, rfl⟩⟩⟩, ?c170212, ?s170213⟩
            case s170213 => cbv <;> repeat' first | exact rfl | exact trivial | exact Or.inr trivial | exact Or.inl rfl | apply And.intro | omega | (split <;> first | exact trivial | (exfalso; simp_all; done))
            case c170212 => rfl
            case p170211 => grind
          · rename_i h170214
            simp only [hH, decide_eq_false_iff_not, Int.not_lt, Int.not_le] at h170214
            cbv
            split
            · rename_i h170215
              simp only [hH, decide_eq_true_eq] at h170215
              cbv
              generalize e170217 : H Bool _ = b170216
              simp only [hH] at e170217
              replace e170217 := boolN e170217
              generalize e170219 : H Bool _ = b170218
              simp only [hH] at e170219
              replace e170219 := boolN e170219
              generalize e170221 : H Bool _ = b170220
              simp only [hH] at e170221
              replace e170221 := boolN e170221
              refine' ⟨_, _, ⟨_, ⟨?p170222, ⟨rfl, rfl⟩⟩⟩, ?c170223, ?s170224⟩
              case s170224 => cbv <;> repeat' first | exact rfl | exact trivial | exact Or.inr trivial | exact Or.inl rfl | apply And.intro | omega | (split <;> first | exact trivial | (exfalso; simp_all; done))
              case c170223 => rfl
              case p170222 => grind
            · rename_i h170225
              simp only [hH, decide_eq_false_iff_not, Int.not_lt, Int.not_le] at h170225
              cbv
              split
              case h_1 => rename_i hh; exact absurd hh (by rw [hH]; simp; omega)
              cbv
              split
              · rename_i h170226
                simp only [hH, decide_eq_true_eq] at h170226
                cbv
                generalize e170228 : H Int _ = v170227
                simp only [hH, Int.zero_add, Int.add_zero] at e170228
                replace e170228 := (IntWalk.i64_in _ (by omega)).symm.trans e170228
                generalize e170230 : H Int _ = v170229
                simp only [hH, Int.zero_add, Int.add_zero] at e170230
                generalize e170232 : H Int _ = v170231
                simp only [hH, Int.zero_add, Int.add_zero] at e170232
                subst e170232
                refine ⟨by rw [hH]; simp; omega, ?_⟩
                cbv
                split
                · rename_i h170233
                  simp only [hH, decide_eq_true_eq] at h170233
                  cbv
                  generalize e170235 : H Bool _ = b170234
                  simp only [hH] at e170235
                  replace e170235 := boolN e170235
                  generalize e170237 : H Bool _ = b170236
                  simp only [hH] at e170237
                  replace e170237 := boolN e170237
                  generalize e170239 : H Bool _ = b170238
                  simp only [hH] at e170239
                  replace e170239 := boolN e170239
                  generalize e170241 : H Bool _ = b170240
                  simp only [hH] at e170241
                  replace e170241 := boolN e170241
                  generalize e170243 : H Bool _ = b170242
                  simp only [hH] at e170243
                  replace e170243 := boolN e170243
                  generalize e170245 : H Bool _ = b170244
                  simp only [hH] at e170245
                  replace e170245 := boolN e170245
                  refine' ⟨_, _, ⟨_, ⟨?p170246, ⟨rfl, rfl⟩⟩⟩, ?c170247, ?s170248⟩
                  case s170248 => cbv <;> repeat' first | exact rfl | exact trivial | exact Or.inr trivial | exact Or.inl rfl | apply And.intro | omega | (split <;> first | exact trivial | (exfalso; simp_all; done))
                  case c170247 => rfl
                  case p170246 => grind
                · rename_i h170249
                  simp only [hH, decide_eq_false_iff_not, Int.not_lt, Int.not_le] at h170249
                  cbv
                  generalize e170251 : H Int _ = v170250
                  simp only [hH, Int.zero_add, Int.add_zero] at e170251
                  replace e170251 := (IntWalk.i64_in _ (by omega)).symm.trans e170251
                  generalize e170253 : H Bool _ = b170252
                  simp only [hH] at e170253
                  replace e170253 := boolN e170253
                  generalize e170255 : H Bool _ = b170254
                  simp only [hH] at e170255
                  replace e170255 := boolN e170255
                  generalize e170257 : H Bool _ = b170256
                  simp only [hH] at e170257
                  replace e170257 := boolN e170257
                  generalize e170259 : H Bool _ = b170258
                  simp only [hH] at e170259
                  replace e170259 := boolN e170259
                  generalize e170261 : H Bool _ = b170260
                  simp only [hH] at e170261
                  replace e170261 := boolN e170261
                  generalize e170263 : H Bool _ = b170262
                  simp only [hH] at e170263
                  replace e170263 := boolN e170263
                  refine' ⟨_, ⟨⟨?p170264, ?p170265⟩, ?p170266⟩, ?m170267, ?s170268⟩
                  case s170268 => cbv <;> repeat' first | exact rfl | exact trivial | exact Or.inr trivial | exact Or.inl rfl | apply And.intro | omega | (split <;> first | exact trivial | (exfalso; simp_all; done))
                  case m170267 => simp only []; omega
                  case p170264 => omega
                  case p170265 => omega
                  case p170266 => (intro j j0 j1; by_cases hji : j < i; exact hc j j0 hji; obtain rfl : j = i := (by omega); grind)
              · rename_i h170269
                simp only [hH, decide_eq_false_iff_not, Int.not_lt, Int.not_le] at h170269
                cbv
                generalize e170271 : H Int _ = v170270
                simp only [hH, Int.zero_add, Int.add_zero] at e170271
                replace e170271 := (IntWalk.i64_in _ (by omega)).symm.trans e170271
                generalize e170273 : H Bool _ = b170272
                simp only [hH] at e170273
                replace e170273 := boolN e170273
                generalize e170275 : H Bool _ = b170274
                simp only [hH] at e170275
                replace e170275 := boolN e170275
                generalize e170277 : H Bool _ = b170276
                simp only [hH] at e170277
                replace e170277 := boolN e170277
                generalize e170279 : H Bool _ = b170278
                simp only [hH] at e170279
                replace e170279 := boolN e170279
                generalize e170281 : H Bool _ = b170280
                simp only [hH] at e170281
                replace e170281 := boolN e170281
                refine' ⟨_, ⟨⟨?p170282, ?p170283⟩, ?p170284⟩, ?m170285, ?s170286⟩
                case s170286 => cbv <;> repeat' first | exact rfl | exact trivial | exact Or.inr trivial | exact Or.inl rfl | apply And.intro | omega | (split <;> first | exact trivial | (exfalso; simp_all; done))
                case m170285 => simp only []; omega
                case p170282 => omega
                case p170283 => omega
                case p170284 => grind
        · rename_i h170287
          simp only [hH, decide_eq_false_iff_not, Int.not_lt, Int.not_le] at h170287
          cbv
          generalize e170289 : H Bool _ = b170288
          simp only [hH] at e170289
          replace e170289 := boolN e170289
          refine' ⟨_, _, ⟨_, ⟨?p170290, ⟨rfl, rfl⟩⟩⟩, ?c170291, ?s170292⟩
          case s170292 => cbv <;> repeat' first | exact rfl | exact trivial | exact Or.inr trivial | exact Or.inl rfl | apply And.intro | omega | (split <;> first | exact trivial | (exfalso; simp_all; done))
          case c170291 => rfl
          case p170290 => (exact ⟨fun _ => (h2 (by omega)).2 (fun j j0 j1 => hc j j0 (by omega)), fun _ => rfl⟩)
/-- pages behind a crash -/
def crashed (pg : Ix → Str) (wn : Ix → Int) (ws : Ix → Str) (K t a : Int) (kf : Ix → Int) : Nat → Ix → Str
  | 0 => pg
  | i + 1 => if (i : Int) = t then (fun ix => bif decide (hd ix = wn [(i : Int)]) then tornF (ws [(i : Int)]) a.toNat else crashed pg wn ws K t a kf i ix)
    else if (i : Int) ∈ rng K kf then (fun ix => bif decide (hd ix = wn [(i : Int)]) then ws [(i : Int)] else crashed pg wn ws K t a kf i ix)
    else crashed pg wn ws K t a kf i
theorem crashP_bad (K t a : Int) (kf : Ix → Int) (fl : Bool) (hK : 0 ≤ K ∧ K ≤ 1000000000) (hc : ¬ crashOk m K t a kf) : TriS Try.prog 26 [.pt 0 0, .l K [.i .i64 kf] fl, .i .i64 t, .i .i64 a] (diskS 0 1 2 n m k r w f u pg wn ws)
    (fun x σ => x = .i .i64 1 ∧ σ = diskS 0 1 2 n m k r w f u pg wn ws) := by
  have h1 := mayCrash_tri n m k r w f u pg wn ws K t a kf fl hK
  generalize crashOk m K t a kf = P at *
  refine tri_of TT_ok mixed (OR := ORD26) (fn := Try.f26) (c := body Try.f26) (by kernel_rfl) (by kernel_rfl) (by kernel_rfl) (by kernel_rfl) (by simp [Try.f26]) fun H Tri hH hTri => ?_
  cbv
  refine' ⟨[0, 1, 2], ⟨⟨rfl, rfl⟩, rfl⟩, _, _, ?x188000, ?s188001, _, hTri _ _ _ _ h1, ?k188002⟩
  case x188000 => cbv <;> rfl
  case s188001 => cbv <;> rfl
  rintro r188005 σ188006 ⟨b188003, ⟨h188004, ⟨rfl, rfl⟩⟩⟩
  cbv
  rcases b188003 with _ | _
  · simp only [Bool.false_eq_true, Bool.true_eq_false, reduceCtorEq, false_iff, true_iff, forall_const, not_false_eq_true, false_implies] at h188004
    cbv
    refine' ⟨_, _, ⟨rfl, rfl⟩, ?c188007, ?s188008⟩
    case s188008 => cbv <;> repeat' first | exact rfl | exact trivial | exact Or.inr trivial | exact Or.inl rfl | apply And.intro | omega | (split <;> first | exact trivial | (exfalso; simp_all; done))
    case c188007 => rfl
  · simp only [Bool.false_eq_true, Bool.true_eq_false, reduceCtorEq, false_iff, true_iff, forall_const, not_false_eq_true, false_implies] at h188004
    contradiction
theorem crashP_ok (K t a : Int) (kf : Ix → Int) (fl : Bool) (hm : 0 ≤ m ∧ m ≤ 1000000000) (hK : 0 ≤ K ∧ K ≤ 1000000000) (hw : ∀ j, 0 ≤ j → j < m → 0 ≤ wn [j] ∧ wn [j] < n) (hl : ∀ j, 0 ≤ j → j < m → (ws [j]).length = 256) (hc : crashOk m K t a kf) : TriS Try.prog 26 [.pt 0 0, .l K [.i .i64 kf] fl, .i .i64 t, .i .i64 a] (diskS 0 1 2 n m k r w f u pg wn ws)
    (fun x σ => ∃ pg' wn' ws', pg' = crashed pg wn ws K t a kf m.toNat ∧ x = .i .i64 0 ∧ σ = diskS 0 1 2 n 0 k r w f (-1) pg' wn' ws') := by
  have h1 := mayCrash_tri n m k r w f u pg wn ws K t a kf fl hK
  have h2 := hc.1
  generalize crashOk m K t a kf = P at *
  refine tri_of TT_ok mixed (OR := ORD26) (fn := Try.f26) (c := body Try.f26) (by kernel_rfl) (by kernel_rfl) (by kernel_rfl) (by kernel_rfl) (by simp [Try.f26]) fun H Tri hH hTri => ?_
  cbv
  refine' ⟨[0, 1, 2], ⟨⟨rfl, rfl⟩, rfl⟩, _, _, ?x195000, ?s195001, _, hTri _ _ _ _ h1, ?k195002⟩
  case x195000 => cbv <;> rfl
  case s195001 => cbv <;> rfl
  rintro r195005 σ195006 ⟨b195003, ⟨h195004, ⟨rfl, rfl⟩⟩⟩
  cbv
  rcases b195003 with _ | _
  · simp only [Bool.false_eq_true, Bool.true_eq_false, reduceCtorEq, false_iff, true_iff, forall_const, not_false_eq_true, false_implies] at h195004
    contradiction
  · simp only [Bool.false_eq_true, Bool.true_eq_false, reduceCtorEq, false_iff, true_iff, forall_const, not_false_eq_true, false_implies] at h195004
    cbv
    refine ⟨0, Int × (Ix → Str), fun ((i, p) : Int × (Ix → Str)) => ⟨[(21, V.i IntKind.i64 m), (20, V.sl 2 0 m 2 false), (8, V.i IntKind.i64 0), (0, V.pt 0 0), (1, V.l K [C.i IntKind.i64 kf] fl), (2, V.i IntKind.i64 t), (3, V.i IntKind.i64 a), (22, .i .i64 i)], [(0, O.st [V.sl 1 0 n 1 false, V.sl 2 0 m 2 false, V.i IntKind.i64 r, V.i IntKind.i64 w, V.i IntKind.i64 f, V.i IntKind.i64 u] 91), (1, .ar n [.s p] 9), (2, O.ar k [C.i IntKind.i64 wn, C.s ws] 93)], 120⟩, fun ((i, p) : Int × (Ix → Str)) => (0 ≤ i ∧ i ≤ m) ∧ (p = crashed pg wn ws K t a kf i.toNat), fun ((i, p) : Int × (Ix → Str)) => (m - i).toNat, ⟨(0, pg), ⟨?p195010, ?p195011⟩, ?s195008⟩, ?r195009⟩
    case s195008 => cbv <;> repeat' first | exact rfl | exact trivial | exact Or.inr trivial | exact Or.inl rfl | apply And.intro | omega | (split <;> first | exact trivial | (exfalso; simp_all; done))
    case p195010 => omega
    case p195011 => rfl
    rintro ⟨i, p⟩ ⟨hi, hp⟩
    cbv
    split
    · rename_i h195012
      simp only [hH, decide_eq_true_eq] at h195012
      cbv
      generalize e195014 : H Int _ = v195013
      simp only [hH, Int.zero_add, Int.add_zero] at e195014
      generalize e195016 : H Int _ = v195015
      simp only [hH, Int.zero_add, Int.add_zero] at e195016
      subst e195016
      generalize e195018 : H (List UInt8) _ = s195017
      simp only [hH, Int.zero_add, Int.add_zero] at e195018
      refine ⟨by rw [hH]; simp; omega, ?_⟩
      cbv
      split
      · rename_i h195019
        simp only [hH, decide_eq_true_eq] at h195019
        cbv
        generalize e195021 : H Bool _ = b195020
        simp only [hH] at e195021
        replace e195021 := boolN e195021
        generalize e195023 : H Bool _ = b195022
        simp only [hH] at e195023
        replace e195023 := boolN e195023
        refine' ⟨[], ⟨⟨rfl, rfl⟩, rfl⟩, _, _, ?x195026, ?s195027, _, hTri _ _ _ _ (torn_tri _ _ ?a195024 ?a195025), ?k195028⟩
        case x195026 => cbv <;> rfl
        case s195027 => cbv <;> rfl
        case a195024 => grind
        case a195025 => omega
        rintro r195031 σ195032 ⟨x195029, ⟨h195030, ⟨rfl, rfl⟩⟩⟩
        cbv
        generalize e195034 : H Int _ = v195033
        simp only [hH, Int.zero_add, Int.add_zero] at e195034
        replace e195034 := (IntWalk.i64_in _ (by omega)).symm.trans e195034
        generalize e195036 : H Int _ = v195035
        simp only [hH, Int.zero_add, Int.add_zero] at e195036
        subst e195036
        generalize e195038 : (fun ix => bif decide (hd ix = v195013) then x195029 else p ix) = c195037
        refine ⟨?q195039, ?_⟩
        case q195039 => grind
        cbv
        refine' ⟨(_, _), ⟨⟨?p195040, ?p195041⟩, ?p195042⟩, ?m195043, ?s195044⟩
        case s195044 => cbv <;> repeat' first | exact rfl | exact trivial | exact Or.inr trivial | exact Or.inl rfl | apply And.intro | omega | (split <;> first | exact trivial | (exfalso; simp_all; done))
        case m195043 => simp only []; omega
        case p195040 => omega
        case p195041 => omega
        case p195042 => (have e1 : (i + 1).toNat = i.toNat + 1 := (by omega); have e2 := Int.toNat_of_nonneg hi.1; subst_vars; rw [e1, crashed, e2]; simp [*])
      · rename_i h195045
        simp only [hH, decide_eq_false_iff_not, Int.not_lt, Int.not_le] at h195045
        cbv
        generalize e195047 : H Bool _ = b195046
        simp only [hH] at e195047
        replace e195047 := boolN e195047
        generalize e195049 : H Bool _ = b195048
        simp only [hH] at e195049
        replace e195049 := boolN e195049
        refine' ⟨[], ⟨⟨rfl, rfl⟩, rfl⟩, _, _, ?x195051, ?s195052, _, hTri _ _ _ _ (contains_mem _ _ _ _ ?a195050), ?k195053⟩
        case x195051 => cbv <;> rfl
        case s195052 => cbv <;> rfl
        case a195050 => assumption
        rintro r195056 σ195057 ⟨b195054, ⟨h195055, ⟨rfl, rfl⟩⟩⟩
        cbv
        rcases b195054 with _ | _
        · simp only [Bool.false_eq_true, Bool.true_eq_false, reduceCtorEq, false_iff, true_iff, forall_const, not_false_eq_true, false_implies] at h195055
          cbv
          generalize e195059 : H Int _ = v195058
          simp only [hH, Int.zero_add, Int.add_zero] at e195059
          replace e195059 := (IntWalk.i64_in _ (by omega)).symm.trans e195059
          refine' ⟨(_, _), ⟨⟨?p195060, ?p195061⟩, ?p195062⟩, ?m195063, ?s195064⟩
          case s195064 => cbv <;> repeat' first | exact rfl | exact trivial | exact Or.inr trivial | exact Or.inl rfl | apply And.intro | omega | (split <;> first | exact trivial | (exfalso; simp_all; done))
          case m195063 => simp only []; omega
          case p195060 => omega
          case p195061 => omega
          case p195062 => (have e1 : (i + 1).toNat = i.toNat + 1 := (by omega); have e2 := Int.toNat_of_nonneg hi.1; subst_vars; rw [e1, crashed, e2]; simp [*])
        · simp only [Bool.false_eq_true, Bool.true_eq_false, reduceCtorEq, false_iff, true_iff, forall_const, not_false_eq_true, false_implies] at h195055
          cbv
          generalize e195066 : H Int _ = v195065
          simp only [hH, Int.zero_add, Int.add_zero] at e195066
          replace e195066 := (IntWalk.i64_in _ (by omega)).symm.trans e195066
          generalize e195068 : H Int _ = v195067
          simp only [hH, Int.zero_add, Int.add_zero] at e195068
          subst e195068
          generalize e195070 : (fun ix => bif decide (hd ix = v195013) then s195017 else p ix) = c195069
          refine ⟨?q195071, ?_⟩
          case q195071 => grind
          cbv
          refine' ⟨(_, _), ⟨⟨?p195072, ?p195073⟩, ?p195074⟩, ?m195075, ?s195076⟩
          case s195076 => cbv <;> repeat' first | exact rfl | exact trivial | exact Or.inr trivial | exact Or.inl rfl | apply And.intro | omega | (split <;> first | exact trivial | (exfalso; simp_all; done))
          case m195075 => simp only []; omega
          case p195072 => omega
          case p195073 => omega
          case p195074 => (have e1 : (i + 1).toNat = i.toNat + 1 := (by omega); have e2 := Int.toNat_of_nonneg hi.1; subst_vars; rw [e1, crashed, e2]; simp [*])
    · rename_i h195077
      simp only [hH, decide_eq_false_iff_not, Int.not_lt, Int.not_le] at h195077
      cbv
      generalize e195079 : H Bool _ = b195078
      simp only [hH] at e195079
      replace e195079 := boolN e195079
      refine' ⟨[0, 1, 2], ⟨⟨rfl, rfl⟩, rfl⟩, _, _, ?x195081, ?s195082, _, hTri _ _ _ _ (drop_tri _ _ _ _ _ _ _ _ _ _ ?a195080), ?k195083⟩
      case x195081 => cbv <;> rfl
      case s195082 => cbv <;> rfl
      case a195080 => omega
      rintro r195086 σ195087 ⟨x195084, ⟨x195085, ⟨rfl, rfl⟩⟩⟩
      cbv
      refine' ⟨_, _, ⟨_, ⟨_, ⟨_, ⟨?p195088, ⟨rfl, rfl⟩⟩⟩⟩⟩, ?c195089, ?s195090⟩
      case s195090 => cbv <;> repeat' first | exact rfl | exact trivial | exact Or.inr trivial | exact Or.inl rfl | apply And.intro | omega | (split <;> first | exact trivial | (exfalso; simp_all; done))
      case c195089 => rfl
      case p195088 => grind
end
end Go.Proofs.Ytabmdohibkkflaa.AM

namespace Go.Proofs.Ytabmdohibkkflaa.AM
open Go
set_option maxRecDepth 100000
set_option maxHeartbeats 4000000
/-! the document's disk -/
def filledF (c : Int) : Str := List.replicate 256 (UInt8.ofNat c.toNat)
theorem bytesOf_const {n : Int} {f : Ix → Int} {c : Int} (h : ∀ j, 0 ≤ j → j < n → f [j] = c) : bytesOf n f = List.replicate n.toNat (UInt8.ofNat c.toNat) := by
  rw [bytesOf, List.eq_replicate_iff]
  refine ⟨by simp, fun b hb => ?_⟩
  obtain ⟨j, hj, rfl⟩ := List.mem_map.1 hb
  have := List.mem_range.1 hj
  rw [h j (by omega) (by omega)]
theorem filled_len (c : Int) : (filledF c).length = 256 := by simp [filledF]
theorem filled_tri (c : Int) : TriS Try.prog 24 [.i .u8 c] [] (fun r σ => ∃ s, s = filledF c ∧ r = .s s ∧ σ = []) := by
  refine tri_of TT_ok mixed (OR := ORD24) (fn := Try.f24) (c := body Try.f24) (by kernel_rfl) (by kernel_rfl) (by kernel_rfl) (by kernel_rfl) (by simp [Try.f24]) fun H Tri hH hTri => ?_
  cbv
  refine ⟨?q18000, ?_⟩
  case q18000 => solve_by_elim
  cbv
  refine ⟨0, Int × (Ix → Int), fun ((i, f) : Int × (Ix → Int)) => ⟨[(3, V.sl 100 0 256 1 false), (2, V.s []), (0, V.i IntKind.u8 c), (4, .i .i64 i)], [(100, .ar 256 [.i .u8 f] 5)], 101⟩, fun ((i, f) : Int × (Ix → Int)) => (0 ≤ i ∧ i ≤ 256) ∧ (∀ j, 0 ≤ j → j < i → f [j] = c), fun ((i, f) : Int × (Ix → Int)) => (256 - i).toNat, ⟨(0, fun _ => 0), ⟨?p18004, ?p18005⟩, ?s18002⟩, ?r18003⟩
  case s18002 => cbv <;> repeat' first | exact rfl | exact trivial | exact Or.inr trivial | exact Or.inl rfl | apply And.intro | omega | (split <;> first | exact trivial | (exfalso; simp_all; done)) | (subst_vars; simp [o0]; done)
  case p18004 => omega
  case p18005 => omega
  rintro ⟨i, f⟩ ⟨hi, hf⟩
  cbv
  split
  · rename_i h18006
    simp only [hH, decide_eq_true_eq] at h18006
    cbv
    generalize e18008 : H Int _ = v18007
    simp only [hH, Int.zero_add, Int.add_zero] at e18008
    replace e18008 := (IntWalk.i64_in _ (by omega)).symm.trans e18008
    generalize e18010 : H Int _ = v18009
    simp only [hH, Int.zero_add, Int.add_zero] at e18010
    subst e18010
    generalize e18012 : (fun ix => bif decide (hd ix = i) then c else f ix) = c18011
    refine ⟨by rw [hH]; simp; omega, ?_⟩
    cbv
    generalize e18014 : H Bool _ = b18013
    simp only [hH] at e18014
    replace e18014 := boolN e18014
    refine' ⟨(_, _), ⟨⟨?p18015, ?p18016⟩, ?p18017⟩, ?m18018, ?s18019⟩
    case s18019 => cbv <;> repeat' first | exact rfl | exact trivial | exact Or.inr trivial | exact Or.inl rfl | apply And.intro | omega | (split <;> first | exact trivial | (exfalso; simp_all; done)) | (subst_vars; simp [o0]; done)
    case m18018 => simp; omega
    case p18015 => omega
    case p18016 => omega
    case p18017 => (intro j _ _; subst_vars; simp only [hH, AM.hd, Int.zero_add, Bool.cond_decide]; grind)
  · rename_i h18020
    simp only [hH, decide_eq_false_iff_not, Int.not_lt, Int.not_le] at h18020
    cbv
    generalize e18022 : H (List UInt8) _ = s18021
    simp only [hH, Int.zero_add, Int.add_zero] at e18022
    generalize e18024 : H Bool _ = b18023
    simp only [hH] at e18024
    replace e18024 := boolN e18024
    refine' ⟨_, _, ⟨_, ⟨?p18025, ⟨rfl, rfl⟩⟩⟩, ?c18026, ?s18027⟩
    case s18027 => cbv <;> repeat' first | exact rfl | exact trivial | exact Or.inr trivial | exact Or.inl rfl | apply And.intro | omega | (split <;> first | exact trivial | (exfalso; simp_all; done)) | (subst_vars; simp [o0]; done)
    case c18026 => rfl
    case p18025 => (subst_vars; exact bytesOf_const (n := 256) (fun j h0 h1 => hf j h0 (by omega)))
theorem blankR_tri : TriS Try.prog 28 [] [] (fun r σ => ∃ s, s = blankF ∧ r = .s s ∧ σ = []) := by
  refine tri_of TT_ok mixed (OR := ORD28) (fn := Try.f28) (c := body Try.f28) (by kernel_rfl) (by kernel_rfl) (by kernel_rfl) (by kernel_rfl) (by simp [Try.f28]) fun H Tri hH hTri => ?_
  cbv
  generalize e23001 : H (List UInt8) _ = s23000
  simp only [hH, Int.zero_add, Int.add_zero] at e23001
  refine ⟨?q23002, ?_⟩
  case q23002 => solve_by_elim
  cbv
  refine' ⟨_, _, ⟨_, ⟨?p23003, ⟨rfl, rfl⟩⟩⟩, ?c23004, ?s23005⟩
  case s23005 => cbv <;> repeat' first | exact rfl | exact trivial | exact Or.inr trivial | exact Or.inl rfl | apply And.intro | omega | (split <;> first | exact trivial | (exfalso; simp_all; done)) | (subst_vars; simp [o0]; done)
  case c23004 => rfl
  case p23003 => solve_by_elim
theorem tornStep {z0 z : Str} {a : Int} (hz : ∃ k : Nat, a + k ≤ 256 ∧ z = z0 ++ List.replicate k 238) (hl : z0.length = a.toNat) (ha : 0 ≤ a) (h : (z.length : Int) < 256) : ∃ k : Nat, a + k ≤ 256 ∧ z ++ [238] = z0 ++ List.replicate k 238 := by
  obtain ⟨k, hk, rfl⟩ := hz
  rw [List.length_append, List.length_replicate] at h
  exact ⟨k + 1, by omega, by rw [List.replicate_succ', List.append_assoc]⟩
theorem tornEnd {z0 z s : Str} {a : Int} (h0 : z0 = s.take a.toNat) (hz : ∃ k : Nat, a + k ≤ 256 ∧ z = z0 ++ List.replicate k 238) (hl : z0.length = a.toNat) (ha : 0 ≤ a) (h : 256 ≤ (z.length : Int)) : z = tornF s a.toNat := by
  obtain ⟨k, hk, rfl⟩ := hz
  rw [List.length_append, List.length_replicate] at h
  rw [tornF, ← h0, show k = 256 - a.toNat by omega]
theorem tornR_tri (s : Str) (a : Int) (hs : s.length = 256) (ha : 0 ≤ a ∧ a ≤ 256) : TriS Try.prog 62 [.s s, .i .i64 a] [] (fun r σ => ∃ z, z = tornF s a.toNat ∧ r = .tu [.s z, .i .i64 0] ∧ σ = []) := by
  obtain ⟨z0, hz0⟩ : ∃ z0, z0 = s.take a.toNat := ⟨_, rfl⟩
  have hzl : z0.length = a.toNat := by rw [hz0, List.length_take]; omega
  refine tri_of TT_ok mixed (OR := ORD62) (fn := Try.f62) (c := body Try.f62) (by kernel_rfl) (by kernel_rfl) (by kernel_rfl) (by kernel_rfl) (by simp [Try.f62]) fun H Tri hH hTri => ?_
  cbv
  generalize e37001 : H Int _ = v37000
  simp only [hH, Int.zero_add, Int.add_zero] at e37001
  obtain ⟨e37001, e37001a, e37001b⟩ := castN e37001.symm
  split
  case h_1 => rename_i hh; exact absurd hh (by rw [hH]; simp; omega)
  cbv
  split
  case h_1 => rename_i hh; exact absurd hh (by rw [hH]; simp; omega)
  cbv
  split
  case h_1 => rename_i hh; exact absurd hh (by rw [hH]; simp; omega)
  cbv
  generalize e37003 : H (List UInt8) _ = s37002
  simp only [hH, Int.zero_add, Int.add_zero] at e37003
  refine ⟨by rw [hH]; simp [o0]; omega, ?_⟩
  cbv
  refine ⟨0, Str, fun (z : Str) => ⟨[(5, V.i IntKind.i64 0), (4, V.s []), (6, .s z)], [], 100⟩, fun (z : Str) => (∃ k : Nat, a + k ≤ 256 ∧ z = z0 ++ List.replicate k 238), fun (z : Str) => 256 - z.length, ⟨z0, ?p37007, ?s37005⟩, ?r37006⟩
  case s37005 => cbv <;> repeat' first | exact rfl | exact trivial | exact Or.inr trivial | exact Or.inl rfl | apply And.intro | omega | (split <;> first | exact trivial | (exfalso; simp_all; done)) | (subst_vars; simp [o0]; done)
  case p37007 => simp; omega
  rintro z hz
  cbv
  generalize e37009 : H Int _ = v37008
  simp only [hH, Int.zero_add, Int.add_zero] at e37009
  obtain ⟨e37009, e37009a, e37009b⟩ := castN e37009.symm
  split
  · rename_i h37010
    simp only [hH, decide_eq_true_eq] at h37010
    cbv
    generalize e37012 : H (List UInt8) _ = s37011
    simp only [hH, Int.zero_add, Int.add_zero] at e37012
    refine ⟨by rw [hH]; simp; omega, ?_⟩
    cbv
    generalize e37014 : H Bool _ = b37013
    simp only [hH] at e37014
    replace e37014 := boolN e37014
    refine' ⟨_, ?p37015, ?m37016, ?s37017⟩
    case s37017 => cbv <;> repeat' first | exact rfl | exact trivial | exact Or.inr trivial | exact Or.inl rfl | apply And.intro | omega | (split <;> first | exact trivial | (exfalso; simp_all; done)) | (subst_vars; simp [o0]; done)
    case m37016 => (subst_vars; simp [hH, o0]; omega)
    case p37015 => (subst_vars; exact tornStep hz hzl ha.1 (by omega))
  · rename_i h37018
    simp only [hH, decide_eq_false_iff_not, Int.not_lt, Int.not_le] at h37018
    cbv
    generalize e37020 : H Bool _ = b37019
    simp only [hH] at e37020
    replace e37020 := boolN e37020
    refine' ⟨_, _, ⟨_, ⟨?p37021, ⟨rfl, rfl⟩⟩⟩, ?c37022, ?s37023⟩
    case s37023 => cbv <;> repeat' first | exact rfl | exact trivial | exact Or.inr trivial | exact Or.inl rfl | apply And.intro | omega | (split <;> first | exact trivial | (exfalso; simp_all; done)) | (subst_vars; simp [o0]; done)
    case c37022 => rfl
    case p37021 => (subst_vars; exact tornEnd rfl hz hzl ha.1 (by omega))
def refS (d op ow : Nat) (n m k r w f u : Int) (pg : Ix → Str) (wn : Ix → Int) (ws : Ix → Str) : Sto :=
  [(d, .st (diskC op ow n m r w f u) 66), (op, .ar n [.s pg] 9), (ow, .ar k [.i .i64 wn, .s ws] 103)]
theorem newR_tri (n : Int) (hn : 1 ≤ n ∧ n ≤ 1000) : TriS Try.prog 31 [.i .i64 n] []
    (fun r σ => ∃ (c : Ix → Str) (wn : Ix → Int) (ws : Ix → Str), (∀ j : Int, 0 ≤ j → j < n → c [j] = blankF) ∧ r = .tu [.pt 100 0, .i .i64 0] ∧ σ = refS 100 101 102 n 0 0 0 0 0 (-1) c wn ws) := by
  have hb := blankR_tri
  generalize blankF = B at *
  refine tri_of TT_ok mixed (OR := ORD31) (fn := Try.f31) (c := body Try.f31) (by kernel_rfl) (by kernel_rfl) (by kernel_rfl) (by kernel_rfl) (by simp [Try.f31]) fun H Tri hH hTri => ?_
  cbv
  split
  case h_1 => rename_i hh; exact absurd hh (by rw [hH]; simp; omega)
  cbv
  split
  case h_1 => rename_i hh; exact absurd hh (by rw [hH]; simp; omega)
  cbv
  refine ⟨0, Int × (Ix → Str), fun ((i, c) : Int × (Ix → Str)) => ⟨[(4, V.pt 100 0), (3, V.i IntKind.i64 0), (2, V.v (Value.pointer none)), (0, V.i IntKind.i64 n), (5, .i .i64 i)], [(100, .st [.sl 103 0 i 1 false, .l 0 [] true, .i .i64 0, .i .i64 0, .i .i64 0, .i .i64 (-1)] 66), (103, .ar i [.s c] 9)], 104⟩, fun ((i, c) : Int × (Ix → Str)) => (0 ≤ i ∧ i ≤ n) ∧ (∀ j, 0 ≤ j → j < i → c [j] = B), fun ((i, c) : Int × (Ix → Str)) => (n - i).toNat, ⟨(0, fun _ => []), ⟨?p50003, ?p50004⟩, ?s50001⟩, ?r50002⟩
  case s50001 => cbv <;> repeat' first | exact rfl | exact trivial | exact Or.inr trivial | exact Or.inl rfl | apply And.intro | omega | (split <;> first | exact trivial | (exfalso; simp_all; done)) | (subst_vars; simp [o0]; done)
  case p50003 => omega
  case p50004 => omega
  rintro ⟨i, c⟩ ⟨hi, hc⟩
  cbv
  split
  · rename_i h50005
    simp only [hH, decide_eq_true_eq] at h50005
    cbv
    generalize e50007 : H Bool _ = b50006
    simp only [hH] at e50007
    replace e50007 := boolN e50007
    refine' ⟨[], ⟨⟨rfl, rfl⟩, rfl⟩, _, _, ?x50008, ?s50009, _, hTri _ _ _ _ hb, ?k50010⟩
    case x50008 => cbv <;> rfl
    case s50009 => cbv <;> rfl
    rintro r50013 σ50014 ⟨x50011, ⟨h50012, ⟨rfl, rfl⟩⟩⟩
    cbv
    generalize e50016 : H Int _ = v50015
    simp only [hH, Int.zero_add, Int.add_zero] at e50016
    replace e50016 := (IntWalk.i64_in _ (by omega)).symm.trans e50016
    generalize e50018 : H Int _ = v50017
    simp only [hH, Int.zero_add, Int.add_zero] at e50018
    generalize e50020 : (fun ix => bif decide (hd ix < i) then c ix else x50011) = c50019
    refine ⟨by rw [hH]; simp, ?_⟩
    cbv
    refine ⟨by rw [hH]; simp; omega, ?_⟩
    cbv
    refine' ⟨(_, _), ⟨⟨?p50021, ?p50022⟩, ?p50023⟩, ?m50024, ?s50025⟩
    case s50025 => cbv <;> repeat' first | exact rfl | exact trivial | exact Or.inr trivial | exact Or.inl rfl | apply And.intro | omega | (split <;> first | exact trivial | (exfalso; simp_all; done)) | (subst_vars; simp [o0]; done)
    case m50024 => simp; omega
    case p50021 => omega
    case p50022 => omega
    case p50023 => (intro j _ _; subst_vars; simp only [hH, AM.hd, Int.zero_add, Bool.cond_decide]; grind)
  · rename_i h50026
    simp only [hH, decide_eq_false_iff_not, Int.not_lt, Int.not_le] at h50026
    cbv
    generalize e50028 : H Bool _ = b50027
    simp only [hH] at e50028
    replace e50028 := boolN e50028
    refine' ⟨_, _, ⟨_, ⟨_, ⟨_, ⟨?p50029, ⟨rfl, rfl⟩⟩⟩⟩⟩, ?c50030, ?s50031⟩
    case s50031 => cbv <;> repeat' first | exact rfl | exact trivial | exact Or.inr trivial | exact Or.inl rfl | apply And.intro | omega | (split <;> first | exact trivial | (exfalso; simp_all; done)) | (subst_vars; simp [o0]; done)
    case c50030 => rfl
    case p50029 => grind
    exact fun _ => 0
    exact fun _ => []
theorem newR_bad (n : Int) (hn : ¬ (1 ≤ n ∧ n ≤ 1000)) : TriS Try.prog 31 [.i .i64 n] []
    (fun r σ => r = .tu [nilp, .i .i64 1] ∧ σ = []) := by
  refine tri_of TT_ok mixed (OR := ORD31) (fn := Try.f31) (c := body Try.f31) (by kernel_rfl) (by kernel_rfl) (by kernel_rfl) (by kernel_rfl) (by simp [Try.f31]) fun H Tri hH hTri => ?_
  cbv
  split
  · rename_i h55000
    simp only [hH, decide_eq_true_eq] at h55000
    cbv
    generalize e55002 : H Bool _ = b55001
    simp only [hH] at e55002
    replace e55002 := boolN e55002
    refine' ⟨_, _, ⟨rfl, rfl⟩, ?c55003, ?s55004⟩
    case s55004 => cbv <;> repeat' first | exact rfl | exact trivial | exact Or.inr trivial | exact Or.inl rfl | apply And.intro | omega | (split <;> first | exact trivial | (exfalso; simp_all; done)) | (subst_vars; simp [o0]; done)
    case c55003 => rfl
  · rename_i h55005
    simp only [hH, decide_eq_false_iff_not, Int.not_lt, Int.not_le] at h55005
    cbv
    split
    case h_2 => rename_i hh; exact absurd hh (by rw [hH]; simp; omega)
    cbv
    generalize e55007 : H Bool _ = b55006
    simp only [hH] at e55007
    replace e55007 := boolN e55007
    generalize e55009 : H Bool _ = b55008
    simp only [hH] at e55009
    replace e55009 := boolN e55009
    refine' ⟨_, _, ⟨rfl, rfl⟩, ?c55010, ?s55011⟩
    case s55011 => cbv <;> repeat' first | exact rfl | exact trivial | exact Or.inr trivial | exact Or.inl rfl | apply And.intro | omega | (split <;> first | exact trivial | (exfalso; simp_all; done)) | (subst_vars; simp [o0]; done)
    case c55010 => rfl
end Go.Proofs.Ytabmdohibkkflaa.AM

