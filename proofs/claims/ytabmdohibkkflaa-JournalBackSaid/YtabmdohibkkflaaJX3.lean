/-
  What functions of the program compute. No condition beside those that each theorem states.
-/
import Derived.Test.YtabmdohibkkflaaJX2
set_option linter.all false

namespace Go.Proofs.Ytabmdohibkkflaa.AM
open Go
set_option maxRecDepth 100000
set_option maxHeartbeats 4000000
section
variable {n L base size tx m : Int} {f : Int → Str} {D : DK} {pk pn : Ix → Int} {pb : Ix → Str}
/-- behind a commit, a journal of another transaction scans nothing -/
theorem scanA_after (tx2 : Int) (hD : DA n L (comF base tx m pk pn pb f) D) (hj : jplace n base size tx) (hj2 : jplace n base size tx2) (hL : L ≤ 10000000) (L' : Int) (hL' : L' = L + 1) (hm : 0 < m ∧ m ≤ size - 1 ∧ ∀ j : Int, 0 ≤ j → j < m → okP (pk [j]) (pn [j]) (pb [j])) (hne : tx ≠ tx2) :
    TriS Try.prog 17 [.pt 0 0] (jouS 0 1 2 3 base size tx2 D) (fun r σ => ∃ D', DA n L' (comF base tx m pk pn pb f) D' ∧ r = .tu [.l 0 [] true, .b false] ∧ σ = jouS 0 1 2 3 base size tx2 D') := by
  obtain ⟨h1, h2, h3⟩ := hm
  have hok := h3 0 (by omega) h1
  have hj' := hj.2.2
  exact scanA_other hD hj2 hL L' hL' (by rw [stage_len]; have := hok.2.2.1; omega) (comA_first (comA_comF (by omega)) h1) (decode_stage tx 0 _ _ _ (by omega) (by omega) hok) hne
/-- behind a commit its pages are scanned -/
theorem scanA_back (hD : DA n L (comF base tx m pk pn pb f) D) (hj : jplace n base size tx) (hL : L ≤ 10000000) (L' : Int) (hL' : L' = L + 2000) (hm : 0 < m ∧ m ≤ size - 1 ∧ ∀ j : Int, 0 ≤ j → j < m → okP (pk [j]) (pn [j]) (pb [j])) :
    TriS Try.prog 17 [.pt 0 0] (jouS 0 1 2 3 base size tx D) (fun r σ => ∃ D' pk' pn' pb', DA n L' (comF base tx m pk pn pb f) D' ∧ (∀ j : Int, 0 ≤ j → j < m → pk' [j] = pk [j] ∧ pn' [j] = pn [j] ∧ pb' [j] = pb [j]) ∧ r = .tu [.sl 101 0 m 3 false, .b true] ∧ σ = jouS 0 1 2 3 base size tx D' ++ [(101, .ar m [.i .i64 pk', .i .i64 pn', .s pb'] 75)]) :=
  scanA_some hD hj hL L' hL' ⟨hm.1, hm.2.1⟩ hm.2.2 (comA_comF (by omega))
theorem commitA' (full : Bool) (hD : DA n L f D) (hj : jplace n base size tx) (hL : L ≤ 10000000) (L' : Int) (hL' : L' = L + 2000) (hm : 0 < m ∧ m ≤ size - 1 ∧ ∀ j : Int, 0 ≤ j → j < m → okP (pk [j]) (pn [j]) (pb [j])) :
    TriS Try.prog 15 [.pt 0 0, .l m [.i .i64 pk, .i .i64 pn, .s pb] full] (jouS 0 1 2 3 base size tx D) (fun r σ => ∃ D', DA n L' (comF base tx m pk pn pb f) D' ∧ r = .i .i64 0 ∧ σ = jouS 0 1 2 100 base size tx D') :=
  commitA pk pn pb full hD hj hL L' hL' ⟨hm.1, hm.2.1⟩ hm.2.2 _ rfl
theorem commitA_bad (full : Bool) (hD : DA n L f D) (hj : jplace n base size tx) (hm0 : 0 ≤ m ∧ m ≤ 1000000000) (hm : ¬ (0 < m ∧ m ≤ size - 1 ∧ ∀ j : Int, 0 ≤ j → j < m → okP (pk [j]) (pn [j]) (pb [j]))) :
    TriS Try.prog 15 [.pt 0 0, .l m [.i .i64 pk, .i .i64 pn, .s pb] full] (jouS 0 1 2 3 base size tx D) (fun r σ => ∃ e : Int, e ≠ 0 ∧ r = .i .i64 e ∧ σ = jouS 0 1 2 3 base size tx D) := by
  have _ := hD
  refine (commit_bad m pk pn pb full hm0 D hj.1 ?_).mono ?_
  · by_cases h1 : 0 < m
    · by_cases h2 : m ≤ size - 1
      · exact .inr (.inr fun h3 => hm ⟨h1, h2, h3⟩)
      · exact .inr (.inl (by omega))
    · exact .inl (by omega)
  · rintro r σ ⟨e, h, rfl, rfl⟩
    exact ⟨e, h.1, rfl, rfl⟩
theorem abortA' (hD : DA n L f D) (hj : jplace n base size tx) (hL : L ≤ 10000000) (L' : Int) (hL' : L' = L + 2) :
    TriS Try.prog 19 [.pt 0 0] (jouS 0 1 2 3 base size tx D) (fun r σ => ∃ D', DA n L' (fun q => if q = base then sealF 5 base (abortF tx) else f q) D' ∧ r = .i .i64 0 ∧ σ = jouS 0 1 2 100 base size tx D') :=
  abortA hD hj hL L' hL' _ rfl
theorem scanA_aborted' (hD : DA n L (fun q => if q = base then sealF 5 base (abortF tx) else f q) D) (hj : jplace n base size tx) (hL : L ≤ 10000000) (L' : Int) (hL' : L' = L + 1) :
    TriS Try.prog 17 [.pt 0 0] (jouS 0 1 2 3 base size tx D) (fun r σ => ∃ D', r = .tu [.l 0 [] true, .b false] ∧ σ = jouS 0 1 2 3 base size tx D') :=
  (scanA_aborted hD hj hL L' hL' (if_pos rfl)).mono (by rintro r σ ⟨D', h, rfl, rfl⟩; exact ⟨D', rfl, rfl⟩)
theorem scanA_new (hD : DA n L (fun _ => blankF) D) (hj : jplace n base size tx) (hL : L ≤ 10000000) (L' : Int) (hL' : L' = L + 1) :
    TriS Try.prog 17 [.pt 0 0] (jouS 0 1 2 3 base size tx D) (fun r σ => ∃ D', DA n L' (fun _ => blankF) D' ∧ r = .tu [.l 0 [] true, .b false] ∧ σ = jouS 0 1 2 3 base size tx D') :=
  scanA_blank hD hj hL L' hL' rfl
theorem newA' (n : Int) (hn : 1 ≤ n ∧ n ≤ 1000) : TriS Try.prog 13 [.i .i64 n] [] (fun r σ => ∃ D : DK, DA n 0 (fun _ => blankF) D ∧ r = .tu [.pt 100 0, .i .i64 0] ∧ σ = D.S 100 101 102) :=
  newA n _ hn (fun _ _ _ => rfl)
end
theorem pages_same (n : Int) (a b : Ix → Int) (c : Ix → Str) (a' b' : Ix → Int) (c' : Ix → Str) (f f' : Bool) (hn : 0 ≤ n ∧ n ≤ 1000000000) (h : ∀ j : Int, 0 ≤ j → j < n → a [j] = a' [j] ∧ b [j] = b' [j] ∧ c [j] = c' [j]) :
    TriS Try.prog 18 [.l n [.i .i64 a, .i .i64 b, .s c] f, .l n [.i .i64 a', .i .i64 b', .s c'] f'] [] (fun r σ => r = .b true ∧ σ = []) :=
  (pages_tri n n a b c a' b' c' f f' hn hn.1).mono (by rintro r σ ⟨t, ht, rfl, rfl⟩; obtain rfl : t = true := ht.2 ⟨rfl, h⟩; exact ⟨rfl, rfl⟩)
theorem back07 (a b c d n : Int) (pk pn : Ix → Int) (pb : Ix → Str) (ab : Bool) (h0 : 0 ≤ n) : TriS Try.prog 5 [.ag [.i .i64 a, .i .i64 b, .i .i64 c, .i .i64 d], .l n [.i .i64 pk, .i .i64 pn, .s pb] false, .b ab] [] (fun r _ => r = .b true) := by
  by_cases ha : 1 ≤ a
  case neg =>
    refine tri_of TT_ok mixed (OR := ORD5) (fn := Try.f5) (c := body Try.f5) (by kernel_rfl) (by kernel_rfl) (by kernel_rfl) (by kernel_rfl) (by simp [Try.f5]) fun H Tri hH hTri => ?_
    cbv
    refine' ⟨[], ⟨⟨rfl, rfl⟩, rfl⟩, _, _, ?x53001, ?s53002, _, hTri _ _ _ _ (few_tri _ _ _ _ ?a53000), ?k53003⟩
    case x53001 => cbv <;> rfl
    case s53002 => cbv <;> rfl
    case a53000 => assumption
    rintro r53006 σ53007 ⟨b53004, ⟨rfl, ⟨h53005, rfl⟩⟩⟩
    cbv
    rcases b53004 with _ | _
    · simp only [Bool.false_eq_true, Bool.true_eq_false, reduceCtorEq, false_iff, true_iff, forall_const, not_false_eq_true, false_implies] at h53005
      cbv
      refine' ⟨[], ⟨⟨rfl, rfl⟩, rfl⟩, _, _, ?x53008, ?s53009, _, hTri _ _ _ _ live07, ?k53010⟩
      case x53008 => cbv <;> rfl
      case s53009 => cbv <;> rfl
      rintro r53011 σ53012 ⟨rfl, rfl⟩
      cbv
      refine' ⟨_, [], rfl, ?c53013, ?s53014⟩
      case s53014 => cbv <;> repeat' first | exact rfl | exact trivial | exact Or.inl rfl | apply And.intro
      case c53013 => rfl
    · simp only [Bool.false_eq_true, Bool.true_eq_false, reduceCtorEq, false_iff, true_iff, forall_const, not_false_eq_true, false_implies] at h53005
      cbv
      split
      case h_1 => rename_i hh; exact absurd hh (by rw [hH]; simp; omega)
      cbv
      generalize e53016 : H Bool _ = b53015
      rw [hH] at e53016
      replace e53016 := boolN e53016
      refine' ⟨[], ⟨⟨rfl, rfl⟩, rfl⟩, _, _, ?x53018, ?s53019, _, hTri _ _ _ _ (disk_new_bad _ ?a53017), ?k53020⟩
      case x53018 => cbv <;> rfl
      case s53019 => cbv <;> rfl
      case a53017 => omega
      rintro r53021 σ53022 ⟨rfl, rfl⟩
      cbv
      refine' ⟨[], ⟨⟨rfl, rfl⟩, rfl⟩, _, _, ?x53023, ?s53024, _, hTri _ _ _ _ (nil14 _ _ _), ?k53025⟩
      case x53023 => cbv <;> rfl
      case s53024 => cbv <;> rfl
      rintro r53026 σ53027 ⟨rfl, rfl⟩
      cbv
      split
      case h_2 => rename_i hh; exact absurd hh (by rw [hH]; simp; try omega)
      cbv
      generalize e53029 : H Bool _ = b53028
      rw [hH] at e53029
      replace e53029 := boolN e53029
      refine' ⟨[], ⟨⟨rfl, rfl⟩, rfl⟩, _, _, ?x53030, ?s53031, _, hTri _ _ _ _ live07, ?k53032⟩
      case x53030 => cbv <;> rfl
      case s53031 => cbv <;> rfl
      rintro r53033 σ53034 ⟨rfl, rfl⟩
      cbv
      refine' ⟨_, [], rfl, ?c53035, ?s53036⟩
      case s53036 => cbv <;> repeat' first | exact rfl | exact trivial | exact Or.inl rfl | apply And.intro
      case c53035 => rfl
  by_cases hj : jplace a b c d
  case neg =>
    refine tri_of TT_ok mixed (OR := ORD5) (fn := Try.f5) (c := body Try.f5) (by kernel_rfl) (by kernel_rfl) (by kernel_rfl) (by kernel_rfl) (by simp [Try.f5]) fun H Tri hH hTri => ?_
    cbv
    refine' ⟨[], ⟨⟨rfl, rfl⟩, rfl⟩, _, _, ?x57001, ?s57002, _, hTri _ _ _ _ (few_tri _ _ _ _ ?a57000), ?k57003⟩
    case x57001 => cbv <;> rfl
    case s57002 => cbv <;> rfl
    case a57000 => assumption
    rintro r57006 σ57007 ⟨b57004, ⟨rfl, ⟨h57005, rfl⟩⟩⟩
    cbv
    rcases b57004 with _ | _
    · simp only [Bool.false_eq_true, Bool.true_eq_false, reduceCtorEq, false_iff, true_iff, forall_const, not_false_eq_true, false_implies] at h57005
      cbv
      refine' ⟨[], ⟨⟨rfl, rfl⟩, rfl⟩, _, _, ?x57008, ?s57009, _, hTri _ _ _ _ live07, ?k57010⟩
      case x57008 => cbv <;> rfl
      case s57009 => cbv <;> rfl
      rintro r57011 σ57012 ⟨rfl, rfl⟩
      cbv
      refine' ⟨_, [], rfl, ?c57013, ?s57014⟩
      case s57014 => cbv <;> repeat' first | exact rfl | exact trivial | exact Or.inl rfl | apply And.intro
      case c57013 => rfl
    · simp only [Bool.false_eq_true, Bool.true_eq_false, reduceCtorEq, false_iff, true_iff, forall_const, not_false_eq_true, false_implies] at h57005
      cbv
      split
      · rename_i h57015
        simp only [hH, decide_eq_true_eq] at h57015
        cbv
        generalize e57017 : H Bool _ = b57016
        rw [hH] at e57017
        replace e57017 := boolN e57017
        refine' ⟨[], ⟨⟨rfl, rfl⟩, rfl⟩, _, _, ?x57018, ?s57019, _, hTri _ _ _ _ live07, ?k57020⟩
        case x57018 => cbv <;> rfl
        case s57019 => cbv <;> rfl
        rintro r57021 σ57022 ⟨rfl, rfl⟩
        cbv
        refine' ⟨_, [], rfl, ?c57023, ?s57024⟩
        case s57024 => cbv <;> repeat' first | exact rfl | exact trivial | exact Or.inl rfl | apply And.intro
        case c57023 => rfl
      · rename_i h57025
        simp only [hH, decide_eq_false_iff_not, Int.not_lt, Int.not_le] at h57025
        cbv
        generalize e57027 : H Bool _ = b57026
        rw [hH] at e57027
        replace e57027 := boolN e57027
        refine' ⟨[], ⟨⟨rfl, rfl⟩, rfl⟩, _, _, ?x57029, ?s57030, _, hTri _ _ _ _ (newA' _ ?a57028), ?k57031⟩
        case x57029 => cbv <;> rfl
        case s57030 => cbv <;> rfl
        case a57028 => omega
        rintro r57034 σ57035 ⟨x57032, ⟨h57033, ⟨rfl, rfl⟩⟩⟩
        cbv
        refine' ⟨[221, 222, 223], ⟨⟨rfl, rfl⟩, rfl⟩, _, _, ?x57038, ?s57039, _, hTri _ _ _ _ (jnewA_bad ?a57036 ?a57037), ?k57040⟩
        case x57038 => cbv <;> rfl
        case s57039 => cbv <;> rfl
        case a57036 => assumption
        case a57037 => assumption
        rintro r57041 σ57042 ⟨rfl, rfl⟩
        cbv
        split
        case h_2 => rename_i hh; exact absurd hh (by rw [hH]; simp; try omega)
        cbv
        generalize e57044 : H Bool _ = b57043
        rw [hH] at e57044
        replace e57044 := boolN e57044
        refine' ⟨[], ⟨⟨rfl, rfl⟩, rfl⟩, _, _, ?x57045, ?s57046, _, hTri _ _ _ _ live07, ?k57047⟩
        case x57045 => cbv <;> rfl
        case s57046 => cbv <;> rfl
        rintro r57048 σ57049 ⟨rfl, rfl⟩
        cbv
        refine' ⟨_, [], rfl, ?c57050, ?s57051⟩
        case s57051 => cbv <;> repeat' first | exact rfl | exact trivial | exact Or.inl rfl | apply And.intro
        case c57050 => rfl
  have hjd := hj.2.2
  by_cases hc : 0 < n ∧ n ≤ c - 1 ∧ ∀ j : Int, 0 ≤ j → j < n → okP (pk [j]) (pn [j]) (pb [j])
  case neg =>
    refine tri_of TT_ok mixed (OR := ORD5) (fn := Try.f5) (c := body Try.f5) (by kernel_rfl) (by kernel_rfl) (by kernel_rfl) (by kernel_rfl) (by simp [Try.f5]) fun H Tri hH hTri => ?_
    cbv
    refine' ⟨[], ⟨⟨rfl, rfl⟩, rfl⟩, _, _, ?x62001, ?s62002, _, hTri _ _ _ _ (few_tri _ _ _ _ ?a62000), ?k62003⟩
    case x62001 => cbv <;> rfl
    case s62002 => cbv <;> rfl
    case a62000 => assumption
    rintro r62006 σ62007 ⟨b62004, ⟨rfl, ⟨h62005, rfl⟩⟩⟩
    cbv
    rcases b62004 with _ | _
    · simp only [Bool.false_eq_true, Bool.true_eq_false, reduceCtorEq, false_iff, true_iff, forall_const, not_false_eq_true, false_implies] at h62005
      cbv
      refine' ⟨[], ⟨⟨rfl, rfl⟩, rfl⟩, _, _, ?x62008, ?s62009, _, hTri _ _ _ _ live07, ?k62010⟩
      case x62008 => cbv <;> rfl
      case s62009 => cbv <;> rfl
      rintro r62011 σ62012 ⟨rfl, rfl⟩
      cbv
      refine' ⟨_, [], rfl, ?c62013, ?s62014⟩
      case s62014 => cbv <;> repeat' first | exact rfl | exact trivial | exact Or.inl rfl | apply And.intro
      case c62013 => rfl
    · simp only [Bool.false_eq_true, Bool.true_eq_false, reduceCtorEq, false_iff, true_iff, forall_const, not_false_eq_true, false_implies] at h62005
      cbv
      split
      · rename_i h62015
        simp only [hH, decide_eq_true_eq] at h62015
        cbv
        generalize e62017 : H Bool _ = b62016
        rw [hH] at e62017
        replace e62017 := boolN e62017
        refine' ⟨[], ⟨⟨rfl, rfl⟩, rfl⟩, _, _, ?x62018, ?s62019, _, hTri _ _ _ _ live07, ?k62020⟩
        case x62018 => cbv <;> rfl
        case s62019 => cbv <;> rfl
        rintro r62021 σ62022 ⟨rfl, rfl⟩
        cbv
        refine' ⟨_, [], rfl, ?c62023, ?s62024⟩
        case s62024 => cbv <;> repeat' first | exact rfl | exact trivial | exact Or.inl rfl | apply And.intro
        case c62023 => rfl
      · rename_i h62025
        simp only [hH, decide_eq_false_iff_not, Int.not_lt, Int.not_le] at h62025
        cbv
        generalize e62027 : H Bool _ = b62026
        rw [hH] at e62027
        replace e62027 := boolN e62027
        refine' ⟨[], ⟨⟨rfl, rfl⟩, rfl⟩, _, _, ?x62029, ?s62030, _, hTri _ _ _ _ (newA' _ ?a62028), ?k62031⟩
        case x62029 => cbv <;> rfl
        case s62030 => cbv <;> rfl
        case a62028 => omega
        rintro r62034 σ62035 ⟨x62032, ⟨h62033, ⟨rfl, rfl⟩⟩⟩
        cbv
        refine' ⟨[221, 222, 223], ⟨⟨rfl, rfl⟩, rfl⟩, _, _, ?x62038, ?s62039, _, hTri _ _ _ _ (jnewA ?a62036 ?a62037), ?k62040⟩
        case x62038 => cbv <;> rfl
        case s62039 => cbv <;> rfl
        case a62036 => assumption
        case a62037 => assumption
        rintro r62041 σ62042 ⟨rfl, rfl⟩
        cbv
        split
        case h_1 => rename_i hh; exact absurd hh (by rw [hH]; simp; try omega)
        cbv
        generalize e62044 : H Bool _ = b62043
        rw [hH] at e62044
        replace e62044 := boolN e62044
        refine' ⟨[241, 221, 222, 223], ⟨⟨rfl, rfl⟩, rfl⟩, _, _, ?x62049, ?s62050, _, hTri _ _ _ _ (commitA_bad _ ?a62045 ?a62046 ?a62047 ?a62048), ?k62051⟩
        case x62049 => cbv <;> rfl
        case s62050 => cbv <;> rfl
        case a62045 => assumption
        case a62046 => assumption
        case a62047 => omega
        case a62048 => assumption
        rintro r62054 σ62055 ⟨v62052, ⟨h62053, ⟨rfl, rfl⟩⟩⟩
        cbv
        split
        case h_2 => rename_i hh; exact absurd hh (by rw [hH]; simp; omega)
        cbv
        generalize e62057 : H Bool _ = b62056
        rw [hH] at e62057
        replace e62057 := boolN e62057
        refine' ⟨[241, 221, 222, 223], ⟨⟨rfl, rfl⟩, rfl⟩, _, _, ?x62062, ?s62063, _, hTri _ _ _ _ (scanA_new ?a62058 ?a62059 ?a62060 _ ?a62061), ?k62064⟩
        case x62062 => cbv <;> rfl
        case s62063 => cbv <;> rfl
        case a62058 => assumption
        case a62059 => assumption
        case a62060 => omega
        case a62061 => rfl
        rintro r62067 σ62068 ⟨x62065, ⟨h62066, ⟨rfl, rfl⟩⟩⟩
        cbv
        refine' ⟨[], ⟨⟨rfl, rfl⟩, rfl⟩, _, _, ?x62069, ?s62070, _, hTri _ _ _ _ live07, ?k62071⟩
        case x62069 => cbv <;> rfl
        case s62070 => cbv <;> rfl
        rintro r62072 σ62073 ⟨rfl, rfl⟩
        cbv
        refine' ⟨_, [], rfl, ?c62074, ?s62075⟩
        case s62075 => cbv <;> repeat' first | exact rfl | exact trivial | exact Or.inl rfl | apply And.intro
        case c62074 => rfl
  by_cases hx : d = 4294967295
  case pos =>
    refine tri_of TT_ok mixed (OR := ORD5) (fn := Try.f5) (c := body Try.f5) (by kernel_rfl) (by kernel_rfl) (by kernel_rfl) (by kernel_rfl) (by simp [Try.f5]) fun H Tri hH hTri => ?_
    cbv
    refine' ⟨[], ⟨⟨rfl, rfl⟩, rfl⟩, _, _, ?x66001, ?s66002, _, hTri _ _ _ _ (few_tri _ _ _ _ ?a66000), ?k66003⟩
    case x66001 => cbv <;> rfl
    case s66002 => cbv <;> rfl
    case a66000 => assumption
    rintro r66006 σ66007 ⟨b66004, ⟨rfl, ⟨h66005, rfl⟩⟩⟩
    cbv
    rcases b66004 with _ | _
    · simp only [Bool.false_eq_true, Bool.true_eq_false, reduceCtorEq, false_iff, true_iff, forall_const, not_false_eq_true, false_implies] at h66005
      cbv
      refine' ⟨[], ⟨⟨rfl, rfl⟩, rfl⟩, _, _, ?x66008, ?s66009, _, hTri _ _ _ _ live07, ?k66010⟩
      case x66008 => cbv <;> rfl
      case s66009 => cbv <;> rfl
      rintro r66011 σ66012 ⟨rfl, rfl⟩
      cbv
      refine' ⟨_, [], rfl, ?c66013, ?s66014⟩
      case s66014 => cbv <;> repeat' first | exact rfl | exact trivial | exact Or.inl rfl | apply And.intro
      case c66013 => rfl
    · simp only [Bool.false_eq_true, Bool.true_eq_false, reduceCtorEq, false_iff, true_iff, forall_const, not_false_eq_true, false_implies] at h66005
      cbv
      split
      · rename_i h66015
        simp only [hH, decide_eq_true_eq] at h66015
        cbv
        generalize e66017 : H Bool _ = b66016
        rw [hH] at e66017
        replace e66017 := boolN e66017
        refine' ⟨[], ⟨⟨rfl, rfl⟩, rfl⟩, _, _, ?x66018, ?s66019, _, hTri _ _ _ _ live07, ?k66020⟩
        case x66018 => cbv <;> rfl
        case s66019 => cbv <;> rfl
        rintro r66021 σ66022 ⟨rfl, rfl⟩
        cbv
        refine' ⟨_, [], rfl, ?c66023, ?s66024⟩
        case s66024 => cbv <;> repeat' first | exact rfl | exact trivial | exact Or.inl rfl | apply And.intro
        case c66023 => rfl
      · rename_i h66025
        simp only [hH, decide_eq_false_iff_not, Int.not_lt, Int.not_le] at h66025
        cbv
        generalize e66027 : H Bool _ = b66026
        rw [hH] at e66027
        replace e66027 := boolN e66027
        refine' ⟨[], ⟨⟨rfl, rfl⟩, rfl⟩, _, _, ?x66029, ?s66030, _, hTri _ _ _ _ (newA' _ ?a66028), ?k66031⟩
        case x66029 => cbv <;> rfl
        case s66030 => cbv <;> rfl
        case a66028 => omega
        rintro r66034 σ66035 ⟨x66032, ⟨h66033, ⟨rfl, rfl⟩⟩⟩
        cbv
        refine' ⟨[221, 222, 223], ⟨⟨rfl, rfl⟩, rfl⟩, _, _, ?x66038, ?s66039, _, hTri _ _ _ _ (jnewA ?a66036 ?a66037), ?k66040⟩
        case x66038 => cbv <;> rfl
        case s66039 => cbv <;> rfl
        case a66036 => assumption
        case a66037 => assumption
        rintro r66041 σ66042 ⟨rfl, rfl⟩
        cbv
        split
        case h_1 => rename_i hh; exact absurd hh (by rw [hH]; simp; try omega)
        cbv
        generalize e66044 : H Bool _ = b66043
        rw [hH] at e66044
        replace e66044 := boolN e66044
        refine' ⟨[241, 221, 222, 223], ⟨⟨rfl, rfl⟩, rfl⟩, _, _, ?x66050, ?s66051, _, hTri _ _ _ _ (commitA' _ ?a66045 ?a66046 ?a66047 _ ?a66048 ?a66049), ?k66052⟩
        case x66050 => cbv <;> rfl
        case s66051 => cbv <;> rfl
        case a66045 => assumption
        case a66046 => assumption
        case a66047 => omega
        case a66048 => rfl
        case a66049 => assumption
        rintro r66055 σ66056 ⟨x66053, ⟨h66054, ⟨rfl, rfl⟩⟩⟩
        cbv
        split
        case h_1 => rename_i hh; exact absurd hh (by rw [hH]; simp; try omega)
        cbv
        generalize e66058 : H Bool _ = b66057
        rw [hH] at e66058
        replace e66058 := boolN e66058
        refine' ⟨[221, 222, 261], ⟨⟨rfl, rfl⟩, rfl⟩, _, _, ?x66061, ?s66062, _, hTri _ _ _ _ (jnewA ?a66059 ?a66060), ?k66063⟩
        case x66061 => cbv <;> rfl
        case s66062 => cbv <;> rfl
        case a66059 => assumption
        case a66060 => assumption
        rintro r66064 σ66065 ⟨rfl, rfl⟩
        cbv
        refine' ⟨[241, 221, 222, 261], ⟨⟨rfl, rfl⟩, rfl⟩, _, _, ?x66071, ?s66072, _, hTri _ _ _ _ (scanA_back ?a66066 ?a66067 ?a66068 _ ?a66069 ?a66070), ?k66073⟩
        case x66071 => cbv <;> rfl
        case s66072 => cbv <;> rfl
        case a66066 => assumption
        case a66067 => assumption
        case a66068 => omega
        case a66069 => rfl
        case a66070 => assumption
        rintro r66080 σ66081 ⟨x66074, ⟨x66075, ⟨x66076, ⟨x66077, ⟨h66078, ⟨h66079, ⟨rfl, rfl⟩⟩⟩⟩⟩⟩⟩
        cbv
        refine' ⟨[281, 221, 222, 261], ⟨⟨rfl, rfl⟩, rfl⟩, _, _, ?x66087, ?s66088, _, hTri _ _ _ _ (scanA_back ?a66082 ?a66083 ?a66084 _ ?a66085 ?a66086), ?k66089⟩
        case x66087 => cbv <;> rfl
        case s66088 => cbv <;> rfl
        case a66082 => assumption
        case a66083 => assumption
        case a66084 => omega
        case a66085 => rfl
        case a66086 => assumption
        rintro r66096 σ66097 ⟨x66090, ⟨x66091, ⟨x66092, ⟨x66093, ⟨h66094, ⟨h66095, ⟨rfl, rfl⟩⟩⟩⟩⟩⟩⟩
        cbv
        refine' ⟨[], ⟨⟨rfl, rfl⟩, rfl⟩, _, _, ?x66100, ?s66101, _, hTri _ _ _ _ (pages_same _ _ _ _ _ _ _ _ _ ?a66098 ?a66099), ?k66102⟩
        case x66100 => cbv <;> rfl
        case s66101 => cbv <;> rfl
        case a66098 => omega
        case a66099 => intros; simp only [AM.hd, Int.add_zero, List.tail_cons]; solve_by_elim
        rintro r66103 σ66104 ⟨rfl, rfl⟩
        cbv
        refine' ⟨[], ⟨⟨rfl, rfl⟩, rfl⟩, _, _, ?x66107, ?s66108, _, hTri _ _ _ _ (pages_same _ _ _ _ _ _ _ _ _ ?a66105 ?a66106), ?k66109⟩
        case x66107 => cbv <;> rfl
        case s66108 => cbv <;> rfl
        case a66105 => omega
        case a66106 => intros; simp only [AM.hd, Int.add_zero, List.tail_cons]; solve_by_elim
        rintro r66110 σ66111 ⟨rfl, rfl⟩
        cbv
        rcases ab with _ | _
        · cbv
          refine' ⟨[241, 221, 222, 261], ⟨⟨rfl, rfl⟩, rfl⟩, _, _, ?x66113, ?s66114, _, hTri _ _ _ _ (jnext_bad _ _ _ ⟨_, _, _, _, _, _, _, _, _⟩ ?a66112), ?k66115⟩
          case x66113 => cbv <;> rfl
          case s66114 => cbv <;> rfl
          case a66112 => assumption
          rintro r66116 σ66117 ⟨rfl, rfl⟩
          cbv
          split
          case h_2 => rename_i hh; exact absurd hh (by rw [hH]; simp; try omega)
          cbv
          split
          case h_2 => rename_i hh; exact absurd hh (by rw [hH]; simp; omega)
          cbv
          generalize e66119 : H Bool _ = b66118
          rw [hH] at e66119
          replace e66119 := boolN e66119
          generalize e66121 : H Bool _ = b66120
          rw [hH] at e66121
          replace e66121 := boolN e66121
          refine' ⟨[], ⟨⟨rfl, rfl⟩, rfl⟩, _, _, ?x66122, ?s66123, _, hTri _ _ _ _ live07, ?k66124⟩
          case x66122 => cbv <;> rfl
          case s66123 => cbv <;> rfl
          rintro r66125 σ66126 ⟨rfl, rfl⟩
          cbv
          refine' ⟨_, [], rfl, ?c66127, ?s66128⟩
          case s66128 => cbv <;> repeat' first | exact rfl | exact trivial | exact Or.inl rfl | apply And.intro
          case c66127 => rfl
        · cbv
          refine' ⟨[241, 221, 222, 261], ⟨⟨rfl, rfl⟩, rfl⟩, _, _, ?x66133, ?s66134, _, hTri _ _ _ _ (abortA' ?a66129 ?a66130 ?a66131 _ ?a66132), ?k66135⟩
          case x66133 => cbv <;> rfl
          case s66134 => cbv <;> rfl
          case a66129 => assumption
          case a66130 => assumption
          case a66131 => omega
          case a66132 => rfl
          rintro r66138 σ66139 ⟨x66136, ⟨h66137, ⟨rfl, rfl⟩⟩⟩
          cbv
          refine' ⟨[241, 221, 222, 381], ⟨⟨rfl, rfl⟩, rfl⟩, _, _, ?x66152, ?s66153, _, hTri _ _ _ _ (scanA_aborted' ?a66148 ?a66149 ?a66150 _ ?a66151), ?k66154⟩
          case x66152 => cbv <;> rfl
          case s66153 => cbv <;> rfl
          case a66148 => assumption
          case a66149 => assumption
          case a66150 => omega
          case a66151 => rfl
          rintro r66156 σ66157 ⟨x66155, ⟨rfl, rfl⟩⟩
          cbv
          refine' ⟨[], ⟨⟨rfl, rfl⟩, rfl⟩, _, _, ?x66158, ?s66159, _, hTri _ _ _ _ live07, ?k66160⟩
          case x66158 => cbv <;> rfl
          case s66159 => cbv <;> rfl
          rintro r66161 σ66162 ⟨rfl, rfl⟩
          cbv
          refine' ⟨_, [], rfl, ?c66163, ?s66164⟩
          case s66164 => cbv <;> repeat' first | exact rfl | exact trivial | exact Or.inl rfl | apply And.intro
          case c66163 => rfl
  have hj3 : jplace a b c (d + 1) := ⟨hj.1, hj.2.1, by omega, by omega⟩
  refine tri_of TT_ok mixed (OR := ORD5) (fn := Try.f5) (c := body Try.f5) (by kernel_rfl) (by kernel_rfl) (by kernel_rfl) (by kernel_rfl) (by simp [Try.f5]) fun H Tri hH hTri => ?_
  cbv
  refine' ⟨[], ⟨⟨rfl, rfl⟩, rfl⟩, _, _, ?x69001, ?s69002, _, hTri _ _ _ _ (few_tri _ _ _ _ ?a69000), ?k69003⟩
  case x69001 => cbv <;> rfl
  case s69002 => cbv <;> rfl
  case a69000 => assumption
  rintro r69006 σ69007 ⟨b69004, ⟨rfl, ⟨h69005, rfl⟩⟩⟩
  cbv
  rcases b69004 with _ | _
  · simp only [Bool.false_eq_true, Bool.true_eq_false, reduceCtorEq, false_iff, true_iff, forall_const, not_false_eq_true, false_implies] at h69005
    cbv
    refine' ⟨[], ⟨⟨rfl, rfl⟩, rfl⟩, _, _, ?x69008, ?s69009, _, hTri _ _ _ _ live07, ?k69010⟩
    case x69008 => cbv <;> rfl
    case s69009 => cbv <;> rfl
    rintro r69011 σ69012 ⟨rfl, rfl⟩
    cbv
    refine' ⟨_, [], rfl, ?c69013, ?s69014⟩
    case s69014 => cbv <;> repeat' first | exact rfl | exact trivial | exact Or.inl rfl | apply And.intro
    case c69013 => rfl
  · simp only [Bool.false_eq_true, Bool.true_eq_false, reduceCtorEq, false_iff, true_iff, forall_const, not_false_eq_true, false_implies] at h69005
    cbv
    split
    · rename_i h69015
      simp only [hH, decide_eq_true_eq] at h69015
      cbv
      generalize e69017 : H Bool _ = b69016
      rw [hH] at e69017
      replace e69017 := boolN e69017
      refine' ⟨[], ⟨⟨rfl, rfl⟩, rfl⟩, _, _, ?x69018, ?s69019, _, hTri _ _ _ _ live07, ?k69020⟩
      case x69018 => cbv <;> rfl
      case s69019 => cbv <;> rfl
      rintro r69021 σ69022 ⟨rfl, rfl⟩
      cbv
      refine' ⟨_, [], rfl, ?c69023, ?s69024⟩
      case s69024 => cbv <;> repeat' first | exact rfl | exact trivial | exact Or.inl rfl | apply And.intro
      case c69023 => rfl
    · rename_i h69025
      simp only [hH, decide_eq_false_iff_not, Int.not_lt, Int.not_le] at h69025
      cbv
      generalize e69027 : H Bool _ = b69026
      rw [hH] at e69027
      replace e69027 := boolN e69027
      refine' ⟨[], ⟨⟨rfl, rfl⟩, rfl⟩, _, _, ?x69029, ?s69030, _, hTri _ _ _ _ (newA' _ ?a69028), ?k69031⟩
      case x69029 => cbv <;> rfl
      case s69030 => cbv <;> rfl
      case a69028 => omega
      rintro r69034 σ69035 ⟨x69032, ⟨h69033, ⟨rfl, rfl⟩⟩⟩
      cbv
      refine' ⟨[221, 222, 223], ⟨⟨rfl, rfl⟩, rfl⟩, _, _, ?x69038, ?s69039, _, hTri _ _ _ _ (jnewA ?a69036 ?a69037), ?k69040⟩
      case x69038 => cbv <;> rfl
      case s69039 => cbv <;> rfl
      case a69036 => assumption
      case a69037 => assumption
      rintro r69041 σ69042 ⟨rfl, rfl⟩
      cbv
      split
      case h_1 => rename_i hh; exact absurd hh (by rw [hH]; simp; try omega)
      cbv
      generalize e69044 : H Bool _ = b69043
      rw [hH] at e69044
      replace e69044 := boolN e69044
      refine' ⟨[241, 221, 222, 223], ⟨⟨rfl, rfl⟩, rfl⟩, _, _, ?x69050, ?s69051, _, hTri _ _ _ _ (commitA' _ ?a69045 ?a69046 ?a69047 _ ?a69048 ?a69049), ?k69052⟩
      case x69050 => cbv <;> rfl
      case s69051 => cbv <;> rfl
      case a69045 => assumption
      case a69046 => assumption
      case a69047 => omega
      case a69048 => rfl
      case a69049 => assumption
      rintro r69055 σ69056 ⟨x69053, ⟨h69054, ⟨rfl, rfl⟩⟩⟩
      cbv
      split
      case h_1 => rename_i hh; exact absurd hh (by rw [hH]; simp; try omega)
      cbv
      generalize e69058 : H Bool _ = b69057
      rw [hH] at e69058
      replace e69058 := boolN e69058
      refine' ⟨[221, 222, 261], ⟨⟨rfl, rfl⟩, rfl⟩, _, _, ?x69061, ?s69062, _, hTri _ _ _ _ (jnewA ?a69059 ?a69060), ?k69063⟩
      case x69061 => cbv <;> rfl
      case s69062 => cbv <;> rfl
      case a69059 => assumption
      case a69060 => assumption
      rintro r69064 σ69065 ⟨rfl, rfl⟩
      cbv
      refine' ⟨[241, 221, 222, 261], ⟨⟨rfl, rfl⟩, rfl⟩, _, _, ?x69071, ?s69072, _, hTri _ _ _ _ (scanA_back ?a69066 ?a69067 ?a69068 _ ?a69069 ?a69070), ?k69073⟩
      case x69071 => cbv <;> rfl
      case s69072 => cbv <;> rfl
      case a69066 => assumption
      case a69067 => assumption
      case a69068 => omega
      case a69069 => rfl
      case a69070 => assumption
      rintro r69080 σ69081 ⟨x69074, ⟨x69075, ⟨x69076, ⟨x69077, ⟨h69078, ⟨h69079, ⟨rfl, rfl⟩⟩⟩⟩⟩⟩⟩
      cbv
      refine' ⟨[281, 221, 222, 261], ⟨⟨rfl, rfl⟩, rfl⟩, _, _, ?x69087, ?s69088, _, hTri _ _ _ _ (scanA_back ?a69082 ?a69083 ?a69084 _ ?a69085 ?a69086), ?k69089⟩
      case x69087 => cbv <;> rfl
      case s69088 => cbv <;> rfl
      case a69082 => assumption
      case a69083 => assumption
      case a69084 => omega
      case a69085 => rfl
      case a69086 => assumption
      rintro r69096 σ69097 ⟨x69090, ⟨x69091, ⟨x69092, ⟨x69093, ⟨h69094, ⟨h69095, ⟨rfl, rfl⟩⟩⟩⟩⟩⟩⟩
      cbv
      refine' ⟨[], ⟨⟨rfl, rfl⟩, rfl⟩, _, _, ?x69100, ?s69101, _, hTri _ _ _ _ (pages_same _ _ _ _ _ _ _ _ _ ?a69098 ?a69099), ?k69102⟩
      case x69100 => cbv <;> rfl
      case s69101 => cbv <;> rfl
      case a69098 => omega
      case a69099 => intros; simp only [AM.hd, Int.add_zero, List.tail_cons]; solve_by_elim
      rintro r69103 σ69104 ⟨rfl, rfl⟩
      cbv
      refine' ⟨[], ⟨⟨rfl, rfl⟩, rfl⟩, _, _, ?x69107, ?s69108, _, hTri _ _ _ _ (pages_same _ _ _ _ _ _ _ _ _ ?a69105 ?a69106), ?k69109⟩
      case x69107 => cbv <;> rfl
      case s69108 => cbv <;> rfl
      case a69105 => omega
      case a69106 => intros; simp only [AM.hd, Int.add_zero, List.tail_cons]; solve_by_elim
      rintro r69110 σ69111 ⟨rfl, rfl⟩
      cbv
      rcases ab with _ | _
      · cbv
        refine' ⟨[241, 221, 222, 261], ⟨⟨rfl, rfl⟩, rfl⟩, _, _, ?x69113, ?s69114, _, hTri _ _ _ _ (jnext _ _ _ ⟨_, _, _, _, _, _, _, _, _⟩ ?a69112), ?k69115⟩
        case x69113 => cbv <;> rfl
        case s69114 => cbv <;> rfl
        case a69112 => omega
        rintro r69118 σ69119 ⟨v69116, ⟨h69117, ⟨rfl, rfl⟩⟩⟩
        cbv
        split
        case h_1 => rename_i hh; exact absurd hh (by rw [hH]; simp; try omega)
        cbv
        generalize e69121 : H Bool _ = b69120
        rw [hH] at e69121
        replace e69121 := boolN e69121
        refine' ⟨[241, 221, 222, 261], ⟨⟨rfl, rfl⟩, rfl⟩, _, _, ?x69144, ?s69145, _, hTri _ _ _ _ (scanA_after _ ?a69137 ?a69138 ?a69139 ?a69140 _ ?a69141 ?a69142 ?a69143), ?k69146⟩
        case x69144 => cbv <;> rfl
        case s69145 => cbv <;> rfl
        case a69137 => assumption
        case a69138 => assumption
        case a69139 => simp_all; done
        case a69140 => omega
        case a69141 => rfl
        case a69142 => assumption
        case a69143 => omega
        rintro r69149 σ69150 ⟨x69147, ⟨h69148, ⟨rfl, rfl⟩⟩⟩
        cbv
        refine' ⟨[], ⟨⟨rfl, rfl⟩, rfl⟩, _, _, ?x69151, ?s69152, _, hTri _ _ _ _ live07, ?k69153⟩
        case x69151 => cbv <;> rfl
        case s69152 => cbv <;> rfl
        rintro r69154 σ69155 ⟨rfl, rfl⟩
        cbv
        refine' ⟨_, [], rfl, ?c69156, ?s69157⟩
        case s69157 => cbv <;> repeat' first | exact rfl | exact trivial | exact Or.inl rfl | apply And.intro
        case c69156 => rfl
      · cbv
        refine' ⟨[241, 221, 222, 261], ⟨⟨rfl, rfl⟩, rfl⟩, _, _, ?x69162, ?s69163, _, hTri _ _ _ _ (abortA' ?a69158 ?a69159 ?a69160 _ ?a69161), ?k69164⟩
        case x69162 => cbv <;> rfl
        case s69163 => cbv <;> rfl
        case a69158 => assumption
        case a69159 => assumption
        case a69160 => omega
        case a69161 => rfl
        rintro r69167 σ69168 ⟨x69165, ⟨h69166, ⟨rfl, rfl⟩⟩⟩
        cbv
        refine' ⟨[241, 221, 222, 381], ⟨⟨rfl, rfl⟩, rfl⟩, _, _, ?x69181, ?s69182, _, hTri _ _ _ _ (scanA_aborted' ?a69177 ?a69178 ?a69179 _ ?a69180), ?k69183⟩
        case x69181 => cbv <;> rfl
        case s69182 => cbv <;> rfl
        case a69177 => assumption
        case a69178 => assumption
        case a69179 => omega
        case a69180 => rfl
        rintro r69185 σ69186 ⟨x69184, ⟨rfl, rfl⟩⟩
        cbv
        refine' ⟨[], ⟨⟨rfl, rfl⟩, rfl⟩, _, _, ?x69187, ?s69188, _, hTri _ _ _ _ live07, ?k69189⟩
        case x69187 => cbv <;> rfl
        case s69188 => cbv <;> rfl
        rintro r69190 σ69191 ⟨rfl, rfl⟩
        cbv
        refine' ⟨_, [], rfl, ?c69192, ?s69193⟩
        case s69193 => cbv <;> repeat' first | exact rfl | exact trivial | exact Or.inl rfl | apply And.intro
        case c69192 => rfl
end Go.Proofs.Ytabmdohibkkflaa.AM

namespace Go.Proofs.Ytabmdohibkkflaa.AM
open Go
set_option maxRecDepth 100000
set_option maxHeartbeats 4000000
theorem last07 (n n' : Int) (pk pn : Ix → Int) (pb : Ix → Str) (pk' pn' : Ix → Int) (pb' : Ix → Str) (ab : Bool) (h0 : 0 ≤ n) (h0' : 0 ≤ n') : TriS Try.prog 3 [.l n [.i .i64 pk, .i .i64 pn, .s pb] false, .l n' [.i .i64 pk', .i .i64 pn', .s pb'] false, .b ab] [] (fun r _ => r = .b true) := by
  have hj7 : jplace 20 3 10 7 := ⟨by omega, by omega, by omega⟩
  have hj8 : jplace 20 3 10 8 := ⟨by omega, by omega, by omega⟩
  have hj8' : jplace 20 3 10 (7 + 1) := hj8
  by_cases hc : 0 < n ∧ n ≤ 10 - 1 ∧ ∀ j : Int, 0 ≤ j → j < n → okP (pk [j]) (pn [j]) (pb [j])
  case neg =>
    by_cases hd : 0 < n' ∧ n' ≤ 10 - 1 ∧ ∀ j : Int, 0 ≤ j → j < n' → okP (pk' [j]) (pn' [j]) (pb' [j])
    case neg =>
      refine tri_of TT_ok mixed (OR := ORD3) (fn := Try.f3) (c := body Try.f3) (by kernel_rfl) (by kernel_rfl) (by kernel_rfl) (by kernel_rfl) (by simp [Try.f3]) fun H Tri hH hTri => ?_
      cbv
      split
      · rename_i h16000
        simp only [hH, decide_eq_true_eq] at h16000
        cbv
        generalize e16002 : H Bool _ = b16001
        rw [hH] at e16002
        replace e16002 := boolN e16002
        refine' ⟨[], ⟨⟨rfl, rfl⟩, rfl⟩, _, _, ?x16003, ?s16004, _, hTri _ _ _ _ live07, ?k16005⟩
        case x16003 => cbv <;> rfl
        case s16004 => cbv <;> rfl
        rintro r16006 σ16007 ⟨rfl, rfl⟩
        cbv
        refine' ⟨_, [], rfl, ?c16008, ?s16009⟩
        case s16009 => cbv <;> repeat' first | exact rfl | exact trivial | exact Or.inl rfl | apply And.intro
        case c16008 => rfl
      · rename_i h16010
        simp only [hH, decide_eq_false_iff_not, Int.not_lt, Int.not_le] at h16010
        cbv
        split
        · rename_i h16011
          simp only [hH, decide_eq_true_eq] at h16011
          cbv
          generalize e16013 : H Bool _ = b16012
          rw [hH] at e16013
          replace e16013 := boolN e16013
          generalize e16015 : H Bool _ = b16014
          rw [hH] at e16015
          replace e16015 := boolN e16015
          refine' ⟨[], ⟨⟨rfl, rfl⟩, rfl⟩, _, _, ?x16016, ?s16017, _, hTri _ _ _ _ live07, ?k16018⟩
          case x16016 => cbv <;> rfl
          case s16017 => cbv <;> rfl
          rintro r16019 σ16020 ⟨rfl, rfl⟩
          cbv
          refine' ⟨_, [], rfl, ?c16021, ?s16022⟩
          case s16022 => cbv <;> repeat' first | exact rfl | exact trivial | exact Or.inl rfl | apply And.intro
          case c16021 => rfl
        · rename_i h16023
          simp only [hH, decide_eq_false_iff_not, Int.not_lt, Int.not_le] at h16023
          cbv
          split
          · rename_i h16024
            simp only [hH, decide_eq_true_eq] at h16024
            cbv
            generalize e16026 : H Bool _ = b16025
            rw [hH] at e16026
            replace e16026 := boolN e16026
            generalize e16028 : H Bool _ = b16027
            rw [hH] at e16028
            replace e16028 := boolN e16028
            generalize e16030 : H Bool _ = b16029
            rw [hH] at e16030
            replace e16030 := boolN e16030
            refine' ⟨[], ⟨⟨rfl, rfl⟩, rfl⟩, _, _, ?x16031, ?s16032, _, hTri _ _ _ _ live07, ?k16033⟩
            case x16031 => cbv <;> rfl
            case s16032 => cbv <;> rfl
            rintro r16034 σ16035 ⟨rfl, rfl⟩
            cbv
            refine' ⟨_, [], rfl, ?c16036, ?s16037⟩
            case s16037 => cbv <;> repeat' first | exact rfl | exact trivial | exact Or.inl rfl | apply And.intro
            case c16036 => rfl
          · rename_i h16038
            simp only [hH, decide_eq_false_iff_not, Int.not_lt, Int.not_le] at h16038
            cbv
            split
            · rename_i h16039
              simp only [hH, decide_eq_true_eq] at h16039
              cbv
              generalize e16041 : H Bool _ = b16040
              rw [hH] at e16041
              replace e16041 := boolN e16041
              generalize e16043 : H Bool _ = b16042
              rw [hH] at e16043
              replace e16043 := boolN e16043
              generalize e16045 : H Bool _ = b16044
              rw [hH] at e16045
              replace e16045 := boolN e16045
              generalize e16047 : H Bool _ = b16046
              rw [hH] at e16047
              replace e16047 := boolN e16047
              refine' ⟨[], ⟨⟨rfl, rfl⟩, rfl⟩, _, _, ?x16048, ?s16049, _, hTri _ _ _ _ live07, ?k16050⟩
              case x16048 => cbv <;> rfl
              case s16049 => cbv <;> rfl
              rintro r16051 σ16052 ⟨rfl, rfl⟩
              cbv
              refine' ⟨_, [], rfl, ?c16053, ?s16054⟩
              case s16054 => cbv <;> repeat' first | exact rfl | exact trivial | exact Or.inl rfl | apply And.intro
              case c16053 => rfl
            · rename_i h16055
              simp only [hH, decide_eq_false_iff_not, Int.not_lt, Int.not_le] at h16055
              cbv
              generalize e16057 : H Bool _ = b16056
              rw [hH] at e16057
              replace e16057 := boolN e16057
              generalize e16059 : H Bool _ = b16058
              rw [hH] at e16059
              replace e16059 := boolN e16059
              generalize e16061 : H Bool _ = b16060
              rw [hH] at e16061
              replace e16061 := boolN e16061
              generalize e16063 : H Bool _ = b16062
              rw [hH] at e16063
              replace e16063 := boolN e16063
              refine' ⟨[], ⟨⟨rfl, rfl⟩, rfl⟩, _, _, ?x16065, ?s16066, _, hTri _ _ _ _ (few_tri _ _ _ _ ?a16064), ?k16067⟩
              case x16065 => cbv <;> rfl
              case s16066 => cbv <;> rfl
              case a16064 => assumption
              rintro r16070 σ16071 ⟨b16068, ⟨rfl, ⟨h16069, rfl⟩⟩⟩
              cbv
              rcases b16068 with _ | _
              · simp only [Bool.false_eq_true, Bool.true_eq_false, reduceCtorEq, false_iff, true_iff, forall_const, not_false_eq_true, false_implies] at h16069
                cbv
                refine' ⟨[], ⟨⟨rfl, rfl⟩, rfl⟩, _, _, ?x16072, ?s16073, _, hTri _ _ _ _ live07, ?k16074⟩
                case x16072 => cbv <;> rfl
                case s16073 => cbv <;> rfl
                rintro r16075 σ16076 ⟨rfl, rfl⟩
                cbv
                refine' ⟨_, [], rfl, ?c16077, ?s16078⟩
                case s16078 => cbv <;> repeat' first | exact rfl | exact trivial | exact Or.inl rfl | apply And.intro
                case c16077 => rfl
              · simp only [Bool.false_eq_true, Bool.true_eq_false, reduceCtorEq, false_iff, true_iff, forall_const, not_false_eq_true, false_implies] at h16069
                cbv
                refine' ⟨[], ⟨⟨rfl, rfl⟩, rfl⟩, _, _, ?x16080, ?s16081, _, hTri _ _ _ _ (few_tri _ _ _ _ ?a16079), ?k16082⟩
                case x16080 => cbv <;> rfl
                case s16081 => cbv <;> rfl
                case a16079 => assumption
                rintro r16085 σ16086 ⟨b16083, ⟨rfl, ⟨h16084, rfl⟩⟩⟩
                cbv
                rcases b16083 with _ | _
                · simp only [Bool.false_eq_true, Bool.true_eq_false, reduceCtorEq, false_iff, true_iff, forall_const, not_false_eq_true, false_implies] at h16084
                  cbv
                  refine' ⟨[], ⟨⟨rfl, rfl⟩, rfl⟩, _, _, ?x16087, ?s16088, _, hTri _ _ _ _ live07, ?k16089⟩
                  case x16087 => cbv <;> rfl
                  case s16088 => cbv <;> rfl
                  rintro r16090 σ16091 ⟨rfl, rfl⟩
                  cbv
                  refine' ⟨_, [], rfl, ?c16092, ?s16093⟩
                  case s16093 => cbv <;> repeat' first | exact rfl | exact trivial | exact Or.inl rfl | apply And.intro
                  case c16092 => rfl
                · simp only [Bool.false_eq_true, Bool.true_eq_false, reduceCtorEq, false_iff, true_iff, forall_const, not_false_eq_true, false_implies] at h16084
                  cbv
                  refine' ⟨[], ⟨⟨rfl, rfl⟩, rfl⟩, _, _, ?x16095, ?s16096, _, hTri _ _ _ _ (newA' _ ?a16094), ?k16097⟩
                  case x16095 => cbv <;> rfl
                  case s16096 => cbv <;> rfl
                  case a16094 => omega
                  rintro r16100 σ16101 ⟨x16098, ⟨h16099, ⟨rfl, rfl⟩⟩⟩
                  cbv
                  refine' ⟨[240, 241, 242], ⟨⟨rfl, rfl⟩, rfl⟩, _, _, ?x16104, ?s16105, _, hTri _ _ _ _ (jnewA ?a16102 ?a16103), ?k16106⟩
                  case x16104 => cbv <;> rfl
                  case s16105 => cbv <;> rfl
                  case a16102 => assumption
                  case a16103 => assumption
                  rintro r16107 σ16108 ⟨rfl, rfl⟩
                  cbv
                  split
                  case h_1 => rename_i hh; exact absurd hh (by rw [hH]; simp; try omega)
                  cbv
                  generalize e16110 : H Bool _ = b16109
                  rw [hH] at e16110
                  replace e16110 := boolN e16110
                  refine' ⟨[260, 240, 241, 242], ⟨⟨rfl, rfl⟩, rfl⟩, _, _, ?x16115, ?s16116, _, hTri _ _ _ _ (commitA_bad _ ?a16111 ?a16112 ?a16113 ?a16114), ?k16117⟩
                  case x16115 => cbv <;> rfl
                  case s16116 => cbv <;> rfl
                  case a16111 => assumption
                  case a16112 => assumption
                  case a16113 => omega
                  case a16114 => assumption
                  rintro r16120 σ16121 ⟨v16118, ⟨h16119, ⟨rfl, rfl⟩⟩⟩
                  cbv
                  rcases ab with _ | _
                  · cbv
                    refine' ⟨[260, 240, 241, 242], ⟨⟨rfl, rfl⟩, rfl⟩, _, _, ?x16126, ?s16127, _, hTri _ _ _ _ (commitA_bad _ ?a16122 ?a16123 ?a16124 ?a16125), ?k16128⟩
                    case x16126 => cbv <;> rfl
                    case s16127 => cbv <;> rfl
                    case a16122 => assumption
                    case a16123 => assumption
                    case a16124 => omega
                    case a16125 => assumption
                    rintro r16131 σ16132 ⟨v16129, ⟨h16130, ⟨rfl, rfl⟩⟩⟩
                    cbv
                    split
                    case h_2 => rename_i hh; exact absurd hh (by rw [hH]; simp; omega)
                    cbv
                    generalize e16134 : H Bool _ = b16133
                    rw [hH] at e16134
                    replace e16134 := boolN e16134
                    refine' ⟨[], ⟨⟨rfl, rfl⟩, rfl⟩, _, _, ?x16135, ?s16136, _, hTri _ _ _ _ live07, ?k16137⟩
                    case x16135 => cbv <;> rfl
                    case s16136 => cbv <;> rfl
                    rintro r16138 σ16139 ⟨rfl, rfl⟩
                    cbv
                    refine' ⟨_, [], rfl, ?c16140, ?s16141⟩
                    case s16141 => cbv <;> repeat' first | exact rfl | exact trivial | exact Or.inl rfl | apply And.intro
                    case c16140 => rfl
                  · cbv
                    refine' ⟨[260, 240, 241, 242], ⟨⟨rfl, rfl⟩, rfl⟩, _, _, ?x16143, ?s16144, _, hTri _ _ _ _ (jnext _ _ _ ⟨_, _, _, _, _, _, _, _, _⟩ ?a16142), ?k16145⟩
                    case x16143 => cbv <;> rfl
                    case s16144 => cbv <;> rfl
                    case a16142 => omega
                    rintro r16148 σ16149 ⟨v16146, ⟨h16147, ⟨rfl, rfl⟩⟩⟩
                    cbv
                    split
                    case h_1 => rename_i hh; exact absurd hh (by rw [hH]; simp; try omega)
                    cbv
                    generalize e16151 : H Bool _ = b16150
                    rw [hH] at e16151
                    replace e16151 := boolN e16151
                    refine' ⟨[260, 240, 241, 242], ⟨⟨rfl, rfl⟩, rfl⟩, _, _, ?x16156, ?s16157, _, hTri _ _ _ _ (commitA_bad _ ?a16152 ?a16153 ?a16154 ?a16155), ?k16158⟩
                    case x16156 => cbv <;> rfl
                    case s16157 => cbv <;> rfl
                    case a16152 => assumption
                    case a16153 => exact ⟨by omega, by omega⟩
                    case a16154 => omega
                    case a16155 => assumption
                    rintro r16161 σ16162 ⟨v16159, ⟨h16160, ⟨rfl, rfl⟩⟩⟩
                    cbv
                    split
                    case h_2 => rename_i hh; exact absurd hh (by rw [hH]; simp; omega)
                    cbv
                    generalize e16164 : H Bool _ = b16163
                    rw [hH] at e16164
                    replace e16164 := boolN e16164
                    refine' ⟨[], ⟨⟨rfl, rfl⟩, rfl⟩, _, _, ?x16165, ?s16166, _, hTri _ _ _ _ live07, ?k16167⟩
                    case x16165 => cbv <;> rfl
                    case s16166 => cbv <;> rfl
                    rintro r16168 σ16169 ⟨rfl, rfl⟩
                    cbv
                    refine' ⟨_, [], rfl, ?c16170, ?s16171⟩
                    case s16171 => cbv <;> repeat' first | exact rfl | exact trivial | exact Or.inl rfl | apply And.intro
                    case c16170 => rfl
    refine tri_of TT_ok mixed (OR := ORD3) (fn := Try.f3) (c := body Try.f3) (by kernel_rfl) (by kernel_rfl) (by kernel_rfl) (by kernel_rfl) (by simp [Try.f3]) fun H Tri hH hTri => ?_
    cbv
    split
    · rename_i h18000
      simp only [hH, decide_eq_true_eq] at h18000
      cbv
      generalize e18002 : H Bool _ = b18001
      rw [hH] at e18002
      replace e18002 := boolN e18002
      refine' ⟨[], ⟨⟨rfl, rfl⟩, rfl⟩, _, _, ?x18003, ?s18004, _, hTri _ _ _ _ live07, ?k18005⟩
      case x18003 => cbv <;> rfl
      case s18004 => cbv <;> rfl
      rintro r18006 σ18007 ⟨rfl, rfl⟩
      cbv
      refine' ⟨_, [], rfl, ?c18008, ?s18009⟩
      case s18009 => cbv <;> repeat' first | exact rfl | exact trivial | exact Or.inl rfl | apply And.intro
      case c18008 => rfl
    · rename_i h18010
      simp only [hH, decide_eq_false_iff_not, Int.not_lt, Int.not_le] at h18010
      cbv
      split
      · rename_i h18011
        simp only [hH, decide_eq_true_eq] at h18011
        cbv
        generalize e18013 : H Bool _ = b18012
        rw [hH] at e18013
        replace e18013 := boolN e18013
        generalize e18015 : H Bool _ = b18014
        rw [hH] at e18015
        replace e18015 := boolN e18015
        refine' ⟨[], ⟨⟨rfl, rfl⟩, rfl⟩, _, _, ?x18016, ?s18017, _, hTri _ _ _ _ live07, ?k18018⟩
        case x18016 => cbv <;> rfl
        case s18017 => cbv <;> rfl
        rintro r18019 σ18020 ⟨rfl, rfl⟩
        cbv
        refine' ⟨_, [], rfl, ?c18021, ?s18022⟩
        case s18022 => cbv <;> repeat' first | exact rfl | exact trivial | exact Or.inl rfl | apply And.intro
        case c18021 => rfl
      · rename_i h18023
        simp only [hH, decide_eq_false_iff_not, Int.not_lt, Int.not_le] at h18023
        cbv
        split
        case h_1 => rename_i hh; exact absurd hh (by rw [hH]; simp; omega)
        cbv
        split
        · rename_i h18024
          simp only [hH, decide_eq_true_eq] at h18024
          cbv
          generalize e18026 : H Bool _ = b18025
          rw [hH] at e18026
          replace e18026 := boolN e18026
          generalize e18028 : H Bool _ = b18027
          rw [hH] at e18028
          replace e18028 := boolN e18028
          generalize e18030 : H Bool _ = b18029
          rw [hH] at e18030
          replace e18030 := boolN e18030
          generalize e18032 : H Bool _ = b18031
          rw [hH] at e18032
          replace e18032 := boolN e18032
          refine' ⟨[], ⟨⟨rfl, rfl⟩, rfl⟩, _, _, ?x18033, ?s18034, _, hTri _ _ _ _ live07, ?k18035⟩
          case x18033 => cbv <;> rfl
          case s18034 => cbv <;> rfl
          rintro r18036 σ18037 ⟨rfl, rfl⟩
          cbv
          refine' ⟨_, [], rfl, ?c18038, ?s18039⟩
          case s18039 => cbv <;> repeat' first | exact rfl | exact trivial | exact Or.inl rfl | apply And.intro
          case c18038 => rfl
        · rename_i h18040
          simp only [hH, decide_eq_false_iff_not, Int.not_lt, Int.not_le] at h18040
          cbv
          generalize e18042 : H Bool _ = b18041
          rw [hH] at e18042
          replace e18042 := boolN e18042
          generalize e18044 : H Bool _ = b18043
          rw [hH] at e18044
          replace e18044 := boolN e18044
          generalize e18046 : H Bool _ = b18045
          rw [hH] at e18046
          replace e18046 := boolN e18046
          generalize e18048 : H Bool _ = b18047
          rw [hH] at e18048
          replace e18048 := boolN e18048
          refine' ⟨[], ⟨⟨rfl, rfl⟩, rfl⟩, _, _, ?x18050, ?s18051, _, hTri _ _ _ _ (few_tri _ _ _ _ ?a18049), ?k18052⟩
          case x18050 => cbv <;> rfl
          case s18051 => cbv <;> rfl
          case a18049 => assumption
          rintro r18055 σ18056 ⟨b18053, ⟨rfl, ⟨h18054, rfl⟩⟩⟩
          cbv
          rcases b18053 with _ | _
          · simp only [Bool.false_eq_true, Bool.true_eq_false, reduceCtorEq, false_iff, true_iff, forall_const, not_false_eq_true, false_implies] at h18054
            cbv
            refine' ⟨[], ⟨⟨rfl, rfl⟩, rfl⟩, _, _, ?x18057, ?s18058, _, hTri _ _ _ _ live07, ?k18059⟩
            case x18057 => cbv <;> rfl
            case s18058 => cbv <;> rfl
            rintro r18060 σ18061 ⟨rfl, rfl⟩
            cbv
            refine' ⟨_, [], rfl, ?c18062, ?s18063⟩
            case s18063 => cbv <;> repeat' first | exact rfl | exact trivial | exact Or.inl rfl | apply And.intro
            case c18062 => rfl
          · simp only [Bool.false_eq_true, Bool.true_eq_false, reduceCtorEq, false_iff, true_iff, forall_const, not_false_eq_true, false_implies] at h18054
            cbv
            refine' ⟨[], ⟨⟨rfl, rfl⟩, rfl⟩, _, _, ?x18065, ?s18066, _, hTri _ _ _ _ (few_tri _ _ _ _ ?a18064), ?k18067⟩
            case x18065 => cbv <;> rfl
            case s18066 => cbv <;> rfl
            case a18064 => assumption
            rintro r18070 σ18071 ⟨b18068, ⟨rfl, ⟨h18069, rfl⟩⟩⟩
            cbv
            rcases b18068 with _ | _
            · simp only [Bool.false_eq_true, Bool.true_eq_false, reduceCtorEq, false_iff, true_iff, forall_const, not_false_eq_true, false_implies] at h18069
              cbv
              refine' ⟨[], ⟨⟨rfl, rfl⟩, rfl⟩, _, _, ?x18072, ?s18073, _, hTri _ _ _ _ live07, ?k18074⟩
              case x18072 => cbv <;> rfl
              case s18073 => cbv <;> rfl
              rintro r18075 σ18076 ⟨rfl, rfl⟩
              cbv
              refine' ⟨_, [], rfl, ?c18077, ?s18078⟩
              case s18078 => cbv <;> repeat' first | exact rfl | exact trivial | exact Or.inl rfl | apply And.intro
              case c18077 => rfl
            · simp only [Bool.false_eq_true, Bool.true_eq_false, reduceCtorEq, false_iff, true_iff, forall_const, not_false_eq_true, false_implies] at h18069
              cbv
              refine' ⟨[], ⟨⟨rfl, rfl⟩, rfl⟩, _, _, ?x18080, ?s18081, _, hTri _ _ _ _ (newA' _ ?a18079), ?k18082⟩
              case x18080 => cbv <;> rfl
              case s18081 => cbv <;> rfl
              case a18079 => omega
              rintro r18085 σ18086 ⟨x18083, ⟨h18084, ⟨rfl, rfl⟩⟩⟩
              cbv
              refine' ⟨[240, 241, 242], ⟨⟨rfl, rfl⟩, rfl⟩, _, _, ?x18089, ?s18090, _, hTri _ _ _ _ (jnewA ?a18087 ?a18088), ?k18091⟩
              case x18089 => cbv <;> rfl
              case s18090 => cbv <;> rfl
              case a18087 => assumption
              case a18088 => assumption
              rintro r18092 σ18093 ⟨rfl, rfl⟩
              cbv
              split
              case h_1 => rename_i hh; exact absurd hh (by rw [hH]; simp; try omega)
              cbv
              generalize e18095 : H Bool _ = b18094
              rw [hH] at e18095
              replace e18095 := boolN e18095
              refine' ⟨[260, 240, 241, 242], ⟨⟨rfl, rfl⟩, rfl⟩, _, _, ?x18108, ?s18109, _, hTri _ _ _ _ (commitA_bad _ ?a18104 ?a18105 ?a18106 ?a18107), ?k18110⟩
              case x18108 => cbv <;> rfl
              case s18109 => cbv <;> rfl
              case a18104 => assumption
              case a18105 => assumption
              case a18106 => omega
              case a18107 => assumption
              rintro r18113 σ18114 ⟨v18111, ⟨h18112, ⟨rfl, rfl⟩⟩⟩
              cbv
              rcases ab with _ | _
              · cbv
                refine' ⟨[260, 240, 241, 242], ⟨⟨rfl, rfl⟩, rfl⟩, _, _, ?x18120, ?s18121, _, hTri _ _ _ _ (commitA' _ ?a18115 ?a18116 ?a18117 _ ?a18118 ?a18119), ?k18122⟩
                case x18120 => cbv <;> rfl
                case s18121 => cbv <;> rfl
                case a18115 => assumption
                case a18116 => assumption
                case a18117 => omega
                case a18118 => rfl
                case a18119 => assumption
                rintro r18125 σ18126 ⟨x18123, ⟨h18124, ⟨rfl, rfl⟩⟩⟩
                cbv
                split
                case h_2 => rename_i hh; exact absurd hh (by rw [hH]; simp; omega)
                cbv
                generalize e18128 : H Bool _ = b18127
                rw [hH] at e18128
                replace e18128 := boolN e18128
                refine' ⟨[], ⟨⟨rfl, rfl⟩, rfl⟩, _, _, ?x18129, ?s18130, _, hTri _ _ _ _ live07, ?k18131⟩
                case x18129 => cbv <;> rfl
                case s18130 => cbv <;> rfl
                rintro r18132 σ18133 ⟨rfl, rfl⟩
                cbv
                refine' ⟨_, [], rfl, ?c18134, ?s18135⟩
                case s18135 => cbv <;> repeat' first | exact rfl | exact trivial | exact Or.inl rfl | apply And.intro
                case c18134 => rfl
              · cbv
                refine' ⟨[260, 240, 241, 242], ⟨⟨rfl, rfl⟩, rfl⟩, _, _, ?x18137, ?s18138, _, hTri _ _ _ _ (jnext _ _ _ ⟨_, _, _, _, _, _, _, _, _⟩ ?a18136), ?k18139⟩
                case x18137 => cbv <;> rfl
                case s18138 => cbv <;> rfl
                case a18136 => omega
                rintro r18142 σ18143 ⟨v18140, ⟨h18141, ⟨rfl, rfl⟩⟩⟩
                cbv
                split
                case h_1 => rename_i hh; exact absurd hh (by rw [hH]; simp; try omega)
                cbv
                generalize e18145 : H Bool _ = b18144
                rw [hH] at e18145
                replace e18145 := boolN e18145
                refine' ⟨[260, 240, 241, 242], ⟨⟨rfl, rfl⟩, rfl⟩, _, _, ?x18151, ?s18152, _, hTri _ _ _ _ (commitA' _ ?a18146 ?a18147 ?a18148 _ ?a18149 ?a18150), ?k18153⟩
                case x18151 => cbv <;> rfl
                case s18152 => cbv <;> rfl
                case a18146 => assumption
                case a18147 => exact ⟨by omega, by omega⟩
                case a18148 => omega
                case a18149 => rfl
                case a18150 => assumption
                rintro r18156 σ18157 ⟨x18154, ⟨h18155, ⟨rfl, rfl⟩⟩⟩
                cbv
                split
                case h_2 => rename_i hh; exact absurd hh (by rw [hH]; simp; omega)
                cbv
                generalize e18159 : H Bool _ = b18158
                rw [hH] at e18159
                replace e18159 := boolN e18159
                refine' ⟨[], ⟨⟨rfl, rfl⟩, rfl⟩, _, _, ?x18160, ?s18161, _, hTri _ _ _ _ live07, ?k18162⟩
                case x18160 => cbv <;> rfl
                case s18161 => cbv <;> rfl
                rintro r18163 σ18164 ⟨rfl, rfl⟩
                cbv
                refine' ⟨_, [], rfl, ?c18165, ?s18166⟩
                case s18166 => cbv <;> repeat' first | exact rfl | exact trivial | exact Or.inl rfl | apply And.intro
                case c18165 => rfl
  by_cases hd : 0 < n' ∧ n' ≤ 10 - 1 ∧ ∀ j : Int, 0 ≤ j → j < n' → okP (pk' [j]) (pn' [j]) (pb' [j])
  case neg =>
    refine tri_of TT_ok mixed (OR := ORD3) (fn := Try.f3) (c := body Try.f3) (by kernel_rfl) (by kernel_rfl) (by kernel_rfl) (by kernel_rfl) (by simp [Try.f3]) fun H Tri hH hTri => ?_
    cbv
    split
    case h_1 => rename_i hh; exact absurd hh (by rw [hH]; simp; omega)
    cbv
    split
    · rename_i h22000
      simp only [hH, decide_eq_true_eq] at h22000
      cbv
      generalize e22002 : H Bool _ = b22001
      rw [hH] at e22002
      replace e22002 := boolN e22002
      generalize e22004 : H Bool _ = b22003
      rw [hH] at e22004
      replace e22004 := boolN e22004
      refine' ⟨[], ⟨⟨rfl, rfl⟩, rfl⟩, _, _, ?x22005, ?s22006, _, hTri _ _ _ _ live07, ?k22007⟩
      case x22005 => cbv <;> rfl
      case s22006 => cbv <;> rfl
      rintro r22008 σ22009 ⟨rfl, rfl⟩
      cbv
      refine' ⟨_, [], rfl, ?c22010, ?s22011⟩
      case s22011 => cbv <;> repeat' first | exact rfl | exact trivial | exact Or.inl rfl | apply And.intro
      case c22010 => rfl
    · rename_i h22012
      simp only [hH, decide_eq_false_iff_not, Int.not_lt, Int.not_le] at h22012
      cbv
      split
      · rename_i h22013
        simp only [hH, decide_eq_true_eq] at h22013
        cbv
        generalize e22015 : H Bool _ = b22014
        rw [hH] at e22015
        replace e22015 := boolN e22015
        generalize e22017 : H Bool _ = b22016
        rw [hH] at e22017
        replace e22017 := boolN e22017
        generalize e22019 : H Bool _ = b22018
        rw [hH] at e22019
        replace e22019 := boolN e22019
        refine' ⟨[], ⟨⟨rfl, rfl⟩, rfl⟩, _, _, ?x22020, ?s22021, _, hTri _ _ _ _ live07, ?k22022⟩
        case x22020 => cbv <;> rfl
        case s22021 => cbv <;> rfl
        rintro r22023 σ22024 ⟨rfl, rfl⟩
        cbv
        refine' ⟨_, [], rfl, ?c22025, ?s22026⟩
        case s22026 => cbv <;> repeat' first | exact rfl | exact trivial | exact Or.inl rfl | apply And.intro
        case c22025 => rfl
      · rename_i h22027
        simp only [hH, decide_eq_false_iff_not, Int.not_lt, Int.not_le] at h22027
        cbv
        split
        · rename_i h22028
          simp only [hH, decide_eq_true_eq] at h22028
          cbv
          generalize e22030 : H Bool _ = b22029
          rw [hH] at e22030
          replace e22030 := boolN e22030
          generalize e22032 : H Bool _ = b22031
          rw [hH] at e22032
          replace e22032 := boolN e22032
          generalize e22034 : H Bool _ = b22033
          rw [hH] at e22034
          replace e22034 := boolN e22034
          generalize e22036 : H Bool _ = b22035
          rw [hH] at e22036
          replace e22036 := boolN e22036
          refine' ⟨[], ⟨⟨rfl, rfl⟩, rfl⟩, _, _, ?x22037, ?s22038, _, hTri _ _ _ _ live07, ?k22039⟩
          case x22037 => cbv <;> rfl
          case s22038 => cbv <;> rfl
          rintro r22040 σ22041 ⟨rfl, rfl⟩
          cbv
          refine' ⟨_, [], rfl, ?c22042, ?s22043⟩
          case s22043 => cbv <;> repeat' first | exact rfl | exact trivial | exact Or.inl rfl | apply And.intro
          case c22042 => rfl
        · rename_i h22044
          simp only [hH, decide_eq_false_iff_not, Int.not_lt, Int.not_le] at h22044
          cbv
          generalize e22046 : H Bool _ = b22045
          rw [hH] at e22046
          replace e22046 := boolN e22046
          generalize e22048 : H Bool _ = b22047
          rw [hH] at e22048
          replace e22048 := boolN e22048
          generalize e22050 : H Bool _ = b22049
          rw [hH] at e22050
          replace e22050 := boolN e22050
          generalize e22052 : H Bool _ = b22051
          rw [hH] at e22052
          replace e22052 := boolN e22052
          refine' ⟨[], ⟨⟨rfl, rfl⟩, rfl⟩, _, _, ?x22054, ?s22055, _, hTri _ _ _ _ (few_tri _ _ _ _ ?a22053), ?k22056⟩
          case x22054 => cbv <;> rfl
          case s22055 => cbv <;> rfl
          case a22053 => assumption
          rintro r22059 σ22060 ⟨b22057, ⟨rfl, ⟨h22058, rfl⟩⟩⟩
          cbv
          rcases b22057 with _ | _
          · simp only [Bool.false_eq_true, Bool.true_eq_false, reduceCtorEq, false_iff, true_iff, forall_const, not_false_eq_true, false_implies] at h22058
            cbv
            refine' ⟨[], ⟨⟨rfl, rfl⟩, rfl⟩, _, _, ?x22061, ?s22062, _, hTri _ _ _ _ live07, ?k22063⟩
            case x22061 => cbv <;> rfl
            case s22062 => cbv <;> rfl
            rintro r22064 σ22065 ⟨rfl, rfl⟩
            cbv
            refine' ⟨_, [], rfl, ?c22066, ?s22067⟩
            case s22067 => cbv <;> repeat' first | exact rfl | exact trivial | exact Or.inl rfl | apply And.intro
            case c22066 => rfl
          · simp only [Bool.false_eq_true, Bool.true_eq_false, reduceCtorEq, false_iff, true_iff, forall_const, not_false_eq_true, false_implies] at h22058
            cbv
            refine' ⟨[], ⟨⟨rfl, rfl⟩, rfl⟩, _, _, ?x22069, ?s22070, _, hTri _ _ _ _ (few_tri _ _ _ _ ?a22068), ?k22071⟩
            case x22069 => cbv <;> rfl
            case s22070 => cbv <;> rfl
            case a22068 => assumption
            rintro r22074 σ22075 ⟨b22072, ⟨rfl, ⟨h22073, rfl⟩⟩⟩
            cbv
            rcases b22072 with _ | _
            · simp only [Bool.false_eq_true, Bool.true_eq_false, reduceCtorEq, false_iff, true_iff, forall_const, not_false_eq_true, false_implies] at h22073
              cbv
              refine' ⟨[], ⟨⟨rfl, rfl⟩, rfl⟩, _, _, ?x22076, ?s22077, _, hTri _ _ _ _ live07, ?k22078⟩
              case x22076 => cbv <;> rfl
              case s22077 => cbv <;> rfl
              rintro r22079 σ22080 ⟨rfl, rfl⟩
              cbv
              refine' ⟨_, [], rfl, ?c22081, ?s22082⟩
              case s22082 => cbv <;> repeat' first | exact rfl | exact trivial | exact Or.inl rfl | apply And.intro
              case c22081 => rfl
            · simp only [Bool.false_eq_true, Bool.true_eq_false, reduceCtorEq, false_iff, true_iff, forall_const, not_false_eq_true, false_implies] at h22073
              cbv
              refine' ⟨[], ⟨⟨rfl, rfl⟩, rfl⟩, _, _, ?x22084, ?s22085, _, hTri _ _ _ _ (newA' _ ?a22083), ?k22086⟩
              case x22084 => cbv <;> rfl
              case s22085 => cbv <;> rfl
              case a22083 => omega
              rintro r22089 σ22090 ⟨x22087, ⟨h22088, ⟨rfl, rfl⟩⟩⟩
              cbv
              refine' ⟨[240, 241, 242], ⟨⟨rfl, rfl⟩, rfl⟩, _, _, ?x22093, ?s22094, _, hTri _ _ _ _ (jnewA ?a22091 ?a22092), ?k22095⟩
              case x22093 => cbv <;> rfl
              case s22094 => cbv <;> rfl
              case a22091 => assumption
              case a22092 => assumption
              rintro r22096 σ22097 ⟨rfl, rfl⟩
              cbv
              split
              case h_1 => rename_i hh; exact absurd hh (by rw [hH]; simp; try omega)
              cbv
              generalize e22099 : H Bool _ = b22098
              rw [hH] at e22099
              replace e22099 := boolN e22099
              refine' ⟨[260, 240, 241, 242], ⟨⟨rfl, rfl⟩, rfl⟩, _, _, ?x22105, ?s22106, _, hTri _ _ _ _ (commitA' _ ?a22100 ?a22101 ?a22102 _ ?a22103 ?a22104), ?k22107⟩
              case x22105 => cbv <;> rfl
              case s22106 => cbv <;> rfl
              case a22100 => assumption
              case a22101 => assumption
              case a22102 => omega
              case a22103 => rfl
              case a22104 => assumption
              rintro r22110 σ22111 ⟨x22108, ⟨h22109, ⟨rfl, rfl⟩⟩⟩
              cbv
              rcases ab with _ | _
              · cbv
                refine' ⟨[260, 240, 241, 280], ⟨⟨rfl, rfl⟩, rfl⟩, _, _, ?x22124, ?s22125, _, hTri _ _ _ _ (commitA_bad _ ?a22120 ?a22121 ?a22122 ?a22123), ?k22126⟩
                case x22124 => cbv <;> rfl
                case s22125 => cbv <;> rfl
                case a22120 => assumption
                case a22121 => assumption
                case a22122 => omega
                case a22123 => assumption
                rintro r22129 σ22130 ⟨v22127, ⟨h22128, ⟨rfl, rfl⟩⟩⟩
                cbv
                split
                case h_1 => rename_i hh; exact absurd hh (by rw [hH]; simp; try omega)
                cbv
                split
                case h_2 => rename_i hh; exact absurd hh (by rw [hH]; simp; omega)
                cbv
                generalize e22132 : H Bool _ = b22131
                rw [hH] at e22132
                replace e22132 := boolN e22132
                generalize e22134 : H Bool _ = b22133
                rw [hH] at e22134
                replace e22134 := boolN e22134
                refine' ⟨[], ⟨⟨rfl, rfl⟩, rfl⟩, _, _, ?x22135, ?s22136, _, hTri _ _ _ _ live07, ?k22137⟩
                case x22135 => cbv <;> rfl
                case s22136 => cbv <;> rfl
                rintro r22138 σ22139 ⟨rfl, rfl⟩
                cbv
                refine' ⟨_, [], rfl, ?c22140, ?s22141⟩
                case s22141 => cbv <;> repeat' first | exact rfl | exact trivial | exact Or.inl rfl | apply And.intro
                case c22140 => rfl
              · cbv
                refine' ⟨[260, 240, 241, 280], ⟨⟨rfl, rfl⟩, rfl⟩, _, _, ?x22143, ?s22144, _, hTri _ _ _ _ (jnext _ _ _ ⟨_, _, _, _, _, _, _, _, _⟩ ?a22142), ?k22145⟩
                case x22143 => cbv <;> rfl
                case s22144 => cbv <;> rfl
                case a22142 => omega
                rintro r22148 σ22149 ⟨v22146, ⟨h22147, ⟨rfl, rfl⟩⟩⟩
                cbv
                split
                case h_1 => rename_i hh; exact absurd hh (by rw [hH]; simp; try omega)
                cbv
                generalize e22151 : H Bool _ = b22150
                rw [hH] at e22151
                replace e22151 := boolN e22151
                refine' ⟨[260, 240, 241, 280], ⟨⟨rfl, rfl⟩, rfl⟩, _, _, ?x22164, ?s22165, _, hTri _ _ _ _ (commitA_bad _ ?a22160 ?a22161 ?a22162 ?a22163), ?k22166⟩
                case x22164 => cbv <;> rfl
                case s22165 => cbv <;> rfl
                case a22160 => assumption
                case a22161 => exact ⟨by omega, by omega⟩
                case a22162 => omega
                case a22163 => assumption
                rintro r22169 σ22170 ⟨v22167, ⟨h22168, ⟨rfl, rfl⟩⟩⟩
                cbv
                split
                case h_1 => rename_i hh; exact absurd hh (by rw [hH]; simp; try omega)
                cbv
                split
                case h_2 => rename_i hh; exact absurd hh (by rw [hH]; simp; omega)
                cbv
                generalize e22172 : H Bool _ = b22171
                rw [hH] at e22172
                replace e22172 := boolN e22172
                generalize e22174 : H Bool _ = b22173
                rw [hH] at e22174
                replace e22174 := boolN e22174
                refine' ⟨[], ⟨⟨rfl, rfl⟩, rfl⟩, _, _, ?x22175, ?s22176, _, hTri _ _ _ _ live07, ?k22177⟩
                case x22175 => cbv <;> rfl
                case s22176 => cbv <;> rfl
                rintro r22178 σ22179 ⟨rfl, rfl⟩
                cbv
                refine' ⟨_, [], rfl, ?c22180, ?s22181⟩
                case s22181 => cbv <;> repeat' first | exact rfl | exact trivial | exact Or.inl rfl | apply And.intro
                case c22180 => rfl
  refine tri_of TT_ok mixed (OR := ORD3) (fn := Try.f3) (c := body Try.f3) (by kernel_rfl) (by kernel_rfl) (by kernel_rfl) (by kernel_rfl) (by simp [Try.f3]) fun H Tri hH hTri => ?_
  cbv
  split
  case h_1 => rename_i hh; exact absurd hh (by rw [hH]; simp; omega)
  cbv
  split
  · rename_i h24000
    simp only [hH, decide_eq_true_eq] at h24000
    cbv
    generalize e24002 : H Bool _ = b24001
    rw [hH] at e24002
    replace e24002 := boolN e24002
    generalize e24004 : H Bool _ = b24003
    rw [hH] at e24004
    replace e24004 := boolN e24004
    refine' ⟨[], ⟨⟨rfl, rfl⟩, rfl⟩, _, _, ?x24005, ?s24006, _, hTri _ _ _ _ live07, ?k24007⟩
    case x24005 => cbv <;> rfl
    case s24006 => cbv <;> rfl
    rintro r24008 σ24009 ⟨rfl, rfl⟩
    cbv
    refine' ⟨_, [], rfl, ?c24010, ?s24011⟩
    case s24011 => cbv <;> repeat' first | exact rfl | exact trivial | exact Or.inl rfl | apply And.intro
    case c24010 => rfl
  · rename_i h24012
    simp only [hH, decide_eq_false_iff_not, Int.not_lt, Int.not_le] at h24012
    cbv
    split
    case h_1 => rename_i hh; exact absurd hh (by rw [hH]; simp; omega)
    cbv
    split
    · rename_i h24013
      simp only [hH, decide_eq_true_eq] at h24013
      cbv
      generalize e24015 : H Bool _ = b24014
      rw [hH] at e24015
      replace e24015 := boolN e24015
      generalize e24017 : H Bool _ = b24016
      rw [hH] at e24017
      replace e24017 := boolN e24017
      generalize e24019 : H Bool _ = b24018
      rw [hH] at e24019
      replace e24019 := boolN e24019
      generalize e24021 : H Bool _ = b24020
      rw [hH] at e24021
      replace e24021 := boolN e24021
      refine' ⟨[], ⟨⟨rfl, rfl⟩, rfl⟩, _, _, ?x24022, ?s24023, _, hTri _ _ _ _ live07, ?k24024⟩
      case x24022 => cbv <;> rfl
      case s24023 => cbv <;> rfl
      rintro r24025 σ24026 ⟨rfl, rfl⟩
      cbv
      refine' ⟨_, [], rfl, ?c24027, ?s24028⟩
      case s24028 => cbv <;> repeat' first | exact rfl | exact trivial | exact Or.inl rfl | apply And.intro
      case c24027 => rfl
    · rename_i h24029
      simp only [hH, decide_eq_false_iff_not, Int.not_lt, Int.not_le] at h24029
      cbv
      generalize e24031 : H Bool _ = b24030
      rw [hH] at e24031
      replace e24031 := boolN e24031
      generalize e24033 : H Bool _ = b24032
      rw [hH] at e24033
      replace e24033 := boolN e24033
      generalize e24035 : H Bool _ = b24034
      rw [hH] at e24035
      replace e24035 := boolN e24035
      generalize e24037 : H Bool _ = b24036
      rw [hH] at e24037
      replace e24037 := boolN e24037
      refine' ⟨[], ⟨⟨rfl, rfl⟩, rfl⟩, _, _, ?x24039, ?s24040, _, hTri _ _ _ _ (few_tri _ _ _ _ ?a24038), ?k24041⟩
      case x24039 => cbv <;> rfl
      case s24040 => cbv <;> rfl
      case a24038 => assumption
      rintro r24044 σ24045 ⟨b24042, ⟨rfl, ⟨h24043, rfl⟩⟩⟩
      cbv
      rcases b24042 with _ | _
      · simp only [Bool.false_eq_true, Bool.true_eq_false, reduceCtorEq, false_iff, true_iff, forall_const, not_false_eq_true, false_implies] at h24043
        cbv
        refine' ⟨[], ⟨⟨rfl, rfl⟩, rfl⟩, _, _, ?x24046, ?s24047, _, hTri _ _ _ _ live07, ?k24048⟩
        case x24046 => cbv <;> rfl
        case s24047 => cbv <;> rfl
        rintro r24049 σ24050 ⟨rfl, rfl⟩
        cbv
        refine' ⟨_, [], rfl, ?c24051, ?s24052⟩
        case s24052 => cbv <;> repeat' first | exact rfl | exact trivial | exact Or.inl rfl | apply And.intro
        case c24051 => rfl
      · simp only [Bool.false_eq_true, Bool.true_eq_false, reduceCtorEq, false_iff, true_iff, forall_const, not_false_eq_true, false_implies] at h24043
        cbv
        refine' ⟨[], ⟨⟨rfl, rfl⟩, rfl⟩, _, _, ?x24054, ?s24055, _, hTri _ _ _ _ (few_tri _ _ _ _ ?a24053), ?k24056⟩
        case x24054 => cbv <;> rfl
        case s24055 => cbv <;> rfl
        case a24053 => assumption
        rintro r24059 σ24060 ⟨b24057, ⟨rfl, ⟨h24058, rfl⟩⟩⟩
        cbv
        rcases b24057 with _ | _
        · simp only [Bool.false_eq_true, Bool.true_eq_false, reduceCtorEq, false_iff, true_iff, forall_const, not_false_eq_true, false_implies] at h24058
          cbv
          refine' ⟨[], ⟨⟨rfl, rfl⟩, rfl⟩, _, _, ?x24061, ?s24062, _, hTri _ _ _ _ live07, ?k24063⟩
          case x24061 => cbv <;> rfl
          case s24062 => cbv <;> rfl
          rintro r24064 σ24065 ⟨rfl, rfl⟩
          cbv
          refine' ⟨_, [], rfl, ?c24066, ?s24067⟩
          case s24067 => cbv <;> repeat' first | exact rfl | exact trivial | exact Or.inl rfl | apply And.intro
          case c24066 => rfl
        · simp only [Bool.false_eq_true, Bool.true_eq_false, reduceCtorEq, false_iff, true_iff, forall_const, not_false_eq_true, false_implies] at h24058
          cbv
          refine' ⟨[], ⟨⟨rfl, rfl⟩, rfl⟩, _, _, ?x24069, ?s24070, _, hTri _ _ _ _ (newA' _ ?a24068), ?k24071⟩
          case x24069 => cbv <;> rfl
          case s24070 => cbv <;> rfl
          case a24068 => omega
          rintro r24074 σ24075 ⟨x24072, ⟨h24073, ⟨rfl, rfl⟩⟩⟩
          cbv
          refine' ⟨[240, 241, 242], ⟨⟨rfl, rfl⟩, rfl⟩, _, _, ?x24078, ?s24079, _, hTri _ _ _ _ (jnewA ?a24076 ?a24077), ?k24080⟩
          case x24078 => cbv <;> rfl
          case s24079 => cbv <;> rfl
          case a24076 => assumption
          case a24077 => assumption
          rintro r24081 σ24082 ⟨rfl, rfl⟩
          cbv
          split
          case h_1 => rename_i hh; exact absurd hh (by rw [hH]; simp; try omega)
          cbv
          generalize e24084 : H Bool _ = b24083
          rw [hH] at e24084
          replace e24084 := boolN e24084
          refine' ⟨[260, 240, 241, 242], ⟨⟨rfl, rfl⟩, rfl⟩, _, _, ?x24090, ?s24091, _, hTri _ _ _ _ (commitA' _ ?a24085 ?a24086 ?a24087 _ ?a24088 ?a24089), ?k24092⟩
          case x24090 => cbv <;> rfl
          case s24091 => cbv <;> rfl
          case a24085 => assumption
          case a24086 => assumption
          case a24087 => omega
          case a24088 => rfl
          case a24089 => assumption
          rintro r24095 σ24096 ⟨x24093, ⟨h24094, ⟨rfl, rfl⟩⟩⟩
          cbv
          rcases ab with _ | _
          · cbv
            refine' ⟨[260, 240, 241, 280], ⟨⟨rfl, rfl⟩, rfl⟩, _, _, ?x24102, ?s24103, _, hTri _ _ _ _ (commitA' _ ?a24097 ?a24098 ?a24099 _ ?a24100 ?a24101), ?k24104⟩
            case x24102 => cbv <;> rfl
            case s24103 => cbv <;> rfl
            case a24097 => assumption
            case a24098 => assumption
            case a24099 => omega
            case a24100 => rfl
            case a24101 => assumption
            rintro r24107 σ24108 ⟨x24105, ⟨h24106, ⟨rfl, rfl⟩⟩⟩
            cbv
            split
            case h_1 => rename_i hh; exact absurd hh (by rw [hH]; simp; try omega)
            cbv
            split
            case h_1 => rename_i hh; exact absurd hh (by rw [hH]; simp; try omega)
            cbv
            generalize e24110 : H Bool _ = b24109
            rw [hH] at e24110
            replace e24110 := boolN e24110
            refine' ⟨[260, 240, 241, 300], ⟨⟨rfl, rfl⟩, rfl⟩, _, _, ?x24116, ?s24117, _, hTri _ _ _ _ (scanA_back ?a24111 ?a24112 ?a24113 _ ?a24114 ?a24115), ?k24118⟩
            case x24116 => cbv <;> rfl
            case s24117 => cbv <;> rfl
            case a24111 => assumption
            case a24112 => assumption
            case a24113 => omega
            case a24114 => rfl
            case a24115 => assumption
            rintro r24125 σ24126 ⟨x24119, ⟨x24120, ⟨x24121, ⟨x24122, ⟨h24123, ⟨h24124, ⟨rfl, rfl⟩⟩⟩⟩⟩⟩⟩
            cbv
            refine' ⟨[240, 241, 300], ⟨⟨rfl, rfl⟩, rfl⟩, _, _, ?x24129, ?s24130, _, hTri _ _ _ _ (jnewA ?a24127 ?a24128), ?k24131⟩
            case x24129 => cbv <;> rfl
            case s24130 => cbv <;> rfl
            case a24127 => assumption
            case a24128 => assumption
            rintro r24132 σ24133 ⟨rfl, rfl⟩
            cbv
            refine' ⟨[340, 240, 241, 300], ⟨⟨rfl, rfl⟩, rfl⟩, _, _, ?x24139, ?s24140, _, hTri _ _ _ _ (scanA_back ?a24134 ?a24135 ?a24136 _ ?a24137 ?a24138), ?k24141⟩
            case x24139 => cbv <;> rfl
            case s24140 => cbv <;> rfl
            case a24134 => assumption
            case a24135 => assumption
            case a24136 => omega
            case a24137 => rfl
            case a24138 => assumption
            rintro r24148 σ24149 ⟨x24142, ⟨x24143, ⟨x24144, ⟨x24145, ⟨h24146, ⟨h24147, ⟨rfl, rfl⟩⟩⟩⟩⟩⟩⟩
            cbv
            refine' ⟨[], ⟨⟨rfl, rfl⟩, rfl⟩, _, _, ?x24152, ?s24153, _, hTri _ _ _ _ (pages_same _ _ _ _ _ _ _ _ _ ?a24150 ?a24151), ?k24154⟩
            case x24152 => cbv <;> rfl
            case s24153 => cbv <;> rfl
            case a24150 => omega
            case a24151 => intros; simp only [AM.hd, Int.add_zero, List.tail_cons]; solve_by_elim
            rintro r24155 σ24156 ⟨rfl, rfl⟩
            cbv
            split
            case h_2 => rename_i hh; exact absurd hh (by simp [hH])
            cbv
            generalize e24158 : H Bool _ = b24157
            rw [hH] at e24158
            refine' ⟨[], ⟨⟨rfl, rfl⟩, rfl⟩, _, _, ?x24159, ?s24160, _, hTri _ _ _ _ live07, ?k24161⟩
            case x24159 => cbv <;> rfl
            case s24160 => cbv <;> rfl
            rintro r24162 σ24163 ⟨rfl, rfl⟩
            cbv
            refine' ⟨_, [], rfl, ?c24164, ?s24165⟩
            case s24165 => cbv <;> repeat' first | exact rfl | exact trivial | exact Or.inl rfl | apply And.intro
            case c24164 => rfl
          · cbv
            refine' ⟨[260, 240, 241, 280], ⟨⟨rfl, rfl⟩, rfl⟩, _, _, ?x24167, ?s24168, _, hTri _ _ _ _ (jnext _ _ _ ⟨_, _, _, _, _, _, _, _, _⟩ ?a24166), ?k24169⟩
            case x24167 => cbv <;> rfl
            case s24168 => cbv <;> rfl
            case a24166 => omega
            rintro r24172 σ24173 ⟨v24170, ⟨h24171, ⟨rfl, rfl⟩⟩⟩
            cbv
            split
            case h_1 => rename_i hh; exact absurd hh (by rw [hH]; simp; try omega)
            cbv
            generalize e24175 : H Bool _ = b24174
            rw [hH] at e24175
            replace e24175 := boolN e24175
            refine' ⟨[260, 240, 241, 280], ⟨⟨rfl, rfl⟩, rfl⟩, _, _, ?x24181, ?s24182, _, hTri _ _ _ _ (commitA' _ ?a24176 ?a24177 ?a24178 _ ?a24179 ?a24180), ?k24183⟩
            case x24181 => cbv <;> rfl
            case s24182 => cbv <;> rfl
            case a24176 => assumption
            case a24177 => exact ⟨by omega, by omega⟩
            case a24178 => omega
            case a24179 => rfl
            case a24180 => assumption
            rintro r24186 σ24187 ⟨x24184, ⟨h24185, ⟨rfl, rfl⟩⟩⟩
            cbv
            split
            case h_1 => rename_i hh; exact absurd hh (by rw [hH]; simp; try omega)
            cbv
            split
            case h_1 => rename_i hh; exact absurd hh (by rw [hH]; simp; try omega)
            cbv
            generalize e24189 : H Bool _ = b24188
            rw [hH] at e24189
            replace e24189 := boolN e24189
            refine' ⟨[260, 240, 241, 320], ⟨⟨rfl, rfl⟩, rfl⟩, _, _, ?x24195, ?s24196, _, hTri _ _ _ _ (scanA_back ?a24190 ?a24191 ?a24192 _ ?a24193 ?a24194), ?k24197⟩
            case x24195 => cbv <;> rfl
            case s24196 => cbv <;> rfl
            case a24190 => assumption
            case a24191 => exact ⟨by omega, by omega⟩
            case a24192 => omega
            case a24193 => rfl
            case a24194 => assumption
            rintro r24204 σ24205 ⟨x24198, ⟨x24199, ⟨x24200, ⟨x24201, ⟨h24202, ⟨h24203, ⟨rfl, rfl⟩⟩⟩⟩⟩⟩⟩
            cbv
            refine' ⟨[240, 241, 320], ⟨⟨rfl, rfl⟩, rfl⟩, _, _, ?x24208, ?s24209, _, hTri _ _ _ _ (jnewA ?a24206 ?a24207), ?k24210⟩
            case x24208 => cbv <;> rfl
            case s24209 => cbv <;> rfl
            case a24206 => assumption
            case a24207 => assumption
            rintro r24211 σ24212 ⟨rfl, rfl⟩
            cbv
            refine' ⟨[360, 240, 241, 320], ⟨⟨rfl, rfl⟩, rfl⟩, _, _, ?x24228, ?s24229, _, hTri _ _ _ _ (scanA_after _ ?a24221 ?a24222 ?a24223 ?a24224 _ ?a24225 ?a24226 ?a24227), ?k24230⟩
            case x24228 => cbv <;> rfl
            case s24229 => cbv <;> rfl
            case a24221 => assumption
            case a24222 => exact ⟨by omega, by omega⟩
            case a24223 => assumption
            case a24224 => omega
            case a24225 => rfl
            case a24226 => assumption
            case a24227 => omega
            rintro r24233 σ24234 ⟨x24231, ⟨h24232, ⟨rfl, rfl⟩⟩⟩
            cbv
            refine' ⟨[], ⟨⟨rfl, rfl⟩, rfl⟩, _, _, ?x24237, ?s24238, _, hTri _ _ _ _ (pages_same _ _ _ _ _ _ _ _ _ ?a24235 ?a24236), ?k24239⟩
            case x24237 => cbv <;> rfl
            case s24238 => cbv <;> rfl
            case a24235 => omega
            case a24236 => intros; simp only [AM.hd, Int.add_zero, List.tail_cons]; solve_by_elim
            rintro r24240 σ24241 ⟨rfl, rfl⟩
            cbv
            split
            case h_2 => rename_i hh; exact absurd hh (by simp [hH])
            cbv
            generalize e24243 : H Bool _ = b24242
            rw [hH] at e24243
            refine' ⟨[], ⟨⟨rfl, rfl⟩, rfl⟩, _, _, ?x24244, ?s24245, _, hTri _ _ _ _ live07, ?k24246⟩
            case x24244 => cbv <;> rfl
            case s24245 => cbv <;> rfl
            rintro r24247 σ24248 ⟨rfl, rfl⟩
            cbv
            refine' ⟨_, [], rfl, ?c24249, ?s24250⟩
            case s24250 => cbv <;> repeat' first | exact rfl | exact trivial | exact Or.inl rfl | apply And.intro
            case c24249 => rfl
end Go.Proofs.Ytabmdohibkkflaa.AM

