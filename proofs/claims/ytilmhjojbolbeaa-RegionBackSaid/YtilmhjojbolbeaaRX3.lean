/-
  What functions of the program compute. No condition beside those that each theorem states.
-/
import Derived.Test.YtilmhjojbolbeaaRX2
import Derived.Test.YtilmhjojbolbeaaRX1
import Derived.IntWalk
import Derived.Shelf.Strings.Builder1
import Derived.Shelf.Strings.Builder2
import Derived.Shelf.Small.Bits
import Derived.Shelf.Small.Wraps
import Derived.Shelf.Strings.BuilderF
import Derived.Shelf.Strings.BuilderK
import Derived.Shelf.Strings.Builder2Cap
import Derived.Shelf.Strconv.Itoa0
import Derived.Shelf.Sort.Plain
import Derived.Shelf.Strings.Prefix
import Derived.Shelf.Bits.Mul64
import Derived.Shelf.Strings.Repeat
import Derived.Shelf.Strings.BuilderCap
import Derived.Ground.Names2Prog
import Derived.Shelf.Slices.Clone
import Derived.Shelf.Slices.CompactI
import Derived.Shelf.Slices.SearchI
import Derived.Shelf.Slices.Cells
import Derived.Shelf.Slices.In.SortNone
import Derived.Ground.SlgnProg
import Derived.Shelf.SlicesE.Clone
import Derived.Test.YtilmhjojbolbeaaProg
import Derived.Test.YtilmhjojbolbeaaPA4
import Derived.Sort.OwnSortedInts
set_option linter.all false

namespace Go.Proofs.Ytilmhjojbolbeaa.AM
open Go
set_option maxRecDepth 100000
set_option maxHeartbeats 4000000
theorem join_len {n1 n2 m1 m2 : Int} {a1 a2 b1 b2 : Ix → Int} (h : ¬ (n2 = n1 ∧ m1 = n1 ∧ m2 = n1)) : ∀ t, 0 ≤ t → t < n1 → ¬ Join n1 a1 n2 a2 m1 b1 m2 b2 t ∧ ¬ Join m1 b1 m2 b2 n1 a1 n2 a2 t := fun t _ _ =>
  ⟨fun j => h ⟨j.l1.symm, j.l2.symm, j.wide.1.2.1.symm⟩, fun j => h ⟨by have := j.wide.1.2.1; have := j.l2; omega, j.l2, by have := j.l1; have := j.l2; omega⟩⟩
theorem rhalves_tri (n m t : Int) (a b : Ix → Int) (f1 f2 : Bool) (hn : 0 ≤ n ∧ n ≤ 1000000) (hm : 0 ≤ m ∧ m ≤ 1000000) (h1 : U32 n a) (h2 : U32 m b) : TriS Try.prog 23 [.ag [.l n [.i .u32 a] f1, .l m [.i .u32 b] f2], .i .i64 t] []
    (fun r σ => (Wide n a m b t ∧ ∃ x0 y0 x1 y1 : Ix → Int, Half n a b t x0 y0 x1 y1 ∧ r = .tu [.ag [.sl 100 0 n 1 false, .sl 101 0 n 1 false], .ag [.sl 102 0 n 1 false, .sl 103 0 n 1 false], .b true] ∧ σ = halfS 100 102 n x0 y0 x1 y1) ∨
      (¬ Wide n a m b t ∧ r = .tu [.ag [.l 0 [] true, .l 0 [] true], .ag [.l 0 [] true, .l 0 [] true], .b false] ∧ σ = [])) := by
  by_cases hw : Wide n a m b t
  · exact (rhalves_ok n m t a b f1 f2 hw h1 h2).mono' fun r σ h => .inl ⟨hw, h⟩
  · exact (rhalves_bad n m t a b f1 f2 hn hm hw).mono' fun r σ h => .inr ⟨hw, h⟩
section
variable (n1 n2 m1 m2 : Int) (a1 a2 b1 b2 : Ix → Int) (f1 f2 f3 f4 : Bool)
theorem rjoined_tri (h1 : 0 ≤ n1 ∧ n1 ≤ 1000000) (h2 : 0 ≤ n2 ∧ n2 ≤ 1000000) (h3 : 0 ≤ m1 ∧ m1 ≤ 1000000) (h4 : 0 ≤ m2 ∧ m2 ≤ 1000000) (u1 : U32 n1 a1) (u2 : U32 n2 a2) (u3 : U32 m1 b1) (u4 : U32 m2 b2) :
    TriS Try.prog 21 [.ag [.l n1 [.i .u32 a1] f1, .l n2 [.i .u32 a2] f2], .ag [.l m1 [.i .u32 b1] f3, .l m2 [.i .u32 b2] f4]] [] (joinR n1 a1 n2 a2 m1 b1 m2 b2) := by
  refine tri_of TT_ok mixed (OR := ORD21) (fn := Try.f21) (c := body Try.f21) (by kernel_rfl) (by kernel_rfl) (by kernel_rfl) (by kernel_rfl) (by simp [Try.f21]) fun H Tri hH hTri => ?_
  cbv
  split
  · rename_i h_1
    simp only [hH, decide_eq_true_eq] at h_1
    cbv
    exact fin (h := (Or.inr (Or.inr ⟨(by (exact join_len (by omega))), ⟨rfl, rfl⟩⟩)))
  · rename_i h_2
    simp only [hH, decide_eq_false_iff_not, Int.not_lt, Int.not_le] at h_2
    cbv
    split
    · rename_i h_3
      simp only [hH, decide_eq_true_eq] at h_3
      cbv
      exact fin (h := (Or.inr (Or.inr ⟨(by (exact join_len (by omega))), ⟨rfl, rfl⟩⟩)))
    · rename_i h_4
      simp only [hH, decide_eq_false_iff_not, Int.not_lt, Int.not_le] at h_4
      cbv
      split
      · rename_i h_5
        simp only [hH, decide_eq_true_eq] at h_5
        cbv
        exact fin (h := (Or.inr (Or.inr ⟨(by (exact join_len (by omega))), ⟨rfl, rfl⟩⟩)))
      · rename_i h_6
        simp only [hH, decide_eq_false_iff_not, Int.not_lt, Int.not_le] at h_6
        cbv
        refine' ⟨0, Int, fun (t : Int) => ⟨[(7, V.i IntKind.i64 n1), (4, V.pt 102 0), (3, V.pt 101 0), (2, V.pt 100 0), (8, .i .i64 t), (6, V.b false), (5, V.i IntKind.i64 0)], [(102, O.st [V.l 0 [] true, V.l 0 [] true] 43), (101, O.st [V.l m1 [C.i IntKind.u32 b1] f3, V.l m2 [C.i IntKind.u32 b2] f4] 43), (100, O.st [V.l n1 [C.i IntKind.u32 a1] f1, V.l n2 [C.i IntKind.u32 a2] f2] 43)], 103⟩, fun (t : Int) => (0 ≤ t ∧ t ≤ n1) ∧ (∀ q, 0 ≤ q → q < t → ¬ Join n1 a1 n2 a2 m1 b1 m2 b2 q ∧ ¬ Join m1 b1 m2 b2 n1 a1 n2 a2 q), fun (t : Int) => (n1 - t).toNat, ⟨0, ⟨(by omega), (by omega)⟩, q3⟩, ?r_7⟩
        rintro t ⟨ht, hp⟩
        cbv
        split
        · rename_i h_8
          simp only [hH, decide_eq_true_eq] at h_8
          cbv
          refine' ⟨0, Int, fun (i : Int) => ⟨[(7, V.i IntKind.i64 n1), (4, V.pt 102 0), (3, V.pt 101 0), (2, V.pt 100 0), (8, V.i IntKind.i64 t), (9, .i .i64 i), (6, V.b false), (5, V.i IntKind.i64 0)], [(102, O.st [V.l 0 [] true, V.l 0 [] true] 43), (101, O.st [V.l m1 [C.i IntKind.u32 b1] f3, V.l m2 [C.i IntKind.u32 b2] f4] 43), (100, O.st [V.l n1 [C.i IntKind.u32 a1] f1, V.l n2 [C.i IntKind.u32 a2] f2] 43)], 103⟩, fun (i : Int) => (0 ≤ i ∧ i ≤ 2) ∧ (1 ≤ i → ¬ Join n1 a1 n2 a2 m1 b1 m2 b2 t) ∧ (2 ≤ i → ¬ Join m1 b1 m2 b2 n1 a1 n2 a2 t), fun (i : Int) => (2 - i).toNat, ⟨0, ⟨(by omega), (by omega), (by omega)⟩, q3⟩, ?r_9⟩
          rintro i ⟨hi, q1, q2⟩
          obtain rfl | rfl | rfl := (three hi)
          · cbv
            split
            case h_2 => rename_i hh; exact absurd hh (by rw [hH]; simp; try omega)
            cbv
            generalize e_10 : H Bool _ = b_11
            simp only [hH] at e_10
            replace e_10 := boolN e_10
            obtain rfl : b_11 = true := e_10.2 (by decide)
            refine cal [] (t := hTri _ _ _ _ (copy_tri _ _ _ (by assumption))) (k := ?k_12)
            rintro r_13 σ_14 ⟨x_15, ⟨h_16, ⟨rfl, rfl⟩⟩⟩
            cbv
            refine cal [] (t := hTri _ _ _ _ (copy_tri _ _ _ (by assumption))) (k := ?k_17)
            rintro r_18 σ_19 ⟨x_20, ⟨h_21, ⟨rfl, rfl⟩⟩⟩
            cbv
            split
            case h_1 => rename_i hh; exact absurd hh (by rw [hH]; simp; try omega)
            cbv
            generalize e_22 : H Bool _ = b_23
            simp only [hH] at e_22
            replace e_22 := boolN e_22
            obtain rfl : b_23 = false := Bool.eq_false_iff.2 fun q => absurd (e_22.1 q) (by decide)
            refine cal [] (t := hTri _ _ _ _ (rhalves_tri _ _ _ _ _ _ _ (by assumption) (by assumption) (by (exact U32.congr u1 (frc ‹_›))) (by (exact U32.congr u4 (frc ‹_›))))) (k := ?k_24)
            rintro r_25 σ_26 (⟨h_27, ⟨x_28, ⟨x_29, ⟨x_30, ⟨x_31, ⟨h_32, ⟨rfl, rfl⟩⟩⟩⟩⟩⟩⟩ | ⟨h_33, ⟨rfl, rfl⟩⟩)
            · cbv
              split
              case h_2 => rename_i hh; exact absurd hh (by rw [hH]; simp; try omega)
              cbv
              generalize e_34 : H Bool _ = b_35
              simp only [hH] at e_34
              replace e_34 := boolN e_34
              obtain rfl : b_35 = true := e_34.2 (by decide)
              refine cal [] (t := hTri _ _ _ _ (rbox_tri _ _ _ _ _ _ _ _ _ _ _ _ (by assumption) (by assumption) (by assumption) (by assumption))) (k := ?k_36)
              rintro r_37 σ_38 ⟨b_39, ⟨h_40, ⟨rfl, rfl⟩⟩⟩
              cbv
              rcases b_39 with _ | _
              · simp only [boolS] at e_10
                simp only [boolS] at e_22
                simp only [boolS] at e_34
                simp only [boolS] at h_40
                cbv
                split
                case h_1 => rename_i hh; exact absurd hh (by rw [hH]; simp; try omega)
                cbv
                generalize e_41 : H Int _ = v_42
                simp only [hH, zeroS] at e_41
                obtain rfl : v_42 = 1 := e_41.symm
                exact rnd _ (h := ⟨⟨(by assumption), (by assumption)⟩, ⟨(by (exact fun _ => (by first | exact j0 ‹_› ‹_› ‹_› | exact j1 ‹_› ‹_› ‹_› ‹_› ‹_› | exact j2 ‹_› ‹_› ‹_› ‹_› ‹_›))), (by omega)⟩⟩) (s := q3) (m := by intros; subst_vars; simp [AM.hd]; done)
              · simp only [boolS] at e_10
                simp only [boolS] at e_22
                simp only [boolS] at e_34
                simp only [boolS] at h_40
                cbv
                refine cal [] (t := hTri _ _ _ _ (rbox_tri _ _ _ _ _ _ _ _ _ _ _ _ (by assumption) (by assumption) (by assumption) (by assumption))) (k := ?k_43)
                rintro r_44 σ_45 ⟨b_46, ⟨h_47, ⟨rfl, rfl⟩⟩⟩
                cbv
                rcases b_46 with _ | _
                · simp only [boolS] at h_47
                  cbv
                  split
                  case h_1 => rename_i hh; exact absurd hh (by rw [hH]; simp; try omega)
                  cbv
                  generalize e_48 : H Int _ = v_49
                  simp only [hH, zeroS] at e_48
                  obtain rfl : v_49 = 1 := e_48.symm
                  exact rnd _ (h := ⟨⟨(by assumption), (by assumption)⟩, ⟨(by (exact fun _ => (by first | exact j0 ‹_› ‹_› ‹_› | exact j1 ‹_› ‹_› ‹_› ‹_› ‹_› | exact j2 ‹_› ‹_› ‹_› ‹_› ‹_›))), (by omega)⟩⟩) (s := q3) (m := by intros; subst_vars; simp [AM.hd]; done)
                · simp only [boolS] at h_47
                  cbv
                  exact fin (h := (Or.inl ⟨_, ⟨_, ⟨_, ⟨(by (exact jy ‹_› ‹_› ‹_› ‹_› ‹_› ‹_›)), ⟨(by assumption), ⟨(by assumption), ⟨rfl, rfl⟩⟩⟩⟩⟩⟩⟩))
            · cbv
              generalize e_50 : H Int _ = v_51
              simp only [hH, zeroS] at e_50
              obtain rfl : v_51 = 1 := e_50.symm
              generalize e_52 : (fun ix => x_15 ((hd ix + 0) :: ix.tail)) = c_53
              have f_54 := fun (j : Int) => congrFun e_52 [j]
              simp only [AM.hd, List.tail_cons, Int.add_zero] at f_54
              generalize e_55 : (fun ix => x_20 ((hd ix + 0) :: ix.tail)) = c_56
              have f_57 := fun (j : Int) => congrFun e_55 [j]
              simp only [AM.hd, List.tail_cons, Int.add_zero] at f_57
              exact rnd _ (h := ⟨⟨(by omega), (by omega)⟩, ⟨(by (exact fun _ => (by first | exact j0 ‹_› ‹_› ‹_› | exact j1 ‹_› ‹_› ‹_› ‹_› ‹_› | exact j2 ‹_› ‹_› ‹_› ‹_› ‹_›))), (by omega)⟩⟩) (s := q3) (m := by intros; subst_vars; simp [AM.hd]; done)
          · cbv
            split
            case h_2 => rename_i hh; exact absurd hh (by rw [hH]; simp; try omega)
            cbv
            generalize e_58 : H Bool _ = b_59
            simp only [hH] at e_58
            replace e_58 := boolN e_58
            obtain rfl : b_59 = true := e_58.2 (by decide)
            refine cal [] (t := hTri _ _ _ _ (copy_tri _ _ _ (by assumption))) (k := ?k_60)
            rintro r_61 σ_62 ⟨x_63, ⟨h_64, ⟨rfl, rfl⟩⟩⟩
            cbv
            refine cal [] (t := hTri _ _ _ _ (copy_tri _ _ _ (by assumption))) (k := ?k_65)
            rintro r_66 σ_67 ⟨x_68, ⟨h_69, ⟨rfl, rfl⟩⟩⟩
            cbv
            split
            case h_2 => rename_i hh; exact absurd hh (by rw [hH]; simp; try omega)
            cbv
            generalize e_70 : H Bool _ = b_71
            simp only [hH] at e_70
            replace e_70 := boolN e_70
            obtain rfl : b_71 = true := e_70.2 (by decide)
            refine cal [] (t := hTri _ _ _ _ (copy_tri _ _ _ (by assumption))) (k := ?k_72)
            rintro r_73 σ_74 ⟨x_75, ⟨h_76, ⟨rfl, rfl⟩⟩⟩
            cbv
            refine cal [] (t := hTri _ _ _ _ (copy_tri _ _ _ (by assumption))) (k := ?k_77)
            rintro r_78 σ_79 ⟨x_80, ⟨h_81, ⟨rfl, rfl⟩⟩⟩
            cbv
            refine cal [] (t := hTri _ _ _ _ (rhalves_tri _ _ _ _ _ _ _ (by assumption) (by assumption) (by (exact U32.congr u3 (frc ‹_›))) (by (exact U32.congr u2 (frc ‹_›))))) (k := ?k_82)
            rintro r_83 σ_84 (⟨h_85, ⟨x_86, ⟨x_87, ⟨x_88, ⟨x_89, ⟨h_90, ⟨rfl, rfl⟩⟩⟩⟩⟩⟩⟩ | ⟨h_91, ⟨rfl, rfl⟩⟩)
            · cbv
              split
              case h_1 => rename_i hh; exact absurd hh (by rw [hH]; simp; try omega)
              cbv
              split
              case h_2 => rename_i hh; exact absurd hh (by rw [hH]; simp; try omega)
              cbv
              generalize e_92 : H Bool _ = b_93
              simp only [hH] at e_92
              replace e_92 := boolN e_92
              obtain rfl : b_93 = true := e_92.2 (by decide)
              generalize e_94 : H Bool _ = b_95
              simp only [hH] at e_94
              replace e_94 := boolN e_94
              obtain rfl : b_95 = false := Bool.eq_false_iff.2 fun q => absurd (e_94.1 q) (by decide)
              refine cal [] (t := hTri _ _ _ _ (rbox_tri _ _ _ _ _ _ _ _ _ _ _ _ (by assumption) (by assumption) (by assumption) (by assumption))) (k := ?k_96)
              rintro r_97 σ_98 ⟨b_99, ⟨h_100, ⟨rfl, rfl⟩⟩⟩
              cbv
              rcases b_99 with _ | _
              · simp only [boolS] at e_58
                simp only [boolS] at e_70
                simp only [boolS] at e_92
                simp only [boolS] at e_94
                simp only [boolS] at h_100
                cbv
                generalize e_101 : H Int _ = v_102
                simp only [hH, zeroS] at e_101
                obtain rfl : v_102 = 2 := e_101.symm
                exact rnd _ (h := ⟨⟨(by omega), (by assumption)⟩, ⟨(by simp_all; done), (by (exact fun _ => (by first | exact j0 ‹_› ‹_› ‹_› | exact j1 ‹_› ‹_› ‹_› ‹_› ‹_› | exact j2 ‹_› ‹_› ‹_› ‹_› ‹_›)))⟩⟩) (s := q3) (m := by intros; subst_vars; simp [AM.hd]; done)
              · simp only [boolS] at e_58
                simp only [boolS] at e_70
                simp only [boolS] at e_92
                simp only [boolS] at e_94
                simp only [boolS] at h_100
                cbv
                refine cal [] (t := hTri _ _ _ _ (rbox_tri _ _ _ _ _ _ _ _ _ _ _ _ (by assumption) (by assumption) (by assumption) (by assumption))) (k := ?k_103)
                rintro r_104 σ_105 ⟨b_106, ⟨h_107, ⟨rfl, rfl⟩⟩⟩
                cbv
                rcases b_106 with _ | _
                · simp only [boolS] at h_107
                  cbv
                  generalize e_108 : H Int _ = v_109
                  simp only [hH, zeroS] at e_108
                  obtain rfl : v_109 = 2 := e_108.symm
                  exact rnd _ (h := ⟨⟨(by omega), (by assumption)⟩, ⟨(by simp_all; done), (by (exact fun _ => (by first | exact j0 ‹_› ‹_› ‹_› | exact j1 ‹_› ‹_› ‹_› ‹_› ‹_› | exact j2 ‹_› ‹_› ‹_› ‹_› ‹_›)))⟩⟩) (s := q3) (m := by intros; subst_vars; simp [AM.hd]; done)
                · simp only [boolS] at h_107
                  cbv
                  exact fin (h := (Or.inr (Or.inl ⟨_, ⟨_, ⟨_, ⟨(by (exact jy ‹_› ‹_› ‹_› ‹_› ‹_› ‹_›)), ⟨(by assumption), ⟨(by assumption), ⟨rfl, rfl⟩⟩⟩⟩⟩⟩⟩)))
            · cbv
              generalize e_110 : H Int _ = v_111
              simp only [hH, zeroS] at e_110
              obtain rfl : v_111 = 2 := e_110.symm
              generalize e_112 : (fun ix => x_75 ((hd ix + 0) :: ix.tail)) = c_113
              have f_114 := fun (j : Int) => congrFun e_112 [j]
              simp only [AM.hd, List.tail_cons, Int.add_zero] at f_114
              generalize e_115 : (fun ix => x_80 ((hd ix + 0) :: ix.tail)) = c_116
              have f_117 := fun (j : Int) => congrFun e_115 [j]
              simp only [AM.hd, List.tail_cons, Int.add_zero] at f_117
              exact rnd _ (h := ⟨⟨(by omega), (by omega)⟩, ⟨(by simp_all; done), (by (exact fun _ => (by first | exact j0 ‹_› ‹_› ‹_› | exact j1 ‹_› ‹_› ‹_› ‹_› ‹_› | exact j2 ‹_› ‹_› ‹_› ‹_› ‹_›)))⟩⟩) (s := q3) (m := by intros; subst_vars; simp [AM.hd]; done)
          · cbv
            split
            case h_1 => rename_i hh; exact absurd hh (by rw [hH]; simp; try omega)
            cbv
            generalize e_118 : H Int _ = v_119
            simp only [hH, zeroS] at e_118
            replace e_118 := (IntWalk.i64_in _ (by omega)).symm.trans e_118
            exact rnd _ (h := ⟨⟨(by omega), (by omega)⟩, (by grind)⟩) (s := q3)
        · rename_i h_120
          simp only [hH, decide_eq_false_iff_not, Int.not_lt, Int.not_le] at h_120
          cbv
          exact fin (h := (Or.inr (Or.inr ⟨(by grind), ⟨rfl, rfl⟩⟩)))
end
end Go.Proofs.Ytilmhjojbolbeaa.AM

namespace Go.Proofs.Ytilmhjojbolbeaa.AM
open Go
set_option maxRecDepth 100000
set_option maxHeartbeats 4000000
section
variable {d n q i i' v w : Int} {zs cs c c' : Ix → Int}
theorem ct_start (hg : ∀ j, 0 ≤ j → j < d → c [j] = 0) (hi : i + 1 = d) (hd : 0 ≤ d) : rng d c = cellT (rng d zs) q (i + 1).toNat ∧ q = q / suf (rng d zs) (i + 1).toNat := by
  have h1 := cellT_start (rng d zs) q
  have h2 := suf_end (rng d zs) (k := (i + 1).toNat) (by rw [rng_len]; omega)
  rw [rng_len] at h1
  rw [h2, hi, h1]
  refine ⟨rng_eq (by simp; omega) fun j h0 h1 => ?_, by simp⟩
  rw [hg j h0 h1, rd_eq, List.getElem?_replicate]; split <;> rfl
theorem ct_bd (hw : Wf (rng d zs) (rng n cs)) (hq : 0 ≤ q ∧ q < 4096) (hv : v = q / suf (rng d zs) (i + 1).toNat) : 0 ≤ v ∧ v < 4096 := by
  have hs := suf_pos hw.pos (i + 1).toNat
  subst hv
  exact ⟨Int.ediv_nonneg hq.1 (by omega), Int.lt_of_le_of_lt (Int.ediv_le_self _ hq.1) hq.2⟩
theorem ct_step {z v' : Int} (hw : Wf (rng d zs) (rng n cs)) (hj : 0 ≤ i ∧ i < d) (hq : 0 ≤ q ∧ q < 4096) (hc : rng d c = cellT (rng d zs) q (i + 1).toNat) (hv : v = q / suf (rng d zs) (i + 1).toNat) (hi : i - 1 = i') (hz : zs [i] = z) (hm : v.tmod z = w) (hd : IntKind.i64.wrap (v.tdiv z) = v') (hg : (fun ix => bif decide (AM.hd ix = i) then w else c ix) = c') :
    rng d c' = cellT (rng d zs) q (i' + 1).toNat ∧ v' = q / suf (rng d zs) (i' + 1).toNat := by
  obtain ⟨h0, h1⟩ := hj
  have hb := ct_bd hw hq hv
  have hz' := wf_z hw h0 h1
  have e : (i' + 1).toNat = i.toNat := by omega
  have e2 : (i + 1).toNat = i.toNat + 1 := by omega
  rw [e2] at hc hv
  have hs := suf_pos hw.pos (i.toNat + 1)
  rw [e]
  constructor
  · rw [rng_put h0 h1 hg, hc, ← cellT_step _ _ _ (show i.toNat < (rng d zs).length by rw [rng_len]; omega), ← hm, Int.tmod_eq_emod_of_nonneg hb.1, ← hz, hv, dig, rd_rngI h0 h1]
  · have h3 : v.tdiv z = v / zs [i] := by rw [Int.tdiv_eq_ediv_of_nonneg hb.1, hz]
    have h4 : 0 ≤ v / zs [i] ∧ v / zs [i] ≤ v := ⟨Int.ediv_nonneg hb.1 (by omega), Int.ediv_le_self _ hb.1⟩
    rw [← hd, h3, IntWalk.i64_in _ (by omega), hv, suf_step (k := i.toNat) _ (by rw [rng_len]; omega), rd_rngI h0 h1, Int.mul_comm, Int.ediv_ediv_of_nonneg (by omega)]
theorem ct_end (hi : i < 0) (hj : -1 ≤ i) (hc : rng d c = cellT (rng d zs) q (i + 1).toNat) : rng d c = cellL (rng d zs) q := by
  rw [hc, show (i + 1).toNat = 0 by omega, cellT_end]
end
section
variable (d n q : Int) (zs cs : Ix → Int) (fl : Bool)
theorem cellR_tri (hw : Wf (rng d zs) (rng n cs)) (hq : 0 ≤ q ∧ q < 4096) : TriS Try.prog 48 [.l d [.i .i64 zs] fl, .i .i64 q] [] (fun r σ => ∃ c : Ix → Int, rng d c = cellL (rng d zs) q ∧ r = .sl 100 0 d 1 false ∧ σ = [(100, .ar d [.i .i64 c] 3)]) := by
  obtain ⟨hd1, hd2⟩ := wf_d hw
  refine tri_of TT_ok mixed (OR := ORD48) (fn := Try.f48) (c := body Try.f48) (by kernel_rfl) (by kernel_rfl) (by kernel_rfl) (by kernel_rfl) (by simp [Try.f48]) fun H Tri hH hTri => ?_
  cbv
  generalize e_1 : H Int _ = v_2
  simp only [hH, zeroS] at e_1
  replace e_1 := (IntWalk.i64_in _ (by omega)).symm.trans e_1
  refine ⟨by rw [hH]; exact decide_eq_true ⟨by omega, rfl, by show _ * 8 ≤ _; omega⟩, ?_⟩
  cbv
  refine' ⟨0, Int × Int × (Ix → Int), fun ((i, v, c) : Int × Int × (Ix → Int)) => ⟨[(5, V.sl 100 0 d 1 false), (4, V.l 0 [] true), (0, V.l d [C.i IntKind.i64 zs] fl), (6, .i .i64 i), (1, .i .i64 v)], [(100, .ar d [.i .i64 c] 3)], 101⟩, fun ((i, v, c) : Int × Int × (Ix → Int)) => (-1 ≤ i ∧ i < d) ∧ (rng d c = cellT (rng d zs) q (i + 1).toNat) ∧ (v = q / suf (rng d zs) (i + 1).toNat), fun ((i, v, c) : Int × Int × (Ix → Int)) => (i + 1).toNat, ⟨(_, q, _), ⟨?p_3, ?p_4, ?p_5⟩, ?s_6⟩, ?r_7⟩
  case s_6 => cbv <;> repeat' first | exact rfl | exact trivial | exact Or.inr trivial | exact Or.inl rfl | apply And.intro | omega | (split <;> first | exact trivial | (exfalso; simp_all; done)) | (subst_vars; simp [o0]; done)
  case p_3 => omega
  case p_4 => (exact (ct_start (fun _ _ _ => rfl) (by omega) (by omega)).1)
  case p_5 => (exact (ct_start (zs := zs) (c := fun _ => 0) (fun _ _ _ => rfl) (by omega) (by omega)).2)
  rintro ⟨i, v, c⟩ ⟨hj, hc, hv⟩
  cbv
  split
  · rename_i h_8
    simp only [hH, decide_eq_true_eq] at h_8
    cbv
    generalize e_9 : H Int _ = v_10
    simp only [hH, zeroS] at e_9
    generalize e_11 : H Int _ = v_12
    simp only [hH, zeroS] at e_11
    replace e_11 := (IntWalk.i64_in _ (by omega)).symm.trans e_11
    generalize e_13 : H Int _ = v_14
    simp only [hH, zeroS] at e_13
    generalize e_15 : H Int _ = v_16
    simp only [hH, zeroS] at e_15
    subst e_15
    generalize e_17 : H Int _ = v_18
    simp only [hH, zeroS] at e_17
    generalize e_19 : (fun ix => zs (i :: ix)) = c_20
    generalize e_21 : (fun ix => bif decide (hd ix = i) then v_18 else c ix) = c_22
    refine ⟨by rw [hH]; simp; omega, ?_⟩
    cbv
    refine ⟨?q_23, ?_⟩
    case q_23 => ((rw [hH]; have := wf_z hw (i := i) (by omega) (by omega); simp; omega))
    cbv
    refine ⟨by rw [hH]; simp; omega, ?_⟩
    cbv
    refine ⟨by rw [hH]; simp; omega, ?_⟩
    cbv
    refine ⟨?q_24, ?_⟩
    case q_24 => ((rw [hH]; have := wf_z hw (i := i) (by omega) (by omega); simp; omega))
    cbv
    exact rnd (_, (_, _)) (h := ⟨⟨(by omega), (by omega)⟩, ⟨(by (exact (ct_step hw (by omega) hq hc hv (by omega) ‹_› ‹_› ‹_› ‹_›).1)), (by (exact (ct_step (zs := zs) hw (by omega) hq hc hv (by omega) ‹_› ‹_› ‹_› ‹_›).2))⟩⟩) (s := q3)
  · rename_i h_25
    simp only [hH, decide_eq_false_iff_not, Int.not_lt, Int.not_le] at h_25
    cbv
    exact fin (h := ⟨_, ⟨(by (exact ct_end (by omega) hj.1 hc)), ⟨rfl, rfl⟩⟩⟩)
end
end Go.Proofs.Ytilmhjojbolbeaa.AM

namespace Go.Proofs.Ytilmhjojbolbeaa.AM
open Go
set_option maxRecDepth 100000
set_option maxHeartbeats 4000000
section
variable {d n m k k' i v y x a a' p cnt cnt' : Int} {zs cs c lc hc lc' hc' g : Ix → Int}
/-- what holds when i cells were looked at -/
structure OfI (d n m x cnt i : Int) (zs cs lc hc : Ix → Int) : Prop where
  hi : 0 ≤ i ∧ i ≤ n
  hcn : cnt = (eqN (rng n cs) x i.toNat : Int)
  hm : m = if cnt = 0 then 0 else d
  hL : rng m lc = mnT (rng d zs) (rng n cs) x i.toNat
  hU : rng m hc = mxT (rng d zs) (rng n cs) x i.toNat
theorem OfI.bd (h : OfI d n m x cnt i zs cs lc hc) : (0 ≤ cnt ∧ cnt ≤ i) ∧ (m = 0 ∨ m = d) ∧ (cnt = 0 → m = 0) ∧ (cnt ≠ 0 → m = d) := by
  have h1 := eq_le (n := n) (cs := cs) (x := x) h.hi.1
  have h2 := h.hcn; have h3 := h.hm; have h4 := h.hi
  refine ⟨by omega, ?_, fun e => by rw [if_pos e] at h3; exact h3, fun e => by rw [if_neg e] at h3; exact h3⟩
  split at h3 <;> simp [h3]
theorem OfI.zero (h : OfI d n m x cnt i zs cs lc hc) : (0 = cnt ∧ 0 = m) ∨ (cnt ≠ 0 ∧ d = m) := by
  have := h.bd
  by_cases e : cnt = 0
  · exact .inl ⟨e.symm, (this.2.2.1 e).symm⟩
  · exact .inr ⟨e, (this.2.2.2 e).symm⟩
theorem OfI.start (hw : Wf (rng d zs) (rng n cs)) : OfI d n 0 x 0 0 zs cs lc hc := ⟨by have := wf_n hw; omega, rfl, rfl, rfl, rfl⟩
theorem OfI.same (h : OfI d n m x cnt i zs cs lc hc) (h1 : i < n) (hi : i + 1 = k) (hy : cs [i] = y) (hne : y ≠ x) : OfI d n m x cnt k zs cs lc hc := by
  have h0 := h.hi.1
  subst hi hy
  exact ⟨by omega, same_cnt h0 h1 rfl hne h.hcn, h.hm, h.hL.trans (mn_same h0 h1 rfl hne).1.symm, h.hU.trans (mn_same h0 h1 rfl hne).2.symm⟩
theorem OfI.next (h : OfI d n m x cnt i zs cs lc hc) (hd : 1 ≤ d) (h1 : i < n) (hi : i + 1 = k) (hy : cs [i] = y) (hne : y = x) (hcc : cnt + 1 = cnt') (hcell : rng d c = cellL (rng d zs) i) (hl : rng d lc' = nextL min cnt (rng m lc) (rng d c)) (hh : rng d hc' = nextL max cnt (rng m hc) (rng d c)) : OfI d n d x cnt' k zs cs lc' hc' := by
  have h0 := h.hi.1
  subst hi
  have hx : cs [i] = x := hy.trans hne
  have h5 := mn_next (d := d) (zs := zs) h0 h1 rfl hx h.hcn
  refine ⟨by omega, next_cnt h0 h1 rfl hx h.hcn hcc.symm, ?_, ?_, ?_⟩
  · rw [if_neg (by have := h.bd.1; omega)]
  · rw [h5.1, hl, hcell, h.hL]
  · rw [h5.2, hh, hcell, h.hU]
theorem app0 (hd : 0 ≤ d) (hg : (fun ix => bif decide (AM.hd ix < 0) then lc ix else c ((AM.hd ((AM.hd ix + -0) :: ix.tail) + 0) :: ((AM.hd ix + -0) :: ix.tail).tail)) = g) : rng d g = rng d c := by
  subst hg
  refine rng_congr fun j h0 _ => ?_
  have : ¬ j < 0 := by omega
  simp [AM.hd, this]
theorem put_same (h0 : 0 ≤ k) (h1 : k < d) (hg : (fun ix => bif decide (AM.hd ix = k) then v else c ix) = g) (hv : v = c [k]) : rng d g = rng d c := by
  subst hg
  refine rng_congr fun j _ _ => ?_
  by_cases e : j = k <;> simp [AM.hd, e, hv]
theorem same_at {L : List Int} (h : rng d c = L) (h' : rng d g = L) (h0 : 0 ≤ k) (h1 : k < d) : c [k] = g [k] := by rw [rng_at h h0 h1, rng_at h' h0 h1]
/-- the first k numbers were put together -/
structure Mid (F : Int → Int → Int) (d k : Int) (lc : Ix → Int) (L : List Int) (l2 : Ix → Int) : Prop where
  lo : ∀ j, 0 ≤ j → j < k → l2 [j] = F (lc [j]) (rd L j.toNat)
  hi : ∀ j, k ≤ j → j < d → l2 [j] = lc [j]
theorem Mid.start {F : Int → Int → Int} {L : List Int} : Mid F d 0 lc L lc := ⟨fun j h0 h1 => by omega, fun j _ _ => rfl⟩
theorem Mid.step {F : Int → Int → Int} {L : List Int} {l2 : Ix → Int} (h : Mid F d k lc L l2) (h0 : 0 ≤ k) (h1 : k < d) (hx : rng d c = L) (hk : k + 1 = k') (hg : (fun ix => bif decide (AM.hd ix = k) then v else l2 ix) = g) (hv : v = F (l2 [k]) (c [k])) : Mid F d k' lc L g := by
  subst hk hg
  refine ⟨fun j a b => ?_, fun j a b => ?_⟩
  · by_cases e : j = k
    · subst e; simp only [AM.hd, decide_true, cond_true]; rw [hv, h.hi j (by omega) h1, rng_at hx h0 h1]
    · simp only [AM.hd, e, decide_false, cond_false]; exact h.lo j a (by omega)
  · have e : ¬ j = k := by omega
    simp only [AM.hd, e, decide_false, cond_false]; exact h.hi j (by omega) b
theorem Mid.done {F : Int → Int → Int} {L : List Int} {l2 : Ix → Int} (h : Mid F d k lc L l2) (hd : 0 ≤ d) (hk : d ≤ k) (hx : rng d c = L) (hne : cnt ≠ 0) : rng d l2 = nextL F cnt (rng d lc) (rng d c) := by
  rw [nextL, if_neg hne]
  exact rng_pt hd fun j h0 h1 => by rw [h.lo j h0 (by omega), rng_at hx h0 h1]
theorem OfI.ends (hw : Wf (rng d zs) (rng n cs)) (h : OfI d n d x cnt i zs cs lc hc) (hn : n ≤ i) (hne : cnt ≠ 0) : rng d lc = mnC (rng d zs) (rng n cs) x ∧ rng d hc = mxC (rng d zs) (rng n cs) x ∧ eqN (rng n cs) x (rng n cs).length ≠ 0 ∧ cnt = (eqN (rng n cs) x (rng n cs).length : Int) := by
  have e : i = n := by have := h.hi; omega
  have h2 := h.hcn
  subst e
  rw [mnC, mxC, rng_len]
  exact ⟨h.hL, h.hU, by omega, h2⟩
theorem vol_go (hw : Wf (rng d zs) (rng n cs)) (h : OfI d n d x cnt i zs cs lc hc) (hn : n ≤ i) (hne : cnt ≠ 0) (h0 : 0 ≤ k) (h1 : k < d) (ha : a = vol (rng d lc) (rng d hc) k.toNat) (hk : k + 1 = k') :
    (1 ≤ a ∧ a ≤ 4096) ∧ (1 ≤ hc [k] - lc [k] + 1 ∧ hc [k] - lc [k] ≤ 4096 ∧ 0 ≤ lc [k] ∧ hc [k] ≤ 4096) ∧ (1 ≤ a * (hc [k] - lc [k] + 1) ∧ a * (hc [k] - lc [k] + 1) ≤ 4096) ∧ a * (hc [k] - lc [k] + 1) = vol (rng d lc) (rng d hc) k'.toNat := by
  obtain ⟨e1, e2, e3, e4⟩ := h.ends hw hn hne
  have hm := mC_may hw e3
  have hb : 0 ≤ rd (mnC (rng d zs) (rng n cs) x) k.toNat ∧ rd (mnC (rng d zs) (rng n cs) x) k.toNat < rd (rng d zs) k.toNat ∧ 0 ≤ rd (mxC (rng d zs) (rng n cs) x) k.toNat ∧ rd (mxC (rng d zs) (rng n cs) x) k.toNat < rd (rng d zs) k.toNat ∧
    rd (mnC (rng d zs) (rng n cs) x) k.toNat ≤ rd (mxC (rng d zs) (rng n cs) x) k.toNat := mT_bd hw _ e3 k.toNat (by rw [rng_len]; omega)
  have hz := wf_z hw h0 h1
  rw [← e1, ← e2, rd_rngI h0 h1, rd_rngI h0 h1, rd_rngI h0 h1] at hb
  rw [← e1, ← e2] at hm
  have v1 := vol_bd hw hm k.toNat (by rw [rng_len]; omega)
  have v2 := vol_bd hw hm (k.toNat + 1) (by rw [rng_len]; omega)
  have p1 := hw.pr_le (k := k.toNat) (by rw [rng_len]; omega)
  have p2 := hw.pr_le (k := k.toNat + 1) (by rw [rng_len]; omega)
  have e5 : vol (rng d lc) (rng d hc) (k.toNat + 1) = a * (hc [k] - lc [k] + 1) := by rw [vol, ← ha, rd_rngI h0 h1, rd_rngI h0 h1]
  rw [show k'.toNat = k.toNat + 1 by omega, e5]
  rw [e5] at v2
  rw [← ha] at v1
  exact ⟨by omega, by omega, by omega, rfl⟩
theorem of_end (hw : Wf (rng d zs) (rng n cs)) (h : OfI d n d x cnt i zs cs lc hc) (hn : n ≤ i) (hne : cnt ≠ 0) (hk : k = d) (ha : a = vol (rng d lc) (rng d hc) k.toNat) : ofOk (rng d zs) (rng n cs) x = true ↔ a = cnt := by
  obtain ⟨e1, e2, e3, e4⟩ := h.ends hw hn hne
  subst hk
  rw [ofOk, ← e1, ← e2, ha, e4, rng_len (f := zs)]
  simp only [Bool.and_eq_true, decide_eq_true_eq]
  exact ⟨fun q => q.2, fun q => ⟨e3, q⟩⟩
theorem of_end0 (hw : Wf (rng d zs) (rng n cs)) (h : OfI d n 0 x 0 i zs cs lc hc) (hn : n ≤ i) : ofOk (rng d zs) (rng n cs) x = false := by
  have e : i = n := by have := h.hi; omega
  have h2 := h.hcn
  subst e
  have : eqN (rng i cs) x (rng i cs).length = 0 := by rw [rng_len]; omega
  simp [ofOk, this]
end
section
variable (d n x : Int) (zs cs : Ix → Int)
theorem cellR2_tri (q : Int) (fl : Bool) (hw : Wf (rng d zs) (rng n cs)) (hq : 0 ≤ q ∧ q < 4096) : TriS Try.prog 48 [.l d [.i .i64 zs] fl, .i .i64 q] [] (fun r σ => ∃ c : Ix → Int, cellL (rng d zs) q = rng d c ∧ r = .sl 100 0 d 1 false ∧ σ = [(100, .ar d [.i .i64 c] 3)]) :=
  (cellR_tri d n q zs cs fl hw hq).mono' fun _ _ ⟨c, h, h'⟩ => ⟨c, h.symm, h'⟩
theorem ofR_tri (hw : Wf (rng d zs) (rng n cs)) : TriS Try.prog 16 [.pt 0 0, .i .i64 x] (slabR 0 1 2 d n zs cs)
    (fun r σ => (ofOk (rng d zs) (rng n cs) x = true ∧ ∃ lc hc : Ix → Int, rng d lc = mnC (rng d zs) (rng n cs) x ∧ rng d hc = mxC (rng d zs) (rng n cs) x ∧ r = .tu [.sl 100 0 d 1 false, .sl 101 0 d 1 false, .b true] ∧ σ = slabR 0 1 2 d n zs cs ++ [(100, .ar d [.i .i64 lc] 3), (101, .ar d [.i .i64 hc] 3)]) ∨
      (ofOk (rng d zs) (rng n cs) x = false ∧ r = .tu [.l 0 [] true, .l 0 [] true, .b false] ∧ σ = slabR 0 1 2 d n zs cs)) := by
  obtain ⟨hd1, hd2⟩ := wf_d hw
  obtain ⟨hn1, hn2⟩ := wf_n hw
  refine tri_of TT_ok mixed (OR := ORD16) (fn := Try.f16) (c := body Try.f16) (by kernel_rfl) (by kernel_rfl) (by kernel_rfl) (by kernel_rfl) (by simp [Try.f16]) fun H Tri hH hTri => ?_
  cbv
  refine' ⟨0, Int × Int × Int × (Ix → Int) × (Ix → Int), fun ((i, cnt, m, lc, hc) : Int × Int × Int × (Ix → Int) × (Ix → Int)) => ⟨[(6, V.b false), (5, V.l 0 [] true), (4, V.l 0 [] true), (0, V.pt 0 0), (1, V.i IntKind.i64 x), (10, .i .i64 i), (9, .i .i64 cnt), (7, .sl 301 0 m 1 false), (8, .sl 302 0 m 1 false)], [(0, O.st [V.sl 1 0 d 1 false, V.sl 2 0 n 1 false] 83), (1, O.ar d [C.i IntKind.i64 zs] 3), (2, O.ar n [C.i IntKind.i64 cs] 3), (301, .ar m [.i .i64 lc] 3), (302, .ar m [.i .i64 hc] 3)], 303⟩, fun ((i, cnt, m, lc, hc) : Int × Int × Int × (Ix → Int) × (Ix → Int)) => (OfI d n m x cnt i zs cs lc hc) ∧ (0 ≤ i ∧ i ≤ n) ∧ (0 ≤ cnt ∧ cnt ≤ n) ∧ (0 ≤ m ∧ m ≤ 6), fun ((i, cnt, m, lc, hc) : Int × Int × Int × (Ix → Int) × (Ix → Int)) => (n - i).toNat, ⟨(0, 0, 0, zs, zs), ⟨(by (exact OfI.start hw)), (by omega), (by omega), (by omega)⟩, q3⟩, ?r_1⟩
  rintro ⟨i, cnt, m, lc, hc⟩ ⟨hI, hi, hcn, hm0⟩
  obtain ⟨rfl, rfl⟩ | ⟨hne, rfl⟩ := hI.zero
  · cbv
    split
    · rename_i h_2
      simp only [hH, decide_eq_true_eq] at h_2
      cbv
      generalize e_3 : H Int _ = v_4
      simp only [hH, zeroS] at e_3
      generalize e_5 : H Int _ = v_6
      simp only [hH, zeroS] at e_5
      subst e_5
      refine ⟨by rw [hH]; simp; omega, ?_⟩
      cbv
      split
      · rename_i h_7
        simp only [hH, decide_eq_true_eq] at h_7
        cbv
        generalize e_8 : H Int _ = v_9
        simp only [hH, zeroS] at e_8
        replace e_8 := (IntWalk.i64_in _ (by omega)).symm.trans e_8
        exact rnd (_, (_, (_, (_, _)))) (h := ⟨(by (exact hI.same ‹_› ‹_› ‹_› ‹_›)), ⟨⟨(by omega), (by omega)⟩, ⟨⟨(by omega), (by omega)⟩, ⟨(by omega), (by omega)⟩⟩⟩⟩)
      · rename_i h_10
        simp only [hH, decide_eq_false_iff_not, Int.not_lt, Int.not_le] at h_10
        cbv
        generalize e_11 : H Int _ = v_12
        simp only [hH, zeroS] at e_11
        obtain rfl : v_12 = 1 := e_11.symm
        generalize e_13 : H Bool _ = b_14
        simp only [hH] at e_13
        replace e_13 := boolN e_13
        generalize e_15 : H Bool _ = b_16
        simp only [hH] at e_15
        replace e_15 := boolN e_15
        refine cal [] (t := hTri _ _ _ _ (cellR2_tri _ _ _ _ _ _ (by assumption) (by omega))) (k := ?k_17)
        rintro r_18 σ_19 ⟨x_20, ⟨h_21, ⟨rfl, rfl⟩⟩⟩
        simp only [rng_fr0] at h_21
        cbv
        split
        case h_2 => rename_i hh; exact absurd hh (by rw [hH]; simp; try omega)
        cbv
        generalize e_22 : H Int _ = v_23
        simp only [hH, zeroS] at e_22
        subst e_22
        generalize e_24 : (fun ix => bif decide (hd ix < 0) then hc ix else x_20 ((hd ((hd ix + 0) :: ix.tail) + 0) :: ((hd ix + 0) :: ix.tail).tail)) = c_25
        generalize e_26 : (fun ix => bif decide (hd ix < 0) then lc ix else x_20 ((hd ((hd ix + 0) :: ix.tail) + 0) :: ((hd ix + 0) :: ix.tail).tail)) = c_27
        refine ⟨by rw [hH]; simp, ?_⟩
        cbv
        refine ⟨by rw [hH]; simp; omega, ?_⟩
        cbv
        refine ⟨by rw [hH]; simp, ?_⟩
        cbv
        refine ⟨by rw [hH]; simp; omega, ?_⟩
        cbv
        refine' ⟨0, Int × (Ix → Int) × (Ix → Int), fun ((k, l2, h2) : Int × (Ix → Int) × (Ix → Int)) => ⟨[(8, V.sl 324 0 d 1 false), (7, V.sl 323 0 d 1 false), (11, V.sl 403 0 d 1 false), (9, V.i IntKind.i64 1), (6, V.b false), (5, V.l 0 [] true), (4, V.l 0 [] true), (0, V.pt 0 0), (1, V.i IntKind.i64 x), (10, V.i IntKind.i64 i), (12, .i .i64 k)], [(324, .ar d [.i .i64 h2] 3), (323, .ar d [.i .i64 l2] 3), (403, O.ar d [C.i IntKind.i64 x_20] 3), (0, O.st [V.sl 1 0 d 1 false, V.sl 2 0 n 1 false] 83), (1, O.ar d [C.i IntKind.i64 zs] 3), (2, O.ar n [C.i IntKind.i64 cs] 3)], 404⟩, fun ((k, l2, h2) : Int × (Ix → Int) × (Ix → Int)) => (0 ≤ k ∧ k ≤ d) ∧ (rng d l2 = cellL (rng d zs) i) ∧ (rng d h2 = cellL (rng d zs) i), fun ((k, l2, h2) : Int × (Ix → Int) × (Ix → Int)) => (d - k).toNat, ⟨(0, _, _), ⟨?p_28, ?p_29, ?p_30⟩, ?s_31⟩, ?r_32⟩
        case s_31 => cbv <;> repeat' first | exact rfl | exact trivial | exact Or.inr trivial | exact Or.inl rfl | apply And.intro | omega | (split <;> first | exact trivial | (exfalso; simp_all; done)) | (subst_vars; simp [o0]; done)
        case p_28 => omega
        case p_29 => (exact (app0 (by omega) ‹_›).trans (Eq.symm ‹cellL _ _ = rng d _›))
        case p_30 => (exact (app0 (by omega) ‹_›).trans (Eq.symm ‹cellL _ _ = rng d _›))
        rintro ⟨k, l2, h2⟩ ⟨hk, hl2, hh2⟩
        cbv
        split
        · rename_i h_33
          simp only [hH, decide_eq_true_eq] at h_33
          cbv
          generalize e_34 : H Int _ = v_35
          simp only [hH, zeroS] at e_34
          replace e_34 := (IntWalk.i64_in _ (by omega)).symm.trans e_34
          generalize e_36 : H Int _ = v_37
          simp only [hH, zeroS] at e_36
          subst e_36
          generalize e_38 : H Int _ = v_39
          simp only [hH, zeroS] at e_38
          generalize e_40 : H Int _ = v_41
          simp only [hH, zeroS] at e_40
          generalize e_42 : H Int _ = v_43
          simp only [hH, zeroS] at e_42
          generalize e_44 : H Int _ = v_45
          simp only [hH, zeroS] at e_44
          generalize e_46 : H Int _ = v_47
          simp only [hH, zeroS] at e_46
          generalize e_48 : (fun ix => bif decide (hd ix = k) then v_39 else h2 ix) = c_49
          generalize e_50 : (fun ix => bif decide (hd ix = k) then v_45 else l2 ix) = c_51
          refine ⟨by rw [hH]; simp; omega, ?_⟩
          cbv
          refine ⟨by rw [hH]; simp; omega, ?_⟩
          cbv
          refine ⟨by rw [hH]; simp; omega, ?_⟩
          cbv
          refine ⟨by rw [hH]; simp; omega, ?_⟩
          cbv
          refine ⟨by rw [hH]; simp; omega, ?_⟩
          cbv
          refine ⟨by rw [hH]; simp; omega, ?_⟩
          cbv
          exact rnd (_, (_, _)) (h := ⟨⟨(by omega), (by omega)⟩, ⟨(by ((rw [put_same hk.1 (by omega) ‹_› (by have := same_at hl2 (Eq.symm ‹cellL _ _ = rng d _›) hk.1 (by omega); omega)]; exact hl2))), (by ((rw [put_same hk.1 (by omega) ‹_› (by have := same_at hh2 (Eq.symm ‹cellL _ _ = rng d _›) hk.1 (by omega); omega)]; exact hh2)))⟩⟩)
        · rename_i h_52
          simp only [hH, decide_eq_false_iff_not, Int.not_lt, Int.not_le] at h_52
          cbv
          generalize e_53 : H Int _ = v_54
          simp only [hH, zeroS] at e_53
          replace e_53 := (IntWalk.i64_in _ (by omega)).symm.trans e_53
          exact rnd (_, (_, (_, (_, _)))) (h := ⟨(by (exact hI.next hd1 ‹_› ‹_› ‹_› (by omega) ‹_› (Eq.symm ‹cellL _ _ = rng d _›) (by rw [nextL, if_pos rfl, hl2]; assumption) (by rw [nextL, if_pos rfl, hh2]; assumption))), ⟨⟨(by omega), (by omega)⟩, ⟨⟨(by omega), (by assumption)⟩, ⟨(by omega), (by assumption)⟩⟩⟩⟩)
    · rename_i h_55
      simp only [hH, decide_eq_false_iff_not, Int.not_lt, Int.not_le] at h_55
      cbv
      refine' ⟨0, Int, fun (k : Int) => ⟨[(6, V.b false), (5, V.l 0 [] true), (4, V.l 0 [] true), (9, V.i IntKind.i64 0), (7, V.sl 301 0 0 1 false), (8, V.sl 302 0 0 1 false), (14, .i .i64 k), (13, .i .i64 1)], [(0, O.st [V.sl 1 0 d 1 false, V.sl 2 0 n 1 false] 83), (1, O.ar d [C.i IntKind.i64 zs] 3), (2, O.ar n [C.i IntKind.i64 cs] 3), (301, O.ar 0 [C.i IntKind.i64 lc] 3), (302, O.ar 0 [C.i IntKind.i64 hc] 3)], 303⟩, fun (k : Int) => (k = 0), fun (k : Int) => 0, ⟨0, (by rfl), q3⟩, ?r_56⟩
      rintro k hk
      cbv
      split
      case h_1 => rename_i hh; exact absurd hh (by rw [hH]; simp; omega)
      cbv
      split
      case h_2 => rename_i hh; exact absurd hh (by rw [hH]; simp; try omega)
      cbv
      exact fin (h := (Or.inr ⟨(by (exact of_end0 hw hI ‹_›)), ⟨rfl, rfl⟩⟩))
  · cbv
    split
    · rename_i h_57
      simp only [hH, decide_eq_true_eq] at h_57
      cbv
      generalize e_58 : H Int _ = v_59
      simp only [hH, zeroS] at e_58
      generalize e_60 : H Int _ = v_61
      simp only [hH, zeroS] at e_60
      subst e_60
      refine ⟨by rw [hH]; simp; omega, ?_⟩
      cbv
      split
      · rename_i h_62
        simp only [hH, decide_eq_true_eq] at h_62
        cbv
        generalize e_63 : H Int _ = v_64
        simp only [hH, zeroS] at e_63
        replace e_63 := (IntWalk.i64_in _ (by omega)).symm.trans e_63
        exact rnd (_, (_, (_, (_, _)))) (h := ⟨(by (exact hI.same ‹_› ‹_› ‹_› ‹_›)), ⟨⟨(by omega), (by omega)⟩, ⟨⟨(by omega), (by omega)⟩, ⟨(by omega), (by assumption)⟩⟩⟩⟩)
      · rename_i h_65
        simp only [hH, decide_eq_false_iff_not, Int.not_lt, Int.not_le] at h_65
        cbv
        generalize e_66 : H Int _ = v_67
        simp only [hH, zeroS] at e_66
        replace e_66 := (IntWalk.i64_in _ (by omega)).symm.trans e_66
        generalize e_68 : H Bool _ = b_69
        simp only [hH] at e_68
        replace e_68 := boolN e_68
        generalize e_70 : H Bool _ = b_71
        simp only [hH] at e_70
        replace e_70 := boolN e_70
        refine cal [] (t := hTri _ _ _ _ (cellR2_tri _ _ _ _ _ _ (by assumption) (by omega))) (k := ?k_72)
        rintro r_73 σ_74 ⟨x_75, ⟨h_76, ⟨rfl, rfl⟩⟩⟩
        simp only [rng_fr0] at h_76
        cbv
        split
        case h_1 => rename_i hh; exact absurd hh (by rw [hH]; simp; omega)
        cbv
        refine' ⟨0, Int × (Ix → Int) × (Ix → Int), fun ((k, l2, h2) : Int × (Ix → Int) × (Ix → Int)) => ⟨[(11, V.sl 403 0 d 1 false), (9, V.i IntKind.i64 v_67), (6, V.b false), (5, V.l 0 [] true), (4, V.l 0 [] true), (0, V.pt 0 0), (1, V.i IntKind.i64 x), (10, V.i IntKind.i64 i), (7, V.sl 301 0 d 1 false), (8, V.sl 302 0 d 1 false), (12, .i .i64 k)], [(403, O.ar d [C.i IntKind.i64 x_75] 3), (0, O.st [V.sl 1 0 d 1 false, V.sl 2 0 n 1 false] 83), (1, O.ar d [C.i IntKind.i64 zs] 3), (2, O.ar n [C.i IntKind.i64 cs] 3), (301, .ar d [.i .i64 l2] 3), (302, .ar d [.i .i64 h2] 3)], 404⟩, fun ((k, l2, h2) : Int × (Ix → Int) × (Ix → Int)) => (0 ≤ k ∧ k ≤ d) ∧ (Mid min d k lc (cellL (rng d zs) i) l2) ∧ (Mid max d k hc (cellL (rng d zs) i) h2), fun ((k, l2, h2) : Int × (Ix → Int) × (Ix → Int)) => (d - k).toNat, ⟨(0, lc, hc), ⟨(by omega), (by exact ⟨by omega, by omega⟩), (by exact ⟨by omega, by omega⟩)⟩, q3⟩, ?r_77⟩
        rintro ⟨k, l2, h2⟩ ⟨hk, hA, hB⟩
        cbv
        split
        · rename_i h_78
          simp only [hH, decide_eq_true_eq] at h_78
          cbv
          generalize e_79 : H Int _ = v_80
          simp only [hH, zeroS] at e_79
          replace e_79 := (IntWalk.i64_in _ (by omega)).symm.trans e_79
          generalize e_81 : H Int _ = v_82
          simp only [hH, zeroS] at e_81
          subst e_81
          generalize e_83 : H Int _ = v_84
          simp only [hH, zeroS] at e_83
          generalize e_85 : H Int _ = v_86
          simp only [hH, zeroS] at e_85
          generalize e_87 : H Int _ = v_88
          simp only [hH, zeroS] at e_87
          generalize e_89 : H Int _ = v_90
          simp only [hH, zeroS] at e_89
          generalize e_91 : H Int _ = v_92
          simp only [hH, zeroS] at e_91
          generalize e_93 : (fun ix => bif decide (hd ix = k) then v_90 else l2 ix) = c_94
          generalize e_95 : (fun ix => bif decide (hd ix = k) then v_84 else h2 ix) = c_96
          refine ⟨by rw [hH]; simp; omega, ?_⟩
          cbv
          refine ⟨by rw [hH]; simp; omega, ?_⟩
          cbv
          refine ⟨by rw [hH]; simp; omega, ?_⟩
          cbv
          refine ⟨by rw [hH]; simp; omega, ?_⟩
          cbv
          refine ⟨by rw [hH]; simp; omega, ?_⟩
          cbv
          refine ⟨by rw [hH]; simp; omega, ?_⟩
          cbv
          exact rnd (_, (_, _)) (h := ⟨⟨(by omega), (by omega)⟩, ⟨(by (exact hA.step hk.1 (by omega) (Eq.symm ‹cellL _ _ = rng d _›) ‹_› ‹_› (by omega))), (by (exact hB.step hk.1 (by omega) (Eq.symm ‹cellL _ _ = rng d _›) ‹_› ‹_› (by omega)))⟩⟩)
        · rename_i h_97
          simp only [hH, decide_eq_false_iff_not, Int.not_lt, Int.not_le] at h_97
          cbv
          generalize e_98 : H Int _ = v_99
          simp only [hH, zeroS] at e_98
          replace e_98 := (IntWalk.i64_in _ (by omega)).symm.trans e_98
          exact rnd (_, (_, (_, (_, _)))) (h := ⟨(by (exact hI.next hd1 ‹_› ‹_› ‹_› (by omega) ‹_› (Eq.symm ‹cellL _ _ = rng d _›) (hA.done (by omega) (by omega) (Eq.symm ‹cellL _ _ = rng d _›) hne) (hB.done (by omega) (by omega) (Eq.symm ‹cellL _ _ = rng d _›) hne))), ⟨⟨(by omega), (by omega)⟩, ⟨⟨(by omega), (by ((have := hI.hi; have := hI.bd; omega)))⟩, ⟨(by omega), (by assumption)⟩⟩⟩⟩)
    · rename_i h_100
      simp only [hH, decide_eq_false_iff_not, Int.not_lt, Int.not_le] at h_100
      cbv
      refine' ⟨0, Int × Int, fun ((k, a) : Int × Int) => ⟨[(6, V.b false), (5, V.l 0 [] true), (4, V.l 0 [] true), (9, V.i IntKind.i64 cnt), (7, V.sl 301 0 d 1 false), (8, V.sl 302 0 d 1 false), (14, .i .i64 k), (13, .i .i64 a)], [(0, O.st [V.sl 1 0 d 1 false, V.sl 2 0 n 1 false] 83), (1, O.ar d [C.i IntKind.i64 zs] 3), (2, O.ar n [C.i IntKind.i64 cs] 3), (301, O.ar d [C.i IntKind.i64 lc] 3), (302, O.ar d [C.i IntKind.i64 hc] 3)], 303⟩, fun ((k, a) : Int × Int) => (0 ≤ k ∧ k ≤ d) ∧ (a = vol (rng d lc) (rng d hc) k.toNat), fun ((k, a) : Int × Int) => (d - k).toNat, ⟨(0, 1), ⟨(by omega), (by rfl)⟩, q3⟩, ?r_101⟩
      rintro ⟨k, a⟩ ⟨hk, ha⟩
      cbv
      split
      · rename_i h_102
        simp only [hH, decide_eq_true_eq] at h_102
        cbv
        generalize e_103 : H Int _ = v_104
        simp only [hH, zeroS] at e_103
        replace e_103 := (IntWalk.i64_in _ (by omega)).symm.trans e_103
        generalize e_105 : H Int _ = v_106
        simp only [hH, zeroS] at e_105
        rw [IntWalk.i64_in (hc [k] - lc [k]) (by ((have := vol_go hw hI ‹_› hne hk.1 (by omega) ha rfl; subst_vars; omega)))] at e_105
        rw [IntWalk.i64_in (hc [k] - lc [k] + 1) (by ((have := vol_go hw hI ‹_› hne hk.1 (by omega) ha rfl; subst_vars; omega)))] at e_105
        rw [IntWalk.i64_in (a * (hc [k] - lc [k] + 1)) (by ((have := vol_go hw hI ‹_› hne hk.1 (by omega) ha rfl; subst_vars; omega)))] at e_105
        generalize e_107 : H Int _ = v_108
        simp only [hH, zeroS] at e_107
        rw [IntWalk.i64_in (hc [k] - lc [k]) (by ((have := vol_go hw hI ‹_› hne hk.1 (by omega) ha rfl; subst_vars; omega)))] at e_107
        rw [IntWalk.i64_in (hc [k] - lc [k] + 1) (by ((have := vol_go hw hI ‹_› hne hk.1 (by omega) ha rfl; subst_vars; omega)))] at e_107
        generalize e_109 : H Int _ = v_110
        simp only [hH, zeroS] at e_109
        replace e_109 := (IntWalk.i64_in _ (by ((have := vol_go hw hI ‹_› hne hk.1 (by omega) ha rfl; subst_vars; omega)))).symm.trans e_109
        generalize e_111 : H Int _ = v_112
        simp only [hH, zeroS] at e_111
        generalize e_113 : H Int _ = v_114
        simp only [hH, zeroS] at e_113
        subst e_113
        generalize e_115 : H Int _ = v_116
        simp only [hH, zeroS] at e_115
        refine ⟨by rw [hH]; simp; omega, ?_⟩
        cbv
        refine ⟨by rw [hH]; simp; omega, ?_⟩
        cbv
        exact rnd (_, _) (h := ⟨⟨(by omega), (by omega)⟩, (by ((have := vol_go hw hI ‹_› hne hk.1 (by omega) ha ‹_›; subst_vars; omega)))⟩)
      · rename_i h_117
        simp only [hH, decide_eq_false_iff_not, Int.not_lt, Int.not_le] at h_117
        cbv
        split
        case h_1 => rename_i hh; exact absurd hh (by rw [hH]; simp; omega)
        cbv
        split
        · rename_i h_118
          simp only [hH, decide_eq_true_eq] at h_118
          cbv
          exact fin (h := (Or.inr ⟨(by (exact Bool.eq_false_iff.2 fun h7 => absurd ((of_end hw hI ‹_› hne (by omega) ha).1 h7) (by omega))), ⟨rfl, rfl⟩⟩))
        · rename_i h_119
          simp only [hH, decide_eq_false_iff_not, Int.not_lt, Int.not_le] at h_119
          cbv
          exact fin (h := (Or.inl ⟨(by (exact (of_end hw hI ‹_› hne (by omega) ha).2 (by omega))), ⟨_, ⟨_, ⟨(by (exact (hI.ends hw ‹_› hne).1)), ⟨(by (exact (hI.ends hw ‹_› hne).2.1)), ⟨rfl, rfl⟩⟩⟩⟩⟩⟩))
end
end Go.Proofs.Ytilmhjojbolbeaa.AM

namespace Go.Proofs.Ytilmhjojbolbeaa.AM
open Go

set_option maxRecDepth 100000
/-- a disk: its pages' object, what waits -/
def diskC (op ow : Nat) (n m r w f u : Int) : List V := [.sl op 0 n 1 false, .sl ow 0 m 2 false, .i .i64 r, .i .i64 w, .i .i64 f, .i .i64 u]
def diskS (d op ow : Nat) (n m k r w f u : Int) (pg : Ix → Str) (wn : Ix → Int) (ws : Ix → Str) : Sto :=
  [(d, .st (diskC op ow n m r w f u) 128), (op, .ar n [.s pg] 9), (ow, .ar k [.i .i64 wn, .s ws] 155)]
theorem step_tri (n m k r w f u : Int) (pg : Ix → Str) (wn : Ix → Int) (ws : Ix → Str) (hu : -1 ≤ u ∧ u ≤ 9223372036854775807) :
    TriS Try.prog 99 [.pt 0 0] (diskS 0 1 2 n m k r w f u pg wn ws) (fun x σ => ∃ (b : Bool) (u' : Int), x = .b b ∧ (b = true ↔ 0 < u ∨ u = -1) ∧ (u' = if 0 < u then u - 1 else u) ∧ σ = diskS 0 1 2 n m k r w f u' pg wn ws) := by
  refine tri_of TT_ok mixed (OR := OR0) (fn := Try.f99) (c := body Try.f99) (by kernel_rfl) (by kernel_rfl) (by kernel_rfl) (by kernel_rfl) (by simp [Try.f99]) fun H Tri hH hTri => ?_
  cbv
  split
  · rename_i h
    simp only [hH, decide_eq_true_eq] at h
    refine ⟨.b true, diskS 0 1 2 n m k r w f (u - 1) pg wn ws, ⟨true, u - 1, rfl, by simp; omega, by rw [if_pos h], rfl⟩, ?_⟩
    have e1 : IntKind.i64.wrap (u - 1) = u - 1 := IntWalk.i64_in _ (by omega)
    rw [e1, hH]
    cbv
  · rename_i h
    simp only [hH, decide_eq_false_iff_not] at h
    cbv
    obtain ⟨b, hb⟩ : ∃ b, b = decide (u = -1) := ⟨_, rfl⟩
    rw [hH, ← hb]
    refine ⟨.b b, diskS 0 1 2 n m k r w f u pg wn ws, ⟨b, u, rfl, by rw [hb]; simp [h], by rw [if_neg h], rfl⟩, ?_⟩
    cbv
theorem has_tri (n m k r w f u q : Int) (pg : Ix → Str) (wn : Ix → Int) (ws : Ix → Str) :
    TriS Try.prog 111 [.pt 0 0, .i .i64 q] (diskS 0 1 2 n m k r w f u pg wn ws) (fun x σ => ∃ b : Bool, x = .b b ∧ (b = true ↔ 0 ≤ q ∧ q < n) ∧ σ = diskS 0 1 2 n m k r w f u pg wn ws) := by
  refine tri_of TT_ok mixed (OR := OR0) (fn := Try.f111) (c := body Try.f111) (by kernel_rfl) (by kernel_rfl) (by kernel_rfl) (by kernel_rfl) (by simp [Try.f111]) fun H Tri hH hTri => ?_
  cbv
  split
  · rename_i h
    simp only [hH, decide_eq_true_eq] at h
    cbv
    obtain ⟨b, hb⟩ : ∃ b, b = decide (q < n) := ⟨_, rfl⟩
    rw [hH, ← hb]
    refine ⟨.b b, diskS 0 1 2 n m k r w f u pg wn ws, ⟨b, rfl, by rw [hb]; simp [h], rfl⟩, ?_⟩
    cbv
  · rename_i h
    simp only [hH, decide_eq_false_iff_not] at h
    cbv
    refine ⟨.b false, diskS 0 1 2 n m k r w f u pg wn ws, ⟨false, rfl, by simp; omega, rfl⟩, ?_⟩
    cbv
theorem write_tri (n m k r w f u q : Int) (s : Str) (pg : Ix → Str) (wn : Ix → Int) (ws : Ix → Str) (hu : -1 ≤ u ∧ u ≤ 9223372036854775807) (hq : 0 ≤ q ∧ q < n) (hs : s.length = 256) (hu2 : 0 < u ∨ u = -1) (hm : 0 ≤ m ∧ m ≤ 1000000000000) (hw : 0 ≤ w ∧ w ≤ 1000000000000) :
    TriS Try.prog 98 [.pt 0 0, .i .i64 q, .s s] (diskS 0 1 2 n m k r w f u pg wn ws) (fun x σ => x = .i .i64 0 ∧ ∃ u', u' = (if 0 < u then u - 1 else u) ∧ σ = diskS 0 1 100 n (m + 1) (m + 1) r (w + 1) f u' pg (fun ix => bif decide (hd ix < m) then wn ix else q) (fun ix => bif decide (hd ix < m) then ws ix else s)) := by
  refine tri_of TT_ok mixed (OR := OR0) (fn := Try.f98) (c := body Try.f98) (by kernel_rfl) (by kernel_rfl) (by kernel_rfl) (by kernel_rfl) (by simp [Try.f98]) fun H Tri hH hTri => ?_
  cbv
  refine ⟨[0, 1, 2], ⟨⟨rfl, rfl⟩, rfl⟩, _, _, ?_, ?_, _, hTri _ _ _ _ (has_tri n m k r w f u q pg wn ws), ?_⟩
  · cbv
  · cbv
  rintro x σ ⟨b, rfl, hb, rfl⟩
  obtain rfl : b = true := hb.2 hq
  cbv
  split
  · rename_i h
    simp [hH, hs] at h
  · rename_i h
    cbv
    refine ⟨[0, 1, 2], ⟨⟨rfl, rfl⟩, rfl⟩, _, _, ?_, ?_, _, hTri _ _ _ _ (step_tri n m k r w f u pg wn ws hu), ?_⟩
    · cbv
    · cbv
    rintro x σ ⟨b, u', rfl, hb, hu', rfl⟩
    obtain rfl : b = true := hb.2 hu2
    cbv
    have e1 : IntKind.i64.wrap (w + 1) = w + 1 := IntWalk.i64_in _ (by omega)
    refine ⟨by rw [hH]; rfl, by rw [hH]; simp; omega, _, _, ⟨rfl, u', hu', rfl⟩, ?_⟩
    rw [e1]
    obtain ⟨m1, hm1⟩ : ∃ m1, m1 = m + 1 := ⟨_, rfl⟩
    obtain ⟨w1, hw1⟩ : ∃ w1, w1 = w + 1 := ⟨_, rfl⟩
    rw [hH, ← hm1, ← hw1, hH]
    cbv
end Go.Proofs.Ytilmhjojbolbeaa.AM

namespace Go.Proofs.Ytilmhjojbolbeaa.AM
open Go
set_option maxRecDepth 100000
/-- one step of the sum -/
def stepF (n : Int) : Int := if andF .u32 n 1 = 1 then xorF .u32 (shrF .u32 n 1) 3988292384 else shrF .u32 n 1
theorem sum_step (n : Int) : TriS Try.prog 168 [.i .u32 n] [] (fun r σ => ∃ v, v = stepF n ∧ r = .i .u32 v ∧ σ = []) := by
  refine tri_of TT_ok mixed (OR := OR0) (fn := Try.f168) (c := body Try.f168) (by kernel_rfl) (by kernel_rfl) (by kernel_rfl) (by kernel_rfl) (by simp [Try.f168]) fun H Tri hH hTri => ?_
  cbv
  split
  · rename_i h
    simp only [hH, decide_eq_true_eq] at h
    cbv
    refine ⟨by rw [hH]; rfl, ?_⟩
    simp only [hH]
    exact fin_i ⟨_, (if_pos h).symm, rfl, rfl⟩
  · rename_i h
    simp only [hH, decide_eq_false_iff_not] at h
    cbv
    refine ⟨by rw [hH]; rfl, ?_⟩
    simp only [hH]
    exact fin_i ⟨_, (if_neg h).symm, rfl, rfl⟩
def iterF (f : Int → Int) : Nat → Int → Int
  | 0, n => n
  | k + 1, n => f (iterF f k n)
def tabF (j : Int) : Int := iterF stepF 8 (IntKind.u32.wrap j)
theorem sum_table : TriS Try.prog 171 [] [] (fun r σ => ∃ f, (∀ j : Int, 0 ≤ j → j < 256 → f [j] = tabF j) ∧ r = .av .u32 256 f ∧ σ = []) := by
  refine tri_of TT_ok mixed (OR := OR0) (fn := Try.f171) (c := body Try.f171) (by kernel_rfl) (by kernel_rfl) (by kernel_rfl) (by kernel_rfl) (by simp [Try.f171]) fun H Tri hH hTri => ?_
  cbv
  refine ⟨0, Int × (Ix → Int), fun a => ⟨[(0, .pt 100 0), (3, .i .i64 a.1)], [(100, .ar (Int.ofNat 256) [.i .u32 a.2] 232)], 300⟩, fun a => 0 ≤ a.1 ∧ a.1 ≤ 256 ∧ ∀ j : Int, 0 ≤ j → j < a.1 → a.2 [j] = tabF j, fun a => (256 - a.1).toNat, ⟨(0, fun _ => 0), ⟨by simp, by simp, fun j h1 h2 => by omega⟩, ?_⟩, ?_⟩
  · cbv
  · rintro ⟨i, f⟩ ⟨h0, h1, hf⟩
    simp only at h0 h1 hf
    cbv
    split
    · rename_i h
      simp only [hH, decide_eq_true_eq] at h
      cbv
      simp only [hH, decide_eq_true h]
      obtain ⟨n0, hn0⟩ : ∃ n0, n0 = IntKind.u32.wrap i := ⟨_, rfl⟩
      rw [← hn0]
      refine ⟨0, Int × Int, fun a => ⟨[(0, .pt 100 0), (1, .i .i64 i), (2, .i .u32 a.2), (3, .i .i64 i), (8, .i .i64 a.1)], [(100, .ar (Int.ofNat 256) [.i .u32 f] 232)], 400⟩, fun a => 0 ≤ a.1 ∧ a.1 ≤ 8 ∧ a.2 = iterF stepF a.1.toNat n0, fun a => (8 - a.1).toNat, ⟨(0, n0), ⟨by simp, by simp, rfl⟩, ?_⟩, ?_⟩
      · cbv
      · rintro ⟨k, v⟩ ⟨k0, k1, hv⟩
        simp only at k0 k1 hv
        cbv
        split
        · rename_i hk
          simp only [hH, decide_eq_true_eq] at hk
          cbv
          refine ⟨[], ⟨⟨rfl, rfl⟩, rfl⟩, _, _, ?_, ?_, _, hTri _ _ _ _ (sum_step v), ?_⟩
          · cbv
          · cbv
          rintro x σ ⟨v1, hv1, rfl, rfl⟩
          cbv
          have e1 : IntKind.i64.wrap (k + 1) = k + 1 := IntWalk.i64_in _ (by omega)
          rw [e1]
          obtain ⟨k2, hk2⟩ : ∃ k2, k2 = k + 1 := ⟨_, rfl⟩
          simp only [hH, decide_eq_true hk]
          rw [← hk2]
          refine ⟨(k2, v1), ⟨by simp; omega, by simp; omega, ?_⟩, by simp; omega, ?_⟩
          · simp only
            rw [hv1, show k2.toNat = k.toNat + 1 by omega, iterF, hv]
          · cbv
        · rename_i hk
          simp only [hH, decide_eq_false_iff_not] at hk
          have hk8 : k = 8 := by omega
          cbv
          refine ⟨by rw [hH]; simp; omega, ?_⟩
          have e1 : IntKind.i64.wrap (i + 1) = i + 1 := IntWalk.i64_in _ (by omega)
          rw [e1]
          obtain ⟨i2, hi2⟩ : ∃ i2, i2 = i + 1 := ⟨_, rfl⟩
          simp only [hH, decide_eq_false hk]
          obtain ⟨f1, hf1⟩ : ∃ f1 : Ix → Int, f1 = fun ix => bif decide (hd ix = i) then v else f ix := ⟨_, rfl⟩
          rw [← hi2, ← hf1]
          refine ⟨(i2, f1), ⟨by simp; omega, by simp; omega, fun j j0 j1 => ?_⟩, by simp; omega, ?_⟩
          · simp only at j1 ⊢
            rw [hf1]
            by_cases e : j = i
            · subst e; simp [AM.hd, hv, hk8, hn0, tabF]
            · simp [AM.hd, e]; exact hf j j0 (by omega)
          · cbv
    · rename_i h
      simp only [hH, decide_eq_false_iff_not] at h
      cbv
      exact fin_av ⟨f, fun j j0 j1 => hf j j0 (by omega), rfl, rfl⟩
/-- the sum, a byte on -/
def onB (a c : Int) : Int := xorF .u32 (shrF .u32 a 8) (tabF (xorF .u8 (IntKind.u8.wrap a) c))
def onF (n : Int) (s : Str) : Int := s.foldl (fun a c => onB a (c.toNat : Int)) n
theorem sum_on (n : Int) (s : Str) (hs : s.length ≤ 1000000000) : TriS Try.prog 155 [.i .u32 n, .s s] [] (fun r σ => ∃ v, v = onF n s ∧ r = .i .u32 v ∧ σ = []) := by
  refine tri_of TT_ok mixed (OR := OR0) (fn := Try.f155) (c := body Try.f155) (by kernel_rfl) (by kernel_rfl) (by kernel_rfl) (by kernel_rfl) (by simp [Try.f155]) fun H Tri hH hTri => ?_
  cbv
  refine ⟨[], ⟨⟨rfl, rfl⟩, rfl⟩, _, _, ?_, ?_, _, hTri _ _ _ _ sum_table, ?_⟩
  · cbv
  · cbv
  rintro x σ ⟨f, hf, rfl, rfl⟩
  cbv
  obtain ⟨L, hL⟩ : ∃ L : Int, L = NatCast.natCast s.length := ⟨_, rfl⟩
  obtain ⟨bf, hbf⟩ : ∃ bf : Ix → Int, bf = fun ix => NatCast.natCast (s.getD (hd ix).toNat 0).toNat := ⟨_, rfl⟩
  rw [hH, ← hL, ← hbf]
  obtain ⟨hL', hL2, hL3⟩ := castN hL
  clear hL
  refine ⟨0, Int × Int, fun a => ⟨[(0, .i .u32 a.2), (5, .pt 120 0), (10, .l L [.i .u8 bf] false), (11, .i .i64 L), (12, .i .i64 a.1)], [(120, .ar (Int.ofNat 256) [.i .u32 f] 232)], 300⟩, fun a => 0 ≤ a.1 ∧ a.1 ≤ L ∧ a.2 = onF n (s.take a.1.toNat), fun a => (L - a.1).toNat, ⟨(0, n), ⟨by simp, by simp; omega, rfl⟩, ?_⟩, ?_⟩
  · cbv
    simp
  · rintro ⟨i, v⟩ ⟨h0, h1, hv⟩
    simp only at h0 h1 hv
    cbv
    split
    · rename_i h
      simp only [hH, decide_eq_true_eq] at h
      cbv
      simp only [hH, decide_eq_true h, foldX, foldR]
      obtain ⟨w8, hw8⟩ : ∃ w8, w8 = IntKind.u8.wrap v := ⟨_, rfl⟩
      obtain ⟨v2, hv2⟩ : ∃ v2, v2 = shrF .u32 v 8 := ⟨_, rfl⟩
      rw [← hw8, ← hv2]
      obtain ⟨y, hy⟩ : ∃ y, y = xorF .u8 w8 (bf [i]) := ⟨_, rfl⟩
      rw [← hy]
      obtain ⟨v1, hv1⟩ : ∃ v1, v1 = xorF .u32 v2 (f [y]) := ⟨_, rfl⟩
      have e1 : IntKind.i64.wrap (i + 1) = i + 1 := IntWalk.i64_in _ (by omega)
      obtain ⟨i2, hi2⟩ : ∃ i2, i2 = i + 1 := ⟨_, rfl⟩
      rw [← hv1, e1, ← hi2]
      have hyr : 0 ≤ y ∧ y < 256 := by rw [hy]; exact wrapU (k := .u8) (.inl rfl) _
      refine ⟨by simp; omega, by simp, by simpa using hyr, (i2, v1), ⟨by simp; omega, by simp; omega, ?_⟩, by simp; omega, ?_⟩
      · simp only
        have hit : i.toNat < s.length := by omega
        rw [hv1, hf y hyr.1 hyr.2, hy, hw8, hv2, show i2.toNat = i.toNat + 1 by omega, List.take_add_one, List.getElem?_eq_getElem hit, onF, List.foldl_append, hv, onF, hbf]
        simp [onB, AM.hd, hit]
      · cbv
        simp
    · rename_i h
      simp only [hH, decide_eq_false_iff_not] at h
      have hi : i = L := by omega
      cbv
      exact fin_i ⟨_, by rw [hv, hi, hL', Int.toNat_natCast, List.take_length], rfl, rfl⟩
end Go.Proofs.Ytilmhjojbolbeaa.AM

namespace Go.Proofs
open Go.Shelf
def Try.lays170_ren : Go.Shelf.Ren := ⟨fun | 170 => 127 | n => n, fun | 70 => 183 | 3 => 3 | 0 => 0 | 72 => 186 | 37 => 184 | 5 => 5 | n => n, fun | n => n⟩
theorem Try.lays170 : Go.Proofs.Lays.n170 Try.prog Try.lays170_ren := {
  mixed := by kernel_rfl
  f170 := Try.func127.trans (congrArg some (by kernel_rfl))
  t0 := Try.underlying0
  a0 := Try.isAgg0
  z0 := Try.sizeOf0
  v0 := Try.zeroValue0
  t3 := Try.underlying3
  a3 := Try.isAgg3
  z3 := Try.sizeOf3
  v3 := Try.zeroValue3
  t37 := Try.underlying184
  a37 := Try.isAgg184
  z37 := Try.sizeOf184
  v37 := Try.zeroValue184
  t70 := Try.underlying183
  a70 := Try.isAgg183
  z70 := Try.sizeOf183
  v70 := Try.zeroValue183
  t72 := Try.underlying186
  a72 := Try.isAgg186
  z72 := Try.sizeOf186
  v72 := Try.zeroValue186 }
open Go.RowKit in
/-- (*strings.Builder).Len: "Len returns the number of accumulated bytes; b.Len() == len(b.String()).": the world is as it was. (LAID: no walk: one application.) -/
theorem Try.Builder_Len (B b : Nat) (bs : List Value) (w : World) (h : Lib.IsBuilder 186 5 B b bs w) :
    Calls Try.prog 127 #[.pointer (some ⟨b, 0, none⟩)] w fun e w' => e = .returned (.int .i64 bs.length) ∧ w' = w := Any.Builder_Len Try.lays170 B b bs w h
def Try.lays169_ren : Go.Shelf.Ren := ⟨fun | 169 => 128 | n => n, fun | 70 => 183 | 9 => 9 | 0 => 0 | 72 => 186 | 37 => 184 | 127 => 212 | 3 => 3 | 5 => 5 | n => n, fun | n => n⟩
theorem Try.lays169 : Go.Proofs.Lays.n169 Try.prog Try.lays169_ren := {
  mixed := by kernel_rfl
  f169 := Try.func128.trans (congrArg some (by kernel_rfl))
  t0 := Try.underlying0
  a0 := Try.isAgg0
  z0 := Try.sizeOf0
  v0 := Try.zeroValue0
  t3 := Try.underlying3
  a3 := Try.isAgg3
  z3 := Try.sizeOf3
  v3 := Try.zeroValue3
  t9 := Try.underlying9
  a9 := Try.isAgg9
  z9 := Try.sizeOf9
  v9 := Try.zeroValue9
  t37 := Try.underlying184
  a37 := Try.isAgg184
  z37 := Try.sizeOf184
  v37 := Try.zeroValue184
  t70 := Try.underlying183
  a70 := Try.isAgg183
  z70 := Try.sizeOf183
  v70 := Try.zeroValue183
  t72 := Try.underlying186
  a72 := Try.isAgg186
  z72 := Try.sizeOf186
  v72 := Try.zeroValue186
  t127 := Try.underlying212
  a127 := Try.isAgg212
  z127 := Try.sizeOf212
  v127 := Try.zeroValue212 }
theorem Try.Builder_Extra_169 : Builder.Extra Try.prog Try.lays169_ren := {
  sizeBuilder := by kernel_rfl
  liesBuilder := by kernel_rfl
  t5 := Try.underlying5
  a5 := Try.isAgg5
  z5 := Try.sizeOf5
  v5 := Try.zeroValue5
  infoByte := by kernel_rfl
  cellsByte := by kernel_rfl
  sizeByte := by kernel_rfl
  neB5 := by decide }
open Go.RowKit in
/-- (*strings.Builder).String: "String returns the accumulated string.": OF A BUILDER THAT HOLDS AT LEAST ONE BYTE. ✋ THE MODEL FREEZES THOSE BYTES IN THE BUFFER (unsafe.String): a later write INTO them ends the model's run without an answer; a later append BEHIND them goes on. The statement's order of evaluation is drawn: one draw. (LAID: no walk: one application.) -/
theorem Try.Builder_String (B b : Nat) (l : List UInt8) (w : World) (h : Lib.IsBuilder 186 5 B b (Lib.byteCells l) w) (h0 : l ≠ []) :
    Calls Try.prog 128 #[.pointer (some ⟨b, 0, none⟩)] w fun e w' => e = .returned (.string ⟨l.toArray⟩) ∧ Below B w w' := Any.Builder_String Try.lays169 Try.Builder_Extra_169 B b l w h h0
open Go.RowKit in
/-- (*strings.Builder).String OF A BUILDER THAT HOLDS NO BYTE: the empty string. (Its buffer is nil, or a row of which it has taken nothing yet; where that row has NO capacity the model lays one new block for unsafe.SliceData's 'some address'.) One draw. (LAID: no walk: one application.) -/
theorem Try.Builder_String_empty (B b : Nat) (w : World) (h : Lib.IsBuilder 186 5 B b [] w) (hBw : B ≤ w.heap.size) :
    Calls Try.prog 128 #[.pointer (some ⟨b, 0, none⟩)] w fun e w' => e = .returned (.string ⟨#[]⟩) ∧ Below B w w' := Any.Builder_String_empty Try.lays169 Try.Builder_Extra_169 B b w h hBw
open Go.RowKit in
/-- (*strings.Builder).String: "String returns the accumulated string.": WHATEVER THE BUILDER HOLDS. (LAID: no walk: one application.) -/
theorem Try.Builder_String_any (B b : Nat) (l : List UInt8) (w : World) (h : Lib.IsBuilder 186 5 B b (Lib.byteCells l) w) (hBw : B ≤ w.heap.size) :
    Calls Try.prog 128 #[.pointer (some ⟨b, 0, none⟩)] w fun e w' => e = .returned (.string ⟨l.toArray⟩) ∧ Below B w w' := Any.Builder_String_any Try.lays169 Try.Builder_Extra_169 B b l w h hBw
def Try.lays241_ren : Go.Shelf.Ren := ⟨fun | 241 => 153 | 277 => 167 | n => n, fun | 70 => 183 | 3 => 3 | 0 => 0 | 72 => 186 | 37 => 184 | 5 => 5 | n => n, fun | n => n⟩
theorem Try.lays241 : Go.Proofs.Lays.n241 Try.prog Try.lays241_ren := {
  mixed := by kernel_rfl
  f241 := Try.func153.trans (congrArg some (by kernel_rfl))
  f277 := Try.func167.trans (congrArg some (by kernel_rfl))
  t0 := Try.underlying0
  a0 := Try.isAgg0
  z0 := Try.sizeOf0
  v0 := Try.zeroValue0
  t3 := Try.underlying3
  a3 := Try.isAgg3
  z3 := Try.sizeOf3
  v3 := Try.zeroValue3
  t37 := Try.underlying184
  a37 := Try.isAgg184
  z37 := Try.sizeOf184
  v37 := Try.zeroValue184
  t70 := Try.underlying183
  a70 := Try.isAgg183
  z70 := Try.sizeOf183
  v70 := Try.zeroValue183
  t72 := Try.underlying186
  a72 := Try.isAgg186
  z72 := Try.sizeOf186
  v72 := Try.zeroValue186 }
theorem Try.Builder_Extra_241 : Builder.Extra Try.prog Try.lays241_ren := {
  sizeBuilder := by kernel_rfl
  liesBuilder := by kernel_rfl
  t5 := Try.underlying5
  a5 := Try.isAgg5
  z5 := Try.sizeOf5
  v5 := Try.zeroValue5
  infoByte := by kernel_rfl
  cellsByte := by kernel_rfl
  sizeByte := by kernel_rfl
  neB5 := by decide }
open Go.RowKit in
/-- (*strings.Builder).grow (no doc but "grow copies the buffer to a new, larger buffer so that there are at least n bytes of capacity beyond len(b.buf)."): AT A BUILDER WITHOUT A BUFFER: a new row of whatever bytes for its buffer, none of them its own yet. Three draws. (LAID: no walk: one application.) -/
theorem Try.Builder_grow_fresh (B b n : Nat) (w : World) (hB : B ≤ b) (hbk : w.heap[b]? = some (.cells #[.pointer (some ⟨b, 0, none⟩), .slice none 0 0] 186 (0, 0))) (hBw : B ≤ w.heap.size) (hn : n ≤ 281474976710656) :
    Calls Try.prog 153 #[.pointer (some ⟨b, 0, none⟩), .int .i64 n] w fun e w' => e = .returned (.tuple #[]) ∧ (Lib.BuilderAt 186 5 B b (.pointer (some ⟨b, 0, none⟩)) [] w' ∧ Below B w w') := Any.Builder_grow_fresh Try.lays241 Try.Builder_Extra_241 B b n w hB hbk hBw hn
def Try.lays165_ren : Go.Shelf.Ren := ⟨fun | 165 => 125 | 240 => 152 | 241 => 153 | 276 => 166 | 277 => 167 | n => n, fun | 70 => 183 | 3 => 3 | 0 => 0 | 4 => 4 | 9 => 9 | 20 => 20 | 72 => 186 | 37 => 184 | 164 => 225 | 5 => 5 | n => n, fun | n => n⟩
theorem Try.lays165 : Go.Proofs.Lays.n165 Try.prog Try.lays165_ren := {
  mixed := by kernel_rfl
  f165 := Try.func125.trans (congrArg some (by kernel_rfl))
  f240 := Try.func152.trans (congrArg some (by kernel_rfl))
  f241 := Try.func153.trans (congrArg some (by kernel_rfl))
  f276 := Try.func166.trans (congrArg some (by kernel_rfl))
  f277 := Try.func167.trans (congrArg some (by kernel_rfl))
  t0 := Try.underlying0
  a0 := Try.isAgg0
  z0 := Try.sizeOf0
  v0 := Try.zeroValue0
  t3 := Try.underlying3
  a3 := Try.isAgg3
  z3 := Try.sizeOf3
  v3 := Try.zeroValue3
  t4 := Try.underlying4
  a4 := Try.isAgg4
  z4 := Try.sizeOf4
  v4 := Try.zeroValue4
  t9 := Try.underlying9
  a9 := Try.isAgg9
  z9 := Try.sizeOf9
  v9 := Try.zeroValue9
  t20 := Try.underlying20
  a20 := Try.isAgg20
  z20 := Try.sizeOf20
  v20 := Try.zeroValue20
  t37 := Try.underlying184
  a37 := Try.isAgg184
  z37 := Try.sizeOf184
  v37 := Try.zeroValue184
  t70 := Try.underlying183
  a70 := Try.isAgg183
  z70 := Try.sizeOf183
  v70 := Try.zeroValue183
  t72 := Try.underlying186
  a72 := Try.isAgg186
  z72 := Try.sizeOf186
  v72 := Try.zeroValue186
  t164 := Try.underlying225
  a164 := Try.isAgg225
  z164 := Try.sizeOf225
  v164 := Try.zeroValue225 }
theorem Try.Builder_Extra_165 : Builder.Extra Try.prog Try.lays165_ren := {
  sizeBuilder := by kernel_rfl
  liesBuilder := by kernel_rfl
  t5 := Try.underlying5
  a5 := Try.isAgg5
  z5 := Try.sizeOf5
  v5 := Try.zeroValue5
  infoByte := by kernel_rfl
  cellsByte := by kernel_rfl
  sizeByte := by kernel_rfl
  neB5 := by decide }
open Go.RowKit in
/-- (*strings.Builder).Grow AT A BUILDER THAT HAS NOT BEEN WRITTEN ('var b strings.Builder; b.Grow(n)'): "Grow grows b's capacity, if necessary, to guarantee space for another n bytes.": it holds no byte behind it as before it. (LAID: no walk: one application.) -/
theorem Try.Builder_Grow_fresh (B b n : Nat) (w : World) (hB : B ≤ b) (hbk : w.heap[b]? = some (.cells #[.pointer none, .slice none 0 0] 186 (0, 0))) (hBw : B ≤ w.heap.size) (hn : n ≤ 281474976710656) :
    Calls Try.prog 125 #[.pointer (some ⟨b, 0, none⟩), .int .i64 n] w fun e w' => e = .returned (.tuple #[]) ∧ (Lib.BuilderAt 186 5 B b (.pointer (some ⟨b, 0, none⟩)) [] w' ∧ Below B w w') := Any.Builder_Grow_fresh Try.lays165 Try.Builder_Extra_165 B b n w hB hbk hBw hn
def Try.lays128_ren : Go.Shelf.Ren := ⟨fun | 128 => 147 | n => n, fun | 51 => 77 | 3 => 3 | 4 => 4 | 46 => 141 | 5 => 5 | 9 => 9 | n => n, fun | n => n⟩
theorem Try.lays128 : Go.Proofs.Lays.n128 Try.prog Try.lays128_ren := {
  mixed := by kernel_rfl
  f128 := Try.func147.trans (congrArg some (by kernel_rfl))
  t3 := Try.underlying3
  a3 := Try.isAgg3
  z3 := Try.sizeOf3
  v3 := Try.zeroValue3
  t4 := Try.underlying4
  a4 := Try.isAgg4
  z4 := Try.sizeOf4
  v4 := Try.zeroValue4
  t5 := Try.underlying5
  a5 := Try.isAgg5
  z5 := Try.sizeOf5
  v5 := Try.zeroValue5
  t9 := Try.underlying9
  a9 := Try.isAgg9
  z9 := Try.sizeOf9
  v9 := Try.zeroValue9
  t46 := Try.underlying141
  a46 := Try.isAgg141
  z46 := Try.sizeOf141
  v46 := Try.zeroValue141
  t51 := Try.underlying77
  a51 := Try.isAgg77
  z51 := Try.sizeOf77
  v51 := Try.zeroValue77 }
/-- bits.Len32: "Len32 returns the minimum number of bits required to represent x; the result is 0 for x == 0.": IT RETURNS 'Lib.bitLen x'; the world is as it was. ('h0', 'h1': x is a uint32.) (LAID: no walk: one application.) -/
theorem Try.bits_Len32 (x : Int) (w : World) (h0 : 0 ≤ x) (h1 : x ≤ 4294967295) :
    Calls Try.prog 147 #[.int .u32 x] w fun e w' => e = .returned (.int .i64 (Lib.bitLen x.toNat)) ∧ w' = w := Any.bits_Len32 Try.lays128 x w h0 h1
def Try.lays125_ren : Go.Shelf.Ren := ⟨fun | 125 => 118 | 128 => 147 | 129 => 148 | n => n, fun | 46 => 141 | 3 => 3 | 51 => 77 | 53 => 179 | 4 => 4 | 5 => 5 | 9 => 9 | n => n, fun | n => n⟩
theorem Try.lays125 : Go.Proofs.Lays.n125 Try.prog Try.lays125_ren := {
  mixed := by kernel_rfl
  f125 := Try.func118.trans (congrArg some (by kernel_rfl))
  f128 := Try.func147.trans (congrArg some (by kernel_rfl))
  f129 := Try.func148.trans (congrArg some (by kernel_rfl))
  t3 := Try.underlying3
  a3 := Try.isAgg3
  z3 := Try.sizeOf3
  v3 := Try.zeroValue3
  t4 := Try.underlying4
  a4 := Try.isAgg4
  z4 := Try.sizeOf4
  v4 := Try.zeroValue4
  t5 := Try.underlying5
  a5 := Try.isAgg5
  z5 := Try.sizeOf5
  v5 := Try.zeroValue5
  t9 := Try.underlying9
  a9 := Try.isAgg9
  z9 := Try.sizeOf9
  v9 := Try.zeroValue9
  t46 := Try.underlying141
  a46 := Try.isAgg141
  z46 := Try.sizeOf141
  v46 := Try.zeroValue141
  t51 := Try.underlying77
  a51 := Try.isAgg77
  z51 := Try.sizeOf77
  v51 := Try.zeroValue77
  t53 := Try.underlying179
  a53 := Try.isAgg179
  z53 := Try.sizeOf179
  v53 := Try.zeroValue179 }
/-- bits.Len: "Len returns the minimum number of bits required to represent x; the result is 0 for x == 0.": IT RETURNS 'Lib.bitLen x'; the world is as it was. (A uint has 64 bits in the model.) ITS CALLEE bits.Len64 IS MET BY ITS OWN CONTRACT OFF THE SHELF (lay that first). (LAID: no walk: one application.) -/
theorem Try.bits_Len (x : Int) (w : World) (h0 : 0 ≤ x) (h1 : x ≤ 18446744073709551615) :
    Calls Try.prog 118 #[.int .u64 x] w fun e w' => e = .returned (.int .i64 (Lib.bitLen x.toNat)) ∧ w' = w := Any.bits_Len Try.lays125 x w h0 h1
def Try.lays215_ren : Go.Shelf.Ren := ⟨fun | 215 => 161 | n => n, fun | 3 => 3 | 4 => 4 | n => n, fun | n => n⟩
theorem Try.lays215 : Go.Proofs.Lays.n215 Try.prog Try.lays215_ren := {
  mixed := by kernel_rfl
  f215 := Try.func161.trans (congrArg some (by kernel_rfl))
  t3 := Try.underlying3
  a3 := Try.isAgg3
  z3 := Try.sizeOf3
  v3 := Try.zeroValue3
  t4 := Try.underlying4
  a4 := Try.isAgg4
  z4 := Try.sizeOf4
  v4 := Try.zeroValue4 }
open Go.RowKit in
/-- cmp.isNaN at int: 'x != x': false. (LAID: no walk: one application.) -/
theorem Try.cmp_isNaN_int (x : Int) (w : World) :
    Calls Try.prog 161 #[.int .i64 x] w fun e w' => e = .returned (.bool false) ∧ w' = w := Any.cmp_isNaN_int Try.lays215 x w
open Go.RowKit in
/-- (*strings.Builder).Len: "Len returns the number of accumulated bytes; b.Len() == len(b.String()).": the world is as it was. (THE FORM '_f': 'Lib.IsBuilderF'.) (LAID: no walk: one application.) -/
theorem Try.Builder_Len_f (B b : Nat) (bs : List Value) (w : World) (h : Lib.IsBuilderF 186 5 B b bs w) :
    Calls Try.prog 127 #[.pointer (some ⟨b, 0, none⟩)] w fun e w' => e = .returned (.int .i64 bs.length) ∧ w' = w := Any.Builder_Len_f Try.lays170 B b bs w h
open Go.RowKit in
/-- (*strings.Builder).String: "String returns the accumulated string.": OF A BUILDER THAT HOLDS AT LEAST ONE BYTE. ✋ THE MODEL FREEZES THOSE BYTES IN THE BUFFER (unsafe.String): a later write INTO them ends the model's run without an answer; a later append BEHIND them goes on. The statement's order of evaluation is drawn: one draw. THE FORM '_f': IT SAYS BESIDES THAT THE BUILDER IS A BUILDER STILL ('Lib.IsBuilderF', the same bytes): SO IT CAN BE WRITTEN ON: 'b.WriteString(b.String()[:k])'. (LAID: no walk: one application.) -/
theorem Try.Builder_String_f (B b : Nat) (l : List UInt8) (w : World) (h : Lib.IsBuilderF 186 5 B b (Lib.byteCells l) w) (h0 : l ≠ []) :
    Calls Try.prog 128 #[.pointer (some ⟨b, 0, none⟩)] w fun e w' => e = .returned (.string ⟨l.toArray⟩) ∧ (Lib.IsBuilderF 186 5 B b (Lib.byteCells l) w' ∧ Below B w w') := Any.Builder_String_f Try.lays169 Try.Builder_Extra_169 B b l w h h0
open Go.RowKit in
/-- (*strings.Builder).String OF A BUILDER THAT HOLDS NO BYTE: the empty string; THE FORM '_f': a builder still. (LAID: no walk: one application.) -/
theorem Try.Builder_String_empty_f (B b : Nat) (w : World) (h : Lib.IsBuilderF 186 5 B b [] w) (hBw : B ≤ w.heap.size) :
    Calls Try.prog 128 #[.pointer (some ⟨b, 0, none⟩)] w fun e w' => e = .returned (.string ⟨#[]⟩) ∧ (Lib.IsBuilderF 186 5 B b [] w' ∧ Below B w w') := Any.Builder_String_empty_f Try.lays169 Try.Builder_Extra_169 B b w h hBw
open Go.RowKit in
/-- (*strings.Builder).String: "String returns the accumulated string.": WHATEVER THE BUILDER HOLDS; THE FORM '_f': OF A BUILDER THAT MAY HAVE BEEN READ BEFORE; AND IT IS A BUILDER STILL, holding the same bytes: it can be written on. (LAID: no walk: one application.) -/
theorem Try.Builder_String_any_f (B b : Nat) (l : List UInt8) (w : World) (h : Lib.IsBuilderF 186 5 B b (Lib.byteCells l) w) (hBw : B ≤ w.heap.size) :
    Calls Try.prog 128 #[.pointer (some ⟨b, 0, none⟩)] w fun e w' => e = .returned (.string ⟨l.toArray⟩) ∧ (Lib.IsBuilderF 186 5 B b (Lib.byteCells l) w' ∧ Below B w w') := Any.Builder_String_any_f Try.lays169 Try.Builder_Extra_169 B b l w h hBw
open Go.RowKit in
/-- (*strings.Builder).String: "String returns the accumulated string.": OF A BUILDER THAT HOLDS AT LEAST ONE BYTE. ✋ THE MODEL FREEZES THOSE BYTES IN THE BUFFER (unsafe.String): a later write INTO them ends the model's run without an answer; a later append BEHIND them goes on. The statement's order of evaluation is drawn: one draw. THE FORM '_k': OVER 'Lib.IsBuilderF' (a builder that 'String()' may have read), AND WITH THE FRAME THAT REACHES ABOVE THE BUILDER: 'Lib.OthersKept': every block that is not b and is no row of uint8's stands as it stood: the iterator of a range among them. (LAID: no walk: one application.) -/
theorem Try.Builder_String_k (B b : Nat) (l : List UInt8) (w : World) (h : Lib.IsBuilderF 186 5 B b (Lib.byteCells l) w) (h0 : l ≠ []) :
    Calls Try.prog 128 #[.pointer (some ⟨b, 0, none⟩)] w fun e w' => e = .returned (.string ⟨l.toArray⟩) ∧ (Lib.IsBuilderF 186 5 B b (Lib.byteCells l) w' ∧ Below B w w' ∧ Lib.OthersKept 5 (some b) w w') := Any.Builder_String_k Try.lays169 Try.Builder_Extra_169 B b l w h h0
open Go.RowKit in
/-- (*strings.Builder).String OF A BUILDER THAT HOLDS NO BYTE: the empty string; THE FORM '_k': OVER 'Lib.IsBuilderF' (a builder that 'String()' may have read), AND WITH THE FRAME THAT REACHES ABOVE THE BUILDER: 'Lib.OthersKept': every block that is not b and is no row of uint8's stands as it stood: the iterator of a range among them. (LAID: no walk: one application.) -/
theorem Try.Builder_String_empty_k (B b : Nat) (w : World) (h : Lib.IsBuilderF 186 5 B b [] w) (hBw : B ≤ w.heap.size) :
    Calls Try.prog 128 #[.pointer (some ⟨b, 0, none⟩)] w fun e w' => e = .returned (.string ⟨#[]⟩) ∧ (Lib.IsBuilderF 186 5 B b [] w' ∧ Below B w w' ∧ Lib.OthersKept 5 (some b) w w') := Any.Builder_String_empty_k Try.lays169 Try.Builder_Extra_169 B b w h hBw
open Go.RowKit in
/-- (*strings.Builder).String: "String returns the accumulated string.": WHATEVER THE BUILDER HOLDS; THE FORM '_k': OVER 'Lib.IsBuilderF' (a builder that 'String()' may have read), AND WITH THE FRAME THAT REACHES ABOVE THE BUILDER: 'Lib.OthersKept': every block that is not b and is no row of uint8's stands as it stood: the iterator of a range among them. (LAID: no walk: one application.) -/
theorem Try.Builder_String_any_k (B b : Nat) (l : List UInt8) (w : World) (h : Lib.IsBuilderF 186 5 B b (Lib.byteCells l) w) (hBw : B ≤ w.heap.size) :
    Calls Try.prog 128 #[.pointer (some ⟨b, 0, none⟩)] w fun e w' => e = .returned (.string ⟨l.toArray⟩) ∧ (Lib.IsBuilderF 186 5 B b (Lib.byteCells l) w' ∧ Below B w w' ∧ Lib.OthersKept 5 (some b) w w') := Any.Builder_String_any_k Try.lays169 Try.Builder_Extra_169 B b l w h hBw
open Go.RowKit in
/-- (*strings.Builder).grow (no doc but "grow copies the buffer to a new, larger buffer so that there are at least n bytes of capacity beyond len(b.buf)."): AT A BUILDER WITHOUT A BUFFER: a new row of whatever bytes for its buffer, none of them its own yet. Three draws. (LAID: no walk: one application.) -/
theorem Try.Builder_grow_fresh_cap (B b n : Nat) (w : World) (hB : B ≤ b) (hbk : w.heap[b]? = some (.cells #[.pointer (some ⟨b, 0, none⟩), .slice none 0 0] 186 (0, 0))) (hBw : B ≤ w.heap.size) (hn : n ≤ 281474976710656) :
    Calls Try.prog 153 #[.pointer (some ⟨b, 0, none⟩), .int .i64 n] w fun e w' => e = .returned (.tuple #[]) ∧ (Lib.BuilderAt 186 5 B b (.pointer (some ⟨b, 0, none⟩)) [] w' ∧ Below B w w') ∧ ∃ p cap, w'.cell? ⟨b, 1, none⟩ = some (.slice p 0 cap) ∧ n ≤ cap := Any.Builder_grow_fresh_cap Try.lays241 Try.Builder_Extra_241 B b n w hB hbk hBw hn
open Go.RowKit in
/-- (*strings.Builder).Grow AT A BUILDER THAT HAS NOT BEEN WRITTEN ('var b strings.Builder; b.Grow(n)'): "Grow grows b's capacity, if necessary, to guarantee space for another n bytes.": it holds no byte behind it as before it. (LAID: no walk: one application.) -/
theorem Try.Builder_Grow_fresh_cap (B b n : Nat) (w : World) (hB : B ≤ b) (hbk : w.heap[b]? = some (.cells #[.pointer none, .slice none 0 0] 186 (0, 0))) (hBw : B ≤ w.heap.size) (hn : n ≤ 281474976710656) :
    Calls Try.prog 125 #[.pointer (some ⟨b, 0, none⟩), .int .i64 n] w fun e w' => e = .returned (.tuple #[]) ∧ (Lib.BuilderAt 186 5 B b (.pointer (some ⟨b, 0, none⟩)) [] w' ∧ Below B w w') ∧ ∃ p cap, w'.cell? ⟨b, 1, none⟩ = some (.slice p 0 cap) ∧ n ≤ cap := Any.Builder_Grow_fresh_cap Try.lays165 Try.Builder_Extra_165 B b n w hB hbk hBw hn
def Try.lays129_ren : Go.Shelf.Ren := ⟨fun | 129 => 148 | n => n, fun | 53 => 179 | 3 => 3 | 4 => 4 | 46 => 141 | 5 => 5 | 9 => 9 | n => n, fun | n => n⟩
theorem Try.lays129 : Go.Proofs.Lays.n129 Try.prog Try.lays129_ren := {
  mixed := by kernel_rfl
  f129 := Try.func148.trans (congrArg some (by kernel_rfl))
  t3 := Try.underlying3
  a3 := Try.isAgg3
  z3 := Try.sizeOf3
  v3 := Try.zeroValue3
  t4 := Try.underlying4
  a4 := Try.isAgg4
  z4 := Try.sizeOf4
  v4 := Try.zeroValue4
  t5 := Try.underlying5
  a5 := Try.isAgg5
  z5 := Try.sizeOf5
  v5 := Try.zeroValue5
  t9 := Try.underlying9
  a9 := Try.isAgg9
  z9 := Try.sizeOf9
  v9 := Try.zeroValue9
  t46 := Try.underlying141
  a46 := Try.isAgg141
  z46 := Try.sizeOf141
  v46 := Try.zeroValue141
  t53 := Try.underlying179
  a53 := Try.isAgg179
  z53 := Try.sizeOf179
  v53 := Try.zeroValue179 }
/-- bits.Len64: "Len64 returns the minimum number of bits required to represent x; the result is 0 for x == 0.": IT RETURNS 'Lib.bitLen x'; the world is as it was. ('h0', 'h1': x is a uint64.) (LAID: no walk: one application.) -/
theorem Try.bits_Len64 (x : Int) (w : World) (h0 : 0 ≤ x) (h1 : x ≤ 18446744073709551615) :
    Calls Try.prog 148 #[.int .u64 x] w fun e w' => e = .returned (.int .i64 (Lib.bitLen x.toNat)) ∧ w' = w := Any.bits_Len64 Try.lays129 x w h0 h1
def Try.lays189_ren : Go.Shelf.Ren := ⟨fun | 189 => 77 | 125 => 118 | 257 => 117 | 128 => 147 | 129 => 148 | 294 => 138 | 295 => 139 | 296 => 140 | 297 => 141 | 298 => 142 | 299 => 143 | 216 => 144 | 300 => 145 | 301 => 146 | 328 => 156 | 329 => 157 | 330 => 158 | 331 => 159 | 332 => 160 | 215 => 161 | 343 => 172 | n => n, fun | 28 => 22 | 3 => 3 | 46 => 141 | 0 => 0 | 51 => 77 | 53 => 179 | 4 => 4 | 183 => 202 | 182 => 201 | 131 => 207 | 5 => 5 | 9 => 9 | 218 => 216 | 222 => 220 | 228 => 234 | 229 => 235 | n => n, fun | n => n⟩
theorem Try.lays189 : Go.Proofs.Lays.n189 Try.prog Try.lays189_ren := {
  mixed := by kernel_rfl
  f125 := Try.func118.trans (congrArg some (by kernel_rfl))
  f128 := Try.func147.trans (congrArg some (by kernel_rfl))
  f129 := Try.func148.trans (congrArg some (by kernel_rfl))
  f189 := Try.func77.trans (congrArg some (by kernel_rfl))
  f215 := Try.func161.trans (congrArg some (by kernel_rfl))
  f216 := Try.func144.trans (congrArg some (by kernel_rfl))
  f257 := Try.func117.trans (congrArg some (by kernel_rfl))
  f294 := Try.func138.trans (congrArg some (by kernel_rfl))
  f295 := Try.func139.trans (congrArg some (by kernel_rfl))
  f296 := Try.func140.trans (congrArg some (by kernel_rfl))
  f297 := Try.func141.trans (congrArg some (by kernel_rfl))
  f298 := Try.func142.trans (congrArg some (by kernel_rfl))
  f299 := Try.func143.trans (congrArg some (by kernel_rfl))
  f300 := Try.func145.trans (congrArg some (by kernel_rfl))
  f301 := Try.func146.trans (congrArg some (by kernel_rfl))
  f328 := Try.func156.trans (congrArg some (by kernel_rfl))
  f329 := Try.func157.trans (congrArg some (by kernel_rfl))
  f330 := Try.func158.trans (congrArg some (by kernel_rfl))
  f331 := Try.func159.trans (congrArg some (by kernel_rfl))
  f332 := Try.func160.trans (congrArg some (by kernel_rfl))
  f343 := Try.func172.trans (congrArg some (by kernel_rfl))
  t0 := Try.underlying0
  a0 := Try.isAgg0
  z0 := Try.sizeOf0
  v0 := Try.zeroValue0
  t3 := Try.underlying3
  a3 := Try.isAgg3
  z3 := Try.sizeOf3
  v3 := Try.zeroValue3
  t4 := Try.underlying4
  a4 := Try.isAgg4
  z4 := Try.sizeOf4
  v4 := Try.zeroValue4
  t5 := Try.underlying5
  a5 := Try.isAgg5
  z5 := Try.sizeOf5
  v5 := Try.zeroValue5
  t9 := Try.underlying9
  a9 := Try.isAgg9
  z9 := Try.sizeOf9
  v9 := Try.zeroValue9
  t28 := Try.underlying22
  a28 := Try.isAgg22
  z28 := Try.sizeOf22
  v28 := Try.zeroValue22
  t46 := Try.underlying141
  a46 := Try.isAgg141
  z46 := Try.sizeOf141
  v46 := Try.zeroValue141
  t51 := Try.underlying77
  a51 := Try.isAgg77
  z51 := Try.sizeOf77
  v51 := Try.zeroValue77
  t53 := Try.underlying179
  a53 := Try.isAgg179
  z53 := Try.sizeOf179
  v53 := Try.zeroValue179
  t131 := Try.underlying207
  a131 := Try.isAgg207
  z131 := Try.sizeOf207
  v131 := Try.zeroValue207
  t182 := Try.underlying201
  a182 := Try.isAgg201
  z182 := Try.sizeOf201
  v182 := Try.zeroValue201
  t183 := Try.underlying202
  a183 := Try.isAgg202
  z183 := Try.sizeOf202
  v183 := Try.zeroValue202
  t218 := Try.underlying216
  a218 := Try.isAgg216
  z218 := Try.sizeOf216
  v218 := Try.zeroValue216
  t222 := Try.underlying220
  a222 := Try.isAgg220
  z222 := Try.sizeOf220
  v222 := Try.zeroValue220
  t228 := Try.underlying234
  a228 := Try.isAgg234
  z228 := Try.sizeOf234
  v228 := Try.zeroValue234
  t229 := Try.underlying235
  a229 := Try.isAgg235
  z229 := Try.sizeOf235
  v229 := Try.zeroValue235 }
open Go.Sort Go.RowKit in
theorem Try.slices_Sort_int (blk off cap : Nat) (zs : List Int) (w : World) (hH : Holds (Value.int .i64) w blk off zs.toArray) (hblk : blk < w.heap.size) (hsz : zs.length < 4611686018427387904) :
    Calls Try.prog 77 #[.slice (some ⟨blk, off, none⟩) zs.length cap] w fun e w' =>
      e = .returned (.tuple #[]) ∧ ∃ n os, w' = grow (putRow (Value.int .i64) (Sort.ahead w n) blk off (zs.mergeSort fun x y => decide (x ≤ y)).toArray) os := Any.slices_Sort_int Try.lays189 blk off cap zs w hH hblk hsz
def Try.lays206_ren : Go.Shelf.Ren := ⟨fun | 206 => 151 | n => n, fun | 9 => 9 | 4 => 4 | 3 => 3 | n => n, fun | n => n⟩
theorem Try.lays206 : Go.Proofs.Lays.n206 Try.prog Try.lays206_ren := {
  mixed := by kernel_rfl
  f206 := Try.func151.trans (congrArg some (by kernel_rfl))
  t3 := Try.underlying3
  a3 := Try.isAgg3
  z3 := Try.sizeOf3
  v3 := Try.zeroValue3
  t4 := Try.underlying4
  a4 := Try.isAgg4
  z4 := Try.sizeOf4
  v4 := Try.zeroValue4
  t9 := Try.underlying9
  a9 := Try.isAgg9
  z9 := Try.sizeOf9
  v9 := Try.zeroValue9 }
open Go.RowKit Go.Lib in
/-- internal/stringslite.HasPrefix (what strings.HasPrefix calls). (LAID: no walk: one application.) -/
theorem Try.stringslite_HasPrefix (s p : ByteArray) (w : World) :
    Calls Try.prog 151 #[.string s, .string p] w fun e w' => e = .returned (.bool (Lib.hasPrefix s.data.toList p.data.toList)) ∧ w' = w := Any.stringslite_HasPrefix Try.lays206 s p w
def Try.lays99_ren : Go.Shelf.Ren := ⟨fun | 99 => 124 | 206 => 151 | n => n, fun | 9 => 9 | 4 => 4 | 3 => 3 | n => n, fun | n => n⟩
theorem Try.lays99 : Go.Proofs.Lays.n99 Try.prog Try.lays99_ren := {
  mixed := by kernel_rfl
  f99 := Try.func124.trans (congrArg some (by kernel_rfl))
  f206 := Try.func151.trans (congrArg some (by kernel_rfl))
  t3 := Try.underlying3
  a3 := Try.isAgg3
  z3 := Try.sizeOf3
  v3 := Try.zeroValue3
  t4 := Try.underlying4
  a4 := Try.isAgg4
  z4 := Try.sizeOf4
  v4 := Try.zeroValue4
  t9 := Try.underlying9
  a9 := Try.isAgg9
  z9 := Try.sizeOf9
  v9 := Try.zeroValue9 }
open Go.RowKit Go.Lib in
/-- strings.HasPrefix: "HasPrefix reports whether the string s begins with prefix.": IT RETURNS 'Lib.hasPrefix s prefix'; the world is as it was. (LAID: no walk: one application.) -/
theorem Try.strings_HasPrefix (s p : ByteArray) (w : World) :
    Calls Try.prog 124 #[.string s, .string p] w fun e w' => e = .returned (.bool (Lib.hasPrefix s.data.toList p.data.toList)) ∧ w' = w := Any.strings_HasPrefix Try.lays99 s p w
def Try.lays264_ren : Go.Shelf.Ren := ⟨fun | 264 => 123 | n => n, fun | 53 => 179 | 46 => 141 | n => n, fun | n => n⟩
theorem Try.lays264 : Go.Proofs.Lays.n264 Try.prog Try.lays264_ren := {
  mixed := by kernel_rfl
  f264 := Try.func123.trans (congrArg some (by kernel_rfl))
  t46 := Try.underlying141
  a46 := Try.isAgg141
  z46 := Try.sizeOf141
  v46 := Try.zeroValue141
  t53 := Try.underlying179
  a53 := Try.isAgg179
  z53 := Try.sizeOf179
  v53 := Try.zeroValue179 }
open Go.RowKit Go.Lib in
theorem Try.bits_Mul64 (x y : Nat) (hx : x < 18446744073709551616) (hy : y < 18446744073709551616) (w : World) :
    Calls Try.prog 123 #[.int .u64 x, .int .u64 y] w fun e w' => e = .returned (.tuple #[.int .u64 ((x * y / 18446744073709551616 : Nat) : Int), .int .u64 ((x * y % 18446744073709551616 : Nat) : Int)]) ∧ w' = w := Any.bits_Mul64 Try.lays264 x y hx hy w
def Try.lays212_ren : Go.Shelf.Ren := ⟨fun | 212 => 88 | 263 => 122 | 264 => 123 | n => n, fun | 46 => 141 | 51 => 77 | 146 => 177 | 53 => 179 | 148 => 180 | n => n, fun | n => n⟩
theorem Try.lays212 : Go.Proofs.Lays.n212 Try.prog Try.lays212_ren := {
  mixed := by kernel_rfl
  f212 := Try.func88.trans (congrArg some (by kernel_rfl))
  f263 := Try.func122.trans (congrArg some (by kernel_rfl))
  f264 := Try.func123.trans (congrArg some (by kernel_rfl))
  t46 := Try.underlying141
  a46 := Try.isAgg141
  z46 := Try.sizeOf141
  v46 := Try.zeroValue141
  t51 := Try.underlying77
  a51 := Try.isAgg77
  z51 := Try.sizeOf77
  v51 := Try.zeroValue77
  t53 := Try.underlying179
  a53 := Try.isAgg179
  z53 := Try.sizeOf179
  v53 := Try.zeroValue179
  t146 := Try.underlying177
  a146 := Try.isAgg177
  z146 := Try.sizeOf177
  v146 := Try.zeroValue177
  t148 := Try.underlying180
  a148 := Try.isAgg180
  z148 := Try.sizeOf180
  v148 := Try.zeroValue180 }
open Go.RowKit Go.Lib in
/-- math/bits.Mul: "Mul returns the full-width product of x and y": on a machine of 64 bits: Mul64's. (LAID: no walk: one application.) -/
theorem Try.bits_Mul (x y : Nat) (hx : x < 18446744073709551616) (hy : y < 18446744073709551616) (w : World) :
    Calls Try.prog 88 #[.int .u64 x, .int .u64 y] w fun e w' => e = .returned (.tuple #[.int .u64 ((x * y / 18446744073709551616 : Nat) : Int), .int .u64 ((x * y % 18446744073709551616 : Nat) : Int)]) ∧ w' = w := Any.bits_Mul Try.lays212 x y hx hy w
def Try.lays105_ren : Go.Shelf.Ren := ⟨fun | 105 => 89 | 212 => 88 | 99 => 124 | 165 => 125 | 166 => 126 | 170 => 127 | 169 => 128 | 263 => 122 | 264 => 123 | 206 => 151 | 240 => 152 | 241 => 153 | 276 => 166 | 277 => 167 | n => n, fun | 9 => 9 | 3 => 3 | 4 => 4 | 20 => 20 | 0 => 0 | 46 => 141 | 109 => 142 | 5 => 5 | 72 => 186 | 76 => 190 | 51 => 77 | 146 => 177 | 53 => 179 | 148 => 180 | 70 => 183 | 37 => 184 | 75 => 189 | 127 => 212 | 164 => 225 | 80 => 105 | n => n, fun | n => n⟩
theorem Try.lays105 : Go.Proofs.Lays.n105 Try.prog Try.lays105_ren := {
  mixed := by kernel_rfl
  f99 := Try.func124.trans (congrArg some (by kernel_rfl))
  f105 := Try.func89.trans (congrArg some (by kernel_rfl))
  f165 := Try.func125.trans (congrArg some (by kernel_rfl))
  f166 := Try.func126.trans (congrArg some (by kernel_rfl))
  f169 := Try.func128.trans (congrArg some (by kernel_rfl))
  f170 := Try.func127.trans (congrArg some (by kernel_rfl))
  f206 := Try.func151.trans (congrArg some (by kernel_rfl))
  f212 := Try.func88.trans (congrArg some (by kernel_rfl))
  f240 := Try.func152.trans (congrArg some (by kernel_rfl))
  f241 := Try.func153.trans (congrArg some (by kernel_rfl))
  f263 := Try.func122.trans (congrArg some (by kernel_rfl))
  f264 := Try.func123.trans (congrArg some (by kernel_rfl))
  f276 := Try.func166.trans (congrArg some (by kernel_rfl))
  f277 := Try.func167.trans (congrArg some (by kernel_rfl))
  t0 := Try.underlying0
  a0 := Try.isAgg0
  z0 := Try.sizeOf0
  v0 := Try.zeroValue0
  t3 := Try.underlying3
  a3 := Try.isAgg3
  z3 := Try.sizeOf3
  v3 := Try.zeroValue3
  t4 := Try.underlying4
  a4 := Try.isAgg4
  z4 := Try.sizeOf4
  v4 := Try.zeroValue4
  t5 := Try.underlying5
  a5 := Try.isAgg5
  z5 := Try.sizeOf5
  v5 := Try.zeroValue5
  t9 := Try.underlying9
  a9 := Try.isAgg9
  z9 := Try.sizeOf9
  v9 := Try.zeroValue9
  t20 := Try.underlying20
  a20 := Try.isAgg20
  z20 := Try.sizeOf20
  v20 := Try.zeroValue20
  t37 := Try.underlying184
  a37 := Try.isAgg184
  z37 := Try.sizeOf184
  v37 := Try.zeroValue184
  t46 := Try.underlying141
  a46 := Try.isAgg141
  z46 := Try.sizeOf141
  v46 := Try.zeroValue141
  t51 := Try.underlying77
  a51 := Try.isAgg77
  z51 := Try.sizeOf77
  v51 := Try.zeroValue77
  t53 := Try.underlying179
  a53 := Try.isAgg179
  z53 := Try.sizeOf179
  v53 := Try.zeroValue179
  t70 := Try.underlying183
  a70 := Try.isAgg183
  z70 := Try.sizeOf183
  v70 := Try.zeroValue183
  t72 := Try.underlying186
  a72 := Try.isAgg186
  z72 := Try.sizeOf186
  v72 := Try.zeroValue186
  t75 := Try.underlying189
  a75 := Try.isAgg189
  z75 := Try.sizeOf189
  v75 := Try.zeroValue189
  t76 := Try.underlying190
  a76 := Try.isAgg190
  z76 := Try.sizeOf190
  v76 := Try.zeroValue190
  t109 := Try.underlying142
  a109 := Try.isAgg142
  z109 := Try.sizeOf142
  v109 := Try.zeroValue142
  t127 := Try.underlying212
  a127 := Try.isAgg212
  z127 := Try.sizeOf212
  v127 := Try.zeroValue212
  t146 := Try.underlying177
  a146 := Try.isAgg177
  z146 := Try.sizeOf177
  v146 := Try.zeroValue177
  t148 := Try.underlying180
  a148 := Try.isAgg180
  z148 := Try.sizeOf180
  v148 := Try.zeroValue180
  t164 := Try.underlying225
  a164 := Try.isAgg225
  z164 := Try.sizeOf225
  v164 := Try.zeroValue225 }
theorem Try.Builder_Extra_105 : Builder.Extra Try.prog Try.lays105_ren := {
  sizeBuilder := by kernel_rfl
  liesBuilder := by kernel_rfl
  t5 := Try.underlying5
  a5 := Try.isAgg5
  z5 := Try.sizeOf5
  v5 := Try.zeroValue5
  infoByte := by kernel_rfl
  cellsByte := by kernel_rfl
  sizeByte := by kernel_rfl
  neB5 := by decide }
open Go.RowKit Go.Lib in
/-- THE MAIN CASE: at least two copies of a string that is not empty. (LAID: no walk: one application.) -/
theorem Try.strings_Repeat_main (s : ByteArray) (c : Nat) (w : World) (hc2 : 2 ≤ c) (hc : c ≤ 9223372036854775807) (hlen : s.size * c ≤ 140737488355328) (h0 : 0 < s.size) :
    Calls Try.prog 89 #[.string s, .int .i64 c] w fun e w' => e = .returned (.string ⟨(Lib.repeatL s.data.toList c).toArray⟩) ∧ Below w.heap.size w w' := Any.strings_Repeat_main Try.lays105 Try.Builder_Extra_105 s c w hc2 hc hlen h0
open Go.RowKit Go.Lib in
theorem Try.strings_Repeat_zero (s : ByteArray) (w : World) :
    Calls Try.prog 89 #[.string s, .int .i64 0] w fun e w' => e = .returned (.string ⟨#[]⟩) ∧ w' = w := Any.strings_Repeat_zero Try.lays105 s w
open Go.RowKit Go.Lib in
theorem Try.strings_Repeat_one (s : ByteArray) (w : World) :
    Calls Try.prog 89 #[.string s, .int .i64 1] w fun e w' => e = .returned (.string s) ∧ w' = w := Any.strings_Repeat_one Try.lays105 s w
open Go.RowKit Go.Lib in
/-- Copies of the empty string. (LAID: no walk: one application.) -/
theorem Try.strings_Repeat_empty (s : ByteArray) (c : Nat) (w : World) (hc2 : 2 ≤ c) (hc : c ≤ 9223372036854775807) (h0 : s.size = 0) :
    Calls Try.prog 89 #[.string s, .int .i64 c] w fun e w' => e = .returned (.string ⟨#[]⟩) ∧ w' = w := Any.strings_Repeat_empty Try.lays105 s c w hc2 hc h0
open Go.RowKit Go.Lib in
/-- count < 0: "It panics if count is negative". (LAID: no walk: one application.) -/
theorem Try.strings_Repeat_negative (s : ByteArray) (c : Int) (w : World) (hc : c < 0) :
    Calls Try.prog 89 #[.string s, .int .i64 c] w fun e w' => e = .panicked [{ v := repeatPanic Try.lays105_ren "strings: negative Repeat count", recovered := false }] ∧ w' = w := Any.strings_Repeat_negative Try.lays105 s c w hc
open Go.RowKit Go.Lib in
/-- len(s) * count is no int: ".. or if the result of (len(s) * count) overflows". (LAID: no walk: one application.) -/
theorem Try.strings_Repeat_overflow (s : ByteArray) (c : Nat) (w : World) (hc : c ≤ 9223372036854775807) (hs : s.size ≤ 9223372036854775807) (hbig : 9223372036854775807 < s.size * c) :
    Calls Try.prog 89 #[.string s, .int .i64 c] w fun e w' => e = .panicked [{ v := repeatPanic Try.lays105_ren "strings: Repeat output length overflow", recovered := false }] ∧ w' = w := Any.strings_Repeat_overflow Try.lays105 s c w hc hs hbig
open Go.RowKit Go.Lib in
/-- **strings.Repeat: count ≥ 0, the result within one allocation: count copies of s.** (LAID: no walk: one application.) -/
theorem Try.strings_Repeat (s : ByteArray) (c : Nat) (w : World) (hc : c ≤ 9223372036854775807) (hlen : s.size * c ≤ 140737488355328) :
    Calls Try.prog 89 #[.string s, .int .i64 c] w fun e w' => e = .returned (.string ⟨(Lib.repeatL s.data.toList c).toArray⟩) ∧ Below w.heap.size w w' := Any.strings_Repeat Try.lays105 Try.Builder_Extra_105 s c w hc hlen
def Try.laysNm215_ren : Go.Shelf.Ren := ⟨fun | 15 => 37 | n => n, fun | 22 => 22 | 3 => 3 | 4 => 4 | n => n, fun | n => n⟩
theorem Try.laysNm215 : Go.Proofs.Lays2.n15 Try.prog Try.laysNm215_ren := {
  mixed := by kernel_rfl
  f15 := Try.func37.trans (congrArg some (by kernel_rfl))
  t3 := Try.underlying3
  a3 := Try.isAgg3
  z3 := Try.sizeOf3
  v3 := Try.zeroValue3
  t4 := Try.underlying4
  a4 := Try.isAgg4
  z4 := Try.sizeOf4
  v4 := Try.zeroValue4
  t22 := Try.underlying22
  a22 := Try.isAgg22
  z22 := Try.sizeOf22
  v22 := Try.zeroValue22
  i3 := by kernel_rfl }
open Go.RowKit Go.Lib in
/-- slices.Clone at []int: "Clone returns a copy of the slice. The elements are copied using assignment, so this is a shallow clone. The result may have additional unused capacity. The result preserves the nilness of s.": OF A SLICE THAT IS NOT nil IT RETURNS A SLICE THAT IS NOT nil, OF THE SAME ELEMENTS, IN MEMORY OF THE CALL's OWN: in the how-to's words (6f): 'w'.ownsRow B e 1 v' n cells': v' begins at the head of a row among the blocks from B on (B: the heap's size at the call), not frozen, whose first cells are the elements · 'Below B w w'': below B all is as it was. The capacity is whatever the run-time gives. 'zs': what the cells behind the slice's address hold; 'zs.take n': its elements. (LAID: no walk: one application.) -/
theorem Try.slices_Clone_int (b off n c : Nat) (zs : List Int) (w : World) (hz : n ≤ zs.length) (hbig : n * 8 ≤ 140737488355328) (hc : ∀ j, j < zs.length → w.cell? ⟨b, off + j, none⟩ = some (.int .i64 (zs.getD j 0))) :
    Calls Try.prog 37 #[.slice (some ⟨b, off, none⟩) n c] w fun e w' => ∃ v', e = .returned v' ∧ w'.ownsRow w.heap.size 3 1 v' n ((zs.take n).map (Value.int .i64)) ∧ v' ≠ .slice none 0 0 ∧ Below w.heap.size w w' := Any.slices_Clone_int Try.laysNm215 b off n c zs w hz hbig hc
open Go.RowKit Go.Lib in
/-- The same at nil: nil comes back; the world is as it was. (LAID: no walk: one application.) -/
theorem Try.slices_Clone_int_nil (n c : Nat) (w : World) :
    Calls Try.prog 37 #[.slice none n c] w fun e w' => e = .returned (.slice none 0 0) ∧ w' = w := Any.slices_Clone_int_nil Try.laysNm215 n c w
def Try.laysNm216_ren : Go.Shelf.Ren := ⟨fun | 16 => 87 | n => n, fun | 24 => 103 | 9 => 9 | 4 => 4 | n => n, fun | n => n⟩
theorem Try.laysNm216 : Go.Proofs.Lays2.n16 Try.prog Try.laysNm216_ren := {
  mixed := by kernel_rfl
  f16 := Try.func87.trans (congrArg some (by kernel_rfl))
  t4 := Try.underlying4
  a4 := Try.isAgg4
  z4 := Try.sizeOf4
  v4 := Try.zeroValue4
  t9 := Try.underlying9
  a9 := Try.isAgg9
  z9 := Try.sizeOf9
  v9 := Try.zeroValue9
  t24 := Try.underlying103
  a24 := Try.isAgg103
  z24 := Try.sizeOf103
  v24 := Try.zeroValue103
  i9 := by kernel_rfl }
open Go.RowKit Go.Lib in
/-- slices.Clone at []string: "Clone returns a copy of the slice. The elements are copied using assignment, so this is a shallow clone. The result may have additional unused capacity. The result preserves the nilness of s.": OF A SLICE THAT IS NOT nil IT RETURNS A SLICE THAT IS NOT nil, OF THE SAME ELEMENTS, IN MEMORY OF THE CALL's OWN: in the how-to's words (6f): 'w'.ownsRow B e 1 v' n cells': v' begins at the head of a row among the blocks from B on (B: the heap's size at the call), not frozen, whose first cells are the elements · 'Below B w w'': below B all is as it was. The capacity is whatever the run-time gives. 'zs': what the cells behind the slice's address hold; 'zs.take n': its elements. (LAID: no walk: one application.) -/
theorem Try.slices_Clone_string (b off n c : Nat) (zs : List ByteArray) (w : World) (hz : n ≤ zs.length) (hbig : n * 16 ≤ 140737488355328) (hc : ∀ j, j < zs.length → w.cell? ⟨b, off + j, none⟩ = some (.string (zs.getD j ByteArray.empty))) :
    Calls Try.prog 87 #[.slice (some ⟨b, off, none⟩) n c] w fun e w' => ∃ v', e = .returned v' ∧ w'.ownsRow w.heap.size 9 1 v' n ((zs.take n).map (Value.string)) ∧ v' ≠ .slice none 0 0 ∧ Below w.heap.size w w' := Any.slices_Clone_string Try.laysNm216 b off n c zs w hz hbig hc
open Go.RowKit Go.Lib in
/-- The same at nil: nil comes back; the world is as it was. (LAID: no walk: one application.) -/
theorem Try.slices_Clone_string_nil (n c : Nat) (w : World) :
    Calls Try.prog 87 #[.slice none n c] w fun e w' => e = .returned (.slice none 0 0) ∧ w' = w := Any.slices_Clone_string_nil Try.laysNm216 n c w
open Go.RowKit Go.Lib in
/-- The same at a slice of length 0 that is not nil, WHATEVER ITS ADDRESS (no cell is asked for): a slice that is not nil and owns nothing comes back. (LAID: no walk: one application.) -/
theorem Try.slices_Clone_int_zero (a : Addr) (c : Nat) (w : World) :
    Calls Try.prog 37 #[.slice (some a) 0 c] w fun e w' => ∃ v', e = .returned v' ∧ w'.ownsRow w.heap.size 3 1 v' 0 [] ∧ v' ≠ .slice none 0 0 ∧ Below w.heap.size w w' := Any.slices_Clone_int_zero Try.laysNm215 a c w
open Go.RowKit Go.Lib in
/-- The same at a slice of length 0 that is not nil, WHATEVER ITS ADDRESS (no cell is asked for): a slice that is not nil and owns nothing comes back. (LAID: no walk: one application.) -/
theorem Try.slices_Clone_string_zero (a : Addr) (c : Nat) (w : World) :
    Calls Try.prog 87 #[.slice (some a) 0 c] w fun e w' => ∃ v', e = .returned v' ∧ w'.ownsRow w.heap.size 9 1 v' 0 [] ∧ v' ≠ .slice none 0 0 ∧ Below w.heap.size w w' := Any.slices_Clone_string_zero Try.laysNm216 a c w
def Try.laysNm220_ren : Go.Shelf.Ren := ⟨fun | 20 => 47 | n => n, fun | 22 => 22 | 3 => 3 | 4 => 4 | 0 => 0 | n => n, fun | n => n⟩
theorem Try.laysNm220 : Go.Proofs.Lays2.n20 Try.prog Try.laysNm220_ren := {
  mixed := by kernel_rfl
  f20 := Try.func47.trans (congrArg some (by kernel_rfl))
  t0 := Try.underlying0
  a0 := Try.isAgg0
  z0 := Try.sizeOf0
  v0 := Try.zeroValue0
  t3 := Try.underlying3
  a3 := Try.isAgg3
  z3 := Try.sizeOf3
  v3 := Try.zeroValue3
  t4 := Try.underlying4
  a4 := Try.isAgg4
  z4 := Try.sizeOf4
  v4 := Try.zeroValue4
  t22 := Try.underlying22
  a22 := Try.isAgg22
  z22 := Try.sizeOf22
  v22 := Try.zeroValue22
  i3 := by kernel_rfl }
open Go.RowKit Go.Lib Go.Sort in
/-- slices.Compact at []int, over an array: the library's two loops are walked. (LAID: no walk: one application.) -/
theorem Try.slices_Compact_int_arr (blk off cap : Nat) (d : Array Int) (w : World) (hH : Holds encI w blk off d) (hsz : d.size ≤ 9223372036854775807) (hcap : d.size ≤ cap) :
    Calls Try.prog 47 #[.slice (some ⟨blk, off, none⟩) d.size cap] w fun e w' => e = .returned (.slice (some ⟨blk, off, none⟩) (compactUpTo d d.size).length cap) ∧ ∃ q, w' = putRow encI (Sort.ahead w q) blk off (compactUpTo d d.size ++ List.replicate (d.size - (compactUpTo d d.size).length) 0).toArray := Any.slices_Compact_int_arr Try.laysNm220 blk off cap d w hH hsz hcap
open Go.RowKit Go.Lib Go.Sort in
/-- slices.Compact at []int: "Compact replaces consecutive runs of equal elements with a single copy. This is like the uniq command found on Unix. Compact modifies the contents of the slice s and returns the modified slice, which may have a smaller length. Compact zeroes the elements between the new length and the original length. The result preserves the nilness of s.": IT RETURNS THE SLICE CUT TO 'Lib.compact zs'; ITS CELLS HOLD 'Lib.compact zs', THEN ZERO VALUES up to the old length; all else is as it was, but for the count of draws. IN THE WORDS OF slices.Sort's CONTRACT ('Holds', 'putRow'): so the everyday 'slices.Sort(xs); xs = slices.Compact(xs)' goes from the one contract to the other. It asks 'zs.length ≤ cap' (every slice's: the reslicing 's[:k]' looks at it). Length 0, nil: '.._empty'. (LAID: no walk: one application.) -/
theorem Try.slices_Compact_int (blk off cap : Nat) (zs : List Int) (w : World) (hH : Holds (Value.int .i64) w blk off zs.toArray) (hsz : zs.length ≤ 9223372036854775807) (hcap : zs.length ≤ cap) :
    Calls Try.prog 47 #[.slice (some ⟨blk, off, none⟩) zs.length cap] w fun e w' => e = .returned (.slice (some ⟨blk, off, none⟩) (Lib.compact zs).length cap) ∧ ∃ q, w' = putRow (Value.int .i64) (Sort.ahead w q) blk off (Lib.compact zs ++ List.replicate (zs.length - (Lib.compact zs).length) 0).toArray := Any.slices_Compact_int Try.laysNm220 blk off cap zs w hH hsz hcap
open Go.RowKit Go.Lib Go.Sort in
/-- The same at a slice of length 0, a nil one too: it comes back as it is. (LAID: no walk: one application.) -/
theorem Try.slices_Compact_int_empty (a : Option Addr) (cap : Nat) (w : World) :
    Calls Try.prog 47 #[.slice a 0 cap] w fun e w' => e = .returned (.slice a 0 cap) ∧ w' = w := Any.slices_Compact_int_empty Try.laysNm220 a cap w
def Try.laysNm237_ren : Go.Shelf.Ren := ⟨fun | 37 => 161 | n => n, fun | 3 => 3 | 4 => 4 | n => n, fun | n => n⟩
theorem Try.laysNm237 : Go.Proofs.Lays2.n37 Try.prog Try.laysNm237_ren := {
  mixed := by kernel_rfl
  f37 := Try.func161.trans (congrArg some (by kernel_rfl))
  t3 := Try.underlying3
  a3 := Try.isAgg3
  z3 := Try.sizeOf3
  v3 := Try.zeroValue3
  t4 := Try.underlying4
  a4 := Try.isAgg4
  z4 := Try.sizeOf4
  v4 := Try.zeroValue4 }
open Go.RowKit Go.Lib in
/-- cmp.isNaN[int]: 'x != x': false. (LAID: no walk: one application.) -/
theorem Try.cmp_isNaN_int2 (x : Int) (w : World) :
    Calls Try.prog 161 #[.int .i64 x] w fun e w' => e = .returned (.bool false) ∧ w' = w := Any.cmp_isNaN_int2 Try.laysNm237 x w
def Try.laysNm231_ren : Go.Shelf.Ren := ⟨fun | 31 => 144 | 37 => 161 | n => n, fun | 3 => 3 | 4 => 4 | n => n, fun | n => n⟩
theorem Try.laysNm231 : Go.Proofs.Lays2.n31 Try.prog Try.laysNm231_ren := {
  mixed := by kernel_rfl
  f31 := Try.func144.trans (congrArg some (by kernel_rfl))
  f37 := Try.func161.trans (congrArg some (by kernel_rfl))
  t3 := Try.underlying3
  a3 := Try.isAgg3
  z3 := Try.sizeOf3
  v3 := Try.zeroValue3
  t4 := Try.underlying4
  a4 := Try.isAgg4
  z4 := Try.sizeOf4
  v4 := Try.zeroValue4 }
open Go.RowKit Go.Lib in
/-- cmp.Less[int]: "Less reports whether x is less than y.": 'x < y'; the world is as it was. (LAID: no walk: one application.) -/
theorem Try.cmp_Less_int2 (x y : Int) (w : World) :
    Calls Try.prog 144 #[.int .i64 x, .int .i64 y] w fun e w' => e = .returned (.bool (decide (x < y))) ∧ w' = w := Any.cmp_Less_int2 Try.laysNm231 x y w
open Go.RowKit Go.Lib Go.Sort in
/-- slices.Compact at []int, of an argument: the slice cut to 'Lib.compact (elements)'; the n cells hold that, then zeros. (LAID: no walk: one application.) -/
theorem Try.slices_Compact_int_cells (b off n c : Nat) (zs : List Int) (w : World) (hz : n ≤ zs.length) (hbig : n ≤ 9223372036854775807) (hcap : n ≤ c) (hc : ∀ j, j < zs.length → w.cell? ⟨b, off + j, none⟩ = some (.int .i64 (zs.getD j 0))) (hf : ∀ j, j < n → w.frozen? ⟨b, off + j, none⟩ = false) :
    Calls Try.prog 47 #[.slice (some ⟨b, off, none⟩) n c] w fun e w' => e = .returned (.slice (some ⟨b, off, none⟩) (Lib.compact (zs.take n)).length c) ∧ ∃ q, w' = (w.drewN q).setCells b off ((Lib.compact (zs.take n) ++ List.replicate (n - (Lib.compact (zs.take n)).length) 0).map (Value.int .i64)) := Any.slices_Compact_int_cells Try.laysNm220 b off n c zs w hz hbig hcap hc hf
open Go.RowKit Go.Sort in
/-- .. and plain. (LAID: no walk: one application.) -/
theorem Try.slices_Sort_int_none (p : Option Addr) (cap : Nat) (w : World) :
    Calls Try.prog 77 #[.slice p 0 cap] w fun e w' => e = .returned (.tuple #[]) ∧ w' = w := Any.slices_Sort_int_none Try.lays189 p cap w
def Try.laysSlE041_f37_ren : Go.Shelf.Ren := ⟨fun | 41 => 37 | n => n, fun | 22 => 22 | 23 => 3 | 4 => 4 | n => n, fun | n => n⟩
theorem Try.laysSlE041_f37 : Go.Proofs.SlLaysE0.n41 Try.prog Try.laysSlE041_f37_ren := {
  mixed := by kernel_rfl
  f41 := ⟨Try.f37.name, by decide, Try.func37.trans (congrArg some (by kernel_rfl))⟩
  t4 := Try.underlying4
  a4 := Try.isAgg4
  z4 := Try.sizeOf4
  v4 := Try.zeroValue4
  t22 := Try.underlying22
  a22 := Try.isAgg22
  z22 := Try.sizeOf22
  v22 := Try.zeroValue22 }
open Go.RowKit Go.Lib in
/-- slices.Clone: "Clone returns a copy of the slice. The elements are copied using assignment, so this is a shallow clone. The result may have additional unused capacity. The result preserves the nilness of s.": OF A SLICE THAT IS NOT nil IT RETURNS A SLICE THAT IS NOT nil, OF THE SAME CELLS, IN MEMORY OF THE CALL's OWN ('ownsRow': the how-to's 6f); below the heap's size at the call all is as it was. (LAID AT THE INSTANCE 'slices.Clone[[]int,int]': no walk: one application.) -/
theorem Try.slices_Clone_f37 (i0 : TypeInfo) (z : Value) (size bytes : Nat) (hi : Try.prog.info? 3 = some i0) (hz0 : i0.zero = some z) (hz1 : i0.size = size) (hz2 : i0.bytes = bytes) (hzs : z.cells.size = size) (hsz : 0 < size) (z23 : ∀ w, (Go.sizeOf 3).run Try.prog w = .ok size w) (b off n c : Nat) (news : List Value) (w : World) (hl : news.length = n * size) (hn : n ≤ maxLen) (hbig : n * bytes ≤ 140737488355328) (hc : ∀ j u, news[j]? = some u → w.cell? ⟨b, off + j, none⟩ = some u) (h1 : ∀ u ∈ news, u.oneCell' = true) :
    Calls Try.prog 37 #[.slice (some ⟨b, off, none⟩) n c] w fun e w' => ∃ v', e = .returned v' ∧ w'.ownsRow w.heap.size 3 size v' n news ∧ v' ≠ .slice none 0 0 ∧ Below w.heap.size w w' := AnyE.slices_Clone Try.laysSlE041_f37 i0 z size bytes hi hz0 hz1 hz2 hzs hsz z23 b off n c news w hl hn hbig hc h1
def Try.laysSlE041_f87_ren : Go.Shelf.Ren := ⟨fun | 41 => 87 | n => n, fun | 22 => 103 | 23 => 9 | 4 => 4 | n => n, fun | n => n⟩
theorem Try.laysSlE041_f87 : Go.Proofs.SlLaysE0.n41 Try.prog Try.laysSlE041_f87_ren := {
  mixed := by kernel_rfl
  f41 := ⟨Try.f87.name, by decide, Try.func87.trans (congrArg some (by kernel_rfl))⟩
  t4 := Try.underlying4
  a4 := Try.isAgg4
  z4 := Try.sizeOf4
  v4 := Try.zeroValue4
  t22 := Try.underlying103
  a22 := Try.isAgg103
  z22 := Try.sizeOf103
  v22 := Try.zeroValue103 }
open Go.RowKit Go.Lib in
/-- slices.Clone: "Clone returns a copy of the slice. The elements are copied using assignment, so this is a shallow clone. The result may have additional unused capacity. The result preserves the nilness of s.": OF A SLICE THAT IS NOT nil IT RETURNS A SLICE THAT IS NOT nil, OF THE SAME CELLS, IN MEMORY OF THE CALL's OWN ('ownsRow': the how-to's 6f); below the heap's size at the call all is as it was. (LAID AT THE INSTANCE 'slices.Clone[[]string,string]': no walk: one application.) -/
theorem Try.slices_Clone_f87 (i0 : TypeInfo) (z : Value) (size bytes : Nat) (hi : Try.prog.info? 9 = some i0) (hz0 : i0.zero = some z) (hz1 : i0.size = size) (hz2 : i0.bytes = bytes) (hzs : z.cells.size = size) (hsz : 0 < size) (z23 : ∀ w, (Go.sizeOf 9).run Try.prog w = .ok size w) (b off n c : Nat) (news : List Value) (w : World) (hl : news.length = n * size) (hn : n ≤ maxLen) (hbig : n * bytes ≤ 140737488355328) (hc : ∀ j u, news[j]? = some u → w.cell? ⟨b, off + j, none⟩ = some u) (h1 : ∀ u ∈ news, u.oneCell' = true) :
    Calls Try.prog 87 #[.slice (some ⟨b, off, none⟩) n c] w fun e w' => ∃ v', e = .returned v' ∧ w'.ownsRow w.heap.size 9 size v' n news ∧ v' ≠ .slice none 0 0 ∧ Below w.heap.size w w' := AnyE.slices_Clone Try.laysSlE041_f87 i0 z size bytes hi hz0 hz1 hz2 hzs hsz z23 b off n c news w hl hn hbig hc h1
open Go.RowKit Go.Lib in
/-- The same at nil: nil comes back; the world is as it was; nothing is asked of the element's type. (LAID AT THE INSTANCE 'slices.Clone[[]int,int]': no walk: one application.) -/
theorem Try.slices_Clone_nil_f37 (n c : Nat) (w : World) :
    Calls Try.prog 37 #[.slice none n c] w fun e w' => e = .returned (.slice none 0 0) ∧ w' = w := AnyE.slices_Clone_nil Try.laysSlE041_f37 n c w
open Go.RowKit Go.Lib in
/-- The same at nil: nil comes back; the world is as it was; nothing is asked of the element's type. (LAID AT THE INSTANCE 'slices.Clone[[]string,string]': no walk: one application.) -/
theorem Try.slices_Clone_nil_f87 (n c : Nat) (w : World) :
    Calls Try.prog 87 #[.slice none n c] w fun e w' => e = .returned (.slice none 0 0) ∧ w' = w := AnyE.slices_Clone_nil Try.laysSlE041_f87 n c w
end Go.Proofs

namespace Go.Proofs.Ytilmhjojbolbeaa.AM
open Go
set_option maxRecDepth 100000
def sorted (l : List Int) : List Int := l.mergeSort fun x y => decide (x ≤ y)
theorem sorted_len (l : List Int) : (sorted l).length = l.length := List.length_mergeSort l
/-- slices.Sort of whole numbers -/
theorem sort_tri (n : Int) (f : Ix → Int) (hn : n < 4611686018427387904) : TriS Try.prog 77 [.sl 0 0 n 1 false] [(0, .ar n [.i .i64 f] 3)]
    (fun r σ => ∃ g : Ix → Int, (∀ j : Nat, j < n.toNat → g [(j : Int)] = (sorted (rng n f)).getD j 0) ∧ r = .tu [] ∧ σ = [(0, .ar n [.i .i64 g] 3)]) := by
  refine ⟨by kernel_rfl, fun X g w vs hX hob hvs => ?_⟩
  match vs, hvs with
  | [v], hvs =>
  have hv : RSl (g 0) 0 n 1 false v := hvs.1
  have ho := hob.objs 0 _ rfl
  obtain ⟨h1, h2, h3⟩ := ho
  obtain ⟨a, len, cap, rfl, hlen, h4⟩ := hv
  have hpost : ∀ {w' : World} {g2 : Ix → Int}, Kp (mine [(0, O.ar n [.i .i64 f] 3)] g) w w' → Ob ⟨mine [(0, O.ar n [.i .i64 f] 3)] g, X, g⟩ g w' [(0, .ar n [.i .i64 g2] 3)] →
      (∀ j : Nat, j < n.toNat → g2 [(j : Int)] = (sorted (rng n f)).getD j 0) → ∃ r σ' g' v, (∃ g : Ix → Int, (∀ j : Nat, j < n.toNat → g [(j : Int)] = (sorted (rng n f)).getD j 0) ∧ r = V.tu [] ∧ σ' = [(0, O.ar n [.i .i64 g] 3)]) ∧ Ending.returned (.tuple #[]) = .returned v ∧
        RV g' w' (own ⟨mine [(0, O.ar n [.i .i64 f] 3)] g, X, g⟩ σ' g') r v ∧ Ob ⟨mine [(0, O.ar n [.i .i64 f] 3)] g, X, g⟩ g' w' σ' ∧ Kp (mine [(0, O.ar n [.i .i64 f] 3)] g) w w' ∧
        (∀ b, mine σ' g' b → mine [(0, O.ar n [.i .i64 f] 3)] g b ∨ w.heap.size ≤ b) ∧ (∀ i, i < 100 → (look i σ').isSome = true → g' i = g i) ∧ closed r σ' = true := by
    intro w' g2 hk hob' hg
    refine ⟨_, _, g, _, ⟨g2, hg, rfl, rfl⟩, rfl, ⟨#[], rfl, trivial⟩, hob', hk, fun b hb => .inl ?_, fun _ _ _ => rfl, rfl⟩
    obtain ⟨i, hi, h5⟩ := hb
    refine ⟨i, ?_, h5⟩
    rw [look_cons] at hi ⊢
    split at hi
    · rename_i e; rw [if_pos e]; rfl
    · simp [look] at hi
  by_cases h0 : len = 0
  · subst h0
    refine (Try.slices_Sort_int_none a cap w).mono ?_
    rintro e w' ⟨rfl, rfl⟩
    exact hpost (Kp.refl _ _) hob fun j hj => by omega
  rcases h4 with ⟨h4, -⟩ | ⟨hvi, l, hl, rfl, hlc, hll, -, hcap⟩
  · exact absurd h4 h0
  obtain rfl : l = 0 := by omega
  rcases h3 with ⟨h3, -⟩ | ⟨-, ⟨c, hc, hcs, hcl⟩, hr⟩
  · rw [hvi] at h3; cases h3
  have hsz : (g 0).sz = 1 := by
    rcases h2 with h2 | ⟨h2, -⟩
    · omega
    · exact h2.symm
  rw [hsz] at hr hcl
  have hln : (g 0).ln = len := by omega
  have hnt : n.toNat = len := by omega
  have hb : (g 0).bl < w.heap.size := (Array.getElem?_eq_some_iff.1 hc).1
  have hrl : (rng n f).length = len := by rw [rng_len, hnt]
  have hcell : ∀ j, j < len → c[j]? = some (.int .i64 (f [(j : Int)])) := fun j hj => by
    obtain ⟨⟨v, h5, h6⟩, -⟩ := hr j (by omega)
    obtain rfl : v = _ := h6
    rw [Nat.mul_one] at h5
    simpa [World.cell?, hc] using h5
  have hh : Go.Sort.Holds (Value.int .i64) w (g 0).bl 0 (rng n f).toArray := by
    refine Go.holds_of_blockI hc ?_
    apply List.ext_getElem?
    intro j
    by_cases hj : j < len
    · rw [List.getElem?_take_of_lt (by rw [hrl]; exact hj), Array.getElem?_toList, hcell j hj, List.getElem?_map, rng_get (by omega)]
      rfl
    · rw [List.getElem?_take_eq_none (by rw [hrl]; omega), List.getElem?_eq_none (by simp [hrl]; omega)]
  have hcall := Try.slices_Sort_int (g 0).bl 0 cap (rng n f) w hh hb (by rw [hrl]; omega)
  rw [hrl] at hcall
  simp only [Nat.zero_mul] at *
  refine hcall.mono ?_
  rintro e w' ⟨rfl, k, os, rfl⟩
  have hgb := Go.grownBy_sortedI (w := w) (g := (g 0).bl) (n := k) (os := os) ((rng n f).mergeSort fun x y => decide (x ≤ y)).toArray
  have hhp := Go.heap_sortedI (w := w) (g := (g 0).bl) (n := k) (os := os) ((rng n f).mergeSort fun x y => decide (x ≤ y)).toArray hc
  generalize hw' : Go.Sort.grow (Go.Sort.putRow (Value.int .i64) (Go.Sort.ahead w k) (g 0).bl 0 ((rng n f).mergeSort fun x y => decide (x ≤ y)).toArray) os = w' at hgb hhp
  have hmine : mine [(0, O.ar n [.i .i64 f] 3)] g (g 0).bl := ⟨0, rfl, hvi, rfl⟩
  obtain ⟨q1, q2, q3, q4, q5⟩ := hgb
  refine hpost (g2 := fun ix => (sorted (rng n f)).getD (hd ix).toNat 0) ⟨q1, q2, q3, q4, fun b hb2 hnm => q5 b hb2 fun e => hnm (by cases e; exact hmine)⟩ ⟨fun i o hi => ?_, fun i j hi hj _ _ _ => ?_⟩ fun j hj => by simp [hd]
  · rw [look_cons] at hi
    split at hi
    · rename_i e; subst e; cases hi
      refine ⟨h1, .inr ⟨hsz.symm, by omega⟩, .inr ⟨hvi, ⟨_, hhp, ?_, ?_⟩, fun j hj => ?_⟩⟩
      · simp [Go.Sort.putCells, hcs]
      · simp only [Go.Sort.putCells, Array.size_mapIdx, hsz]; omega
      · refine ⟨⟨_, ?_, rfl⟩, trivial⟩
        have hjs : j < c.size := by omega
        have hjl : j < ((rng n f).mergeSort fun x y => decide (x ≤ y)).length := by rw [List.length_mergeSort, hrl]; omega
        rw [hsz, Nat.mul_one]
        simp only [World.cell?, hhp, Option.isSome_none, Bool.false_eq_true, if_false, Go.Sort.putCells, Array.getElem?_mapIdx, Array.getElem?_eq_getElem hjs, Option.map_some, List.size_toArray, Nat.zero_le, true_and, Nat.zero_add, hjl, if_true, Nat.sub_zero]
        simp [hd, sorted, hjl]
    · simp [look] at hi
  · rw [look_cons] at hi hj
    split at hi
    · split at hj
      · rename_i e1 e2; omega
      · simp [look] at hj
    · simp [look] at hi
end Go.Proofs.Ytilmhjojbolbeaa.AM

namespace Go.Proofs.Ytilmhjojbolbeaa.AM
open Go
set_option maxRecDepth 100000
set_option maxHeartbeats 4000000
/-! slices.Sorted(slices.Values(l)) of whole numbers -/
theorem values_tri (n : Int) (f : Ix → Int) (fl : Bool) : TriS Try.prog 46 [.l n [.i .i64 f] fl] [] (fun r σ => r = .fn (.func 78) [.pt 100 0] ∧ σ = [(100, .st [.l n [.i .i64 f] fl] 22)]) := by
  refine tri_of TT_ok mixed (OR := ORD46) (fn := Try.f46) (c := body Try.f46) (by kernel_rfl) (by kernel_rfl) (by kernel_rfl) (by kernel_rfl) (by simp [Try.f46]) fun H Tri hH hTri => ?_
  cbv
  refine' ⟨_, _, ⟨rfl, rfl⟩, ?c_1, ?s_2⟩
  case s_2 => cbv <;> repeat' first | exact rfl | exact trivial | exact Or.inr trivial | exact Or.inl rfl | apply And.intro | omega | (split <;> first | exact trivial | (exfalso; simp_all; done)) | (subst_vars; simp [o0]; done)
  case c_1 => rfl
/-- what a round of AppendSeq is handed -/
def appA (l : Nat) (rf : LoopState → Option Code → Obj) (vs : List Value) (n : Nat) (x : V) : Sto :=
  [(n, .rw l rf .ready none [.pt (n + 1) 0] vs), (n + 1, .st [x] 22)]
theorem values_it (n : Int) (f : Ix → Int) (fl : Bool) (hn : 0 ≤ n ∧ n ≤ 1000000000) (l : Nat) (rf : LoopState → Option Code → Obj) (vs : List Value) (J : YSp)
    (hJ : ∀ (j : Int) (c : Ix → Int) (x : Int), 0 ≤ j → j < n → (∀ i, 0 ≤ i → i < j → c [i] = f [i]) → x = f [j] → J [.i .i64 x] (appA l rf vs 0 (.sl 2 0 j 1 false) ++ [(2, .ar j [.i .i64 c] 3)])
      (fun r σ => ∃ (c' : Ix → Int) (j' : Int), j' = j + 1 ∧ (∀ i, 0 ≤ i → i < j' → c' [i] = f [i]) ∧ r = .b true ∧ σ = appA l rf vs 0 (.sl 100 0 j' 1 false) ++ [(100, .ar j' [.i .i64 c'] 3)])) :
    TriIS Try.prog l J 78 [.fn (.yield l) [], .pt 0 0] ([(0, .st [.l n [.i .i64 f] fl] 22)] ++ appA l rf vs 1 (.l 0 [] true))
      (fun x σ => ∃ c : Ix → Int, (∀ j, 0 ≤ j → j < n → c [j] = f [j]) ∧ x = .tu [] ∧ σ = [(0, .st [.l n [.i .i64 f] fl] 22)] ++ appA l rf vs 1 (.sl 100 0 n 1 false) ++ [(100, .ar n [.i .i64 c] 3)]) := by
  refine tri_it TT_ok mixed (OR := ORD78) (fn := Try.f78) (c := body Try.f78) (by kernel_rfl) (by kernel_rfl) (by kernel_rfl) (by kernel_rfl) (by simp [Try.f78]) fun H Tri Yl hH hTri hYl => ?_
  cbv
  refine' ⟨0, Int × (Ix → Int), fun ((j, c) : Int × (Ix → Int)) => ⟨[(6, V.i IntKind.i64 n), (5, V.l n [C.i IntKind.i64 f] fl), (0, V.fn (Fn.yield l) []), (7, .i .i64 j)], [(0, O.st [V.l n [C.i IntKind.i64 f] fl] 22), (1, O.rw l rf LoopState.ready none [V.pt 2 0] vs), (2, .st [.sl 103 0 j 1 false] 22), (103, .ar j [.i .i64 c] 3)], 104⟩, fun ((j, c) : Int × (Ix → Int)) => (0 ≤ j ∧ j ≤ n) ∧ (∀ i, 0 ≤ i → i < j → c [i] = f [i]), fun ((j, c) : Int × (Ix → Int)) => (n - j).toNat, ⟨(0, f), ⟨?p_1, ?p_2⟩, ?s_3⟩, ?r_4⟩
  case s_3 => cbv <;> repeat' first | exact rfl | exact trivial | exact Or.inr trivial | exact Or.inl rfl | apply And.intro | omega | (split <;> first | exact trivial | (exfalso; simp_all; done)) | (subst_vars; simp [o0]; done)
  case p_1 => omega
  case p_2 => omega
  rintro ⟨j, c⟩ ⟨hj, hc⟩
  cbv
  split
  · rename_i h_5
    simp only [hH, decide_eq_true_eq] at h_5
    cbv
    generalize e_6 : H Int _ = v_7
    simp only [hH, zeroS] at e_6
    generalize e_8 : (fun ix => f (j :: ix)) = c_9
    refine ⟨by rw [hH]; simp; omega, ?_⟩
    cbv
    generalize e_10 : H Bool _ = b_11
    simp only [hH] at e_10
    replace e_10 := boolN e_10
    refine' ⟨[1, 2, 103], ⟨⟨rfl, rfl⟩, rfl⟩, _, _, ?x_12, ?s_13, _, hYl _ _ _ (hJ _ _ _ ?a_14 ?a_15 ?a_16 ?a_17), ?k_18⟩
    case x_12 => cbv <;> rfl
    case s_13 => cbv <;> rfl
    case a_14 => omega
    case a_15 => assumption
    case a_16 => assumption
    case a_17 => omega
    rintro r_19 σ_20 ⟨x_21, ⟨v_22, ⟨h_23, ⟨h_24, ⟨rfl, rfl⟩⟩⟩⟩⟩
    cbv
    generalize e_25 : H Int _ = v_26
    simp only [hH, zeroS] at e_25
    replace e_25 := (IntWalk.i64_in _ (by omega)).symm.trans e_25
    refine' ⟨(_, _), ⟨⟨?p_27, ?p_28⟩, ?p_29⟩, ?m_30, ?s_31⟩
    case s_31 => cbv <;> repeat' first | exact rfl | exact trivial | exact Or.inr trivial | exact Or.inl rfl | apply And.intro | omega | (split <;> first | exact trivial | (exfalso; simp_all; done)) | (subst_vars; simp [o0]; done)
    case m_30 => simp; omega
    case p_27 => omega
    case p_28 => omega
    case p_29 => simp_all; done
  · rename_i h_32
    simp only [hH, decide_eq_false_iff_not, Int.not_lt, Int.not_le] at h_32
    cbv
    refine' ⟨_, _, ⟨_, ⟨?p_33, ⟨rfl, rfl⟩⟩⟩, ?c_34, ?s_35⟩
    case s_35 => cbv <;> repeat' first | exact rfl | exact trivial | exact Or.inr trivial | exact Or.inl rfl | apply And.intro | omega | (split <;> first | exact trivial | (exfalso; simp_all; done)) | (subst_vars; simp [o0]; done)
    case c_34 => rfl
    case p_33 => grind
theorem appendseq_tri (n : Int) (f : Ix → Int) (fl : Bool) (hn : 0 ≤ n ∧ n ≤ 1000000000) : TriS Try.prog 116 [.l 0 [] true, .fn (.func 78) [.pt 0 0]] [(0, .st [.l n [.i .i64 f] fl] 22)]
    (fun x σ => ∃ c : Ix → Int, (∀ j, 0 ≤ j → j < n → c [j] = f [j]) ∧ x = .sl 100 0 n 1 false ∧ σ = [(0, .st [.l n [.i .i64 f] fl] 22), (100, .ar n [.i .i64 c] 3)]) := by
  refine tri_of2 TT_ok mixed (OR := ORD116) (fn := Try.f116) (c := body Try.f116) (by kernel_rfl) (by kernel_rfl) (by kernel_rfl) (by kernel_rfl) (by simp [Try.f116]) fun H Tri TrI hH hTri hTrI => ?_
  cbv
  refine ⟨[2], ?_⟩
  cbv
  intro l rf vs
  refine ⟨fun xs σ R => ∃ (j : Int) (c : Ix → Int) (x : Int), (0 ≤ j ∧ j < n) ∧ (∀ i, 0 ≤ i → i < j → c [i] = f [i]) ∧ x = f [j] ∧ xs = [.i .i64 x] ∧ σ = appA l rf vs 0 (.sl 2 0 j 1 false) ++ [(2, .ar j [.i .i64 c] 3)] ∧ R = (fun r σ => ∃ (c' : Ix → Int) (j' : Int), j' = j + 1 ∧ (∀ i, 0 ≤ i → i < j' → c' [i] = f [i]) ∧ r = .b true ∧ σ = appA l rf vs 0 (.sl 100 0 j' 1 false) ++ [(100, .ar j' [.i .i64 c'] 3)]), ?_, ?_⟩
  · rintro _ _ _ ⟨j, c, x, hj, hc, hx, rfl, rfl, rfl⟩
    refine ⟨0, ?_⟩
    cbv
    generalize e_1 : H Int _ = v_2
    simp only [hH, zeroS] at e_1
    generalize e_3 : (fun ix => bif decide (hd ix < j) then c ix else x) = c_4
    refine ⟨by rw [hH]; simp, ?_⟩
    cbv
    refine ⟨by rw [hH]; simp; omega, ?_⟩
    cbv
    refine' ⟨_, _, ⟨_, ⟨_, ⟨?p_5, ⟨?p_6, ⟨rfl, rfl⟩⟩⟩⟩⟩, ?c_7, ?s_8⟩
    case s_8 => cbv <;> repeat' first | exact rfl | exact trivial | apply And.intro
    case c_7 => rfl
    case p_5 => omega
    case p_6 => (intro j _ _; subst_vars; simp only [hH, AM.hd, Int.zero_add, Bool.cond_decide]; grind)
  · cbv
    refine' ⟨[0, 101, 100], ⟨⟨rfl, rfl⟩, rfl⟩, _, _, ?x_9, ?s_10, _, hTrI _ _ _ _ _ _ (by kernel_rfl) (values_it _ _ _ ?a_11 _ _ _ _ ?a_12), ?k_13⟩
    case x_9 => cbv; done
    case s_10 => cbv <;> rfl
    case a_11 => assumption
    case a_12 => grind
    rintro r_14 σ_15 ⟨x_16, ⟨h_17, ⟨rfl, rfl⟩⟩⟩
    cbv
    refine' ⟨_, _, ⟨_, ⟨?p_18, ⟨rfl, rfl⟩⟩⟩, ?c_19, ?s_20⟩
    case s_20 => cbv <;> repeat' first | exact rfl | exact trivial | exact Or.inr trivial | exact Or.inl rfl | apply And.intro | omega | (split <;> first | exact trivial | (exfalso; simp_all; done)) | (subst_vars; simp [o0]; done)
    case c_19 => rfl
    case p_18 => assumption
theorem collect_tri (n : Int) (f : Ix → Int) (fl : Bool) (hn : 0 ≤ n ∧ n ≤ 1000000000) : TriS Try.prog 76 [.fn (.func 78) [.pt 0 0]] [(0, .st [.l n [.i .i64 f] fl] 22)]
    (fun x σ => ∃ c : Ix → Int, (∀ j, 0 ≤ j → j < n → c [j] = f [j]) ∧ x = .sl 100 0 n 1 false ∧ σ = [(0, .st [.l n [.i .i64 f] fl] 22), (100, .ar n [.i .i64 c] 3)]) := by
  refine tri_of TT_ok mixed (OR := ORD76) (fn := Try.f76) (c := body Try.f76) (by kernel_rfl) (by kernel_rfl) (by kernel_rfl) (by kernel_rfl) (by simp [Try.f76]) fun H Tri hH hTri => ?_
  cbv
  refine' ⟨[0], ⟨⟨rfl, rfl⟩, rfl⟩, _, _, ?x_1, ?s_2, _, hTri _ _ _ _ (appendseq_tri _ _ _ ?a_3), ?k_4⟩
  case x_1 => cbv; done
  case s_2 => cbv <;> rfl
  case a_3 => assumption
  rintro r_5 σ_6 ⟨x_7, ⟨h_8, ⟨rfl, rfl⟩⟩⟩
  cbv
  refine' ⟨_, _, ⟨_, ⟨?p_9, ⟨rfl, rfl⟩⟩⟩, ?c_10, ?s_11⟩
  case s_11 => cbv <;> repeat' first | exact rfl | exact trivial | exact Or.inr trivial | exact Or.inl rfl | apply And.intro | omega | (split <;> first | exact trivial | (exfalso; simp_all; done)) | (subst_vars; simp [o0]; done)
  case c_10 => rfl
  case p_9 => assumption
theorem sorted_tri (n : Int) (f : Ix → Int) (fl : Bool) (hn : 0 ≤ n ∧ n ≤ 1000000000) : TriS Try.prog 45 [.fn (.func 78) [.pt 0 0]] [(0, .st [.l n [.i .i64 f] fl] 22)]
    (fun x σ => ∃ c : Ix → Int, (∀ j : Nat, j < n.toNat → c [(j : Int)] = (sorted (rng n f)).getD j 0) ∧ x = .sl 100 0 n 1 false ∧ σ = [(0, .st [.l n [.i .i64 f] fl] 22), (100, .ar n [.i .i64 c] 3)]) := by
  refine tri_of TT_ok mixed (OR := ORD45) (fn := Try.f45) (c := body Try.f45) (by kernel_rfl) (by kernel_rfl) (by kernel_rfl) (by kernel_rfl) (by simp [Try.f45]) fun H Tri hH hTri => ?_
  cbv
  refine' ⟨[0], ⟨⟨rfl, rfl⟩, rfl⟩, _, _, ?x_1, ?s_2, _, hTri _ _ _ _ (collect_tri _ _ _ ?a_3), ?k_4⟩
  case x_1 => cbv; done
  case s_2 => cbv <;> rfl
  case a_3 => assumption
  rintro r_5 σ_6 ⟨x_7, ⟨h_8, ⟨rfl, rfl⟩⟩⟩
  cbv
  refine' ⟨[200], ⟨⟨rfl, rfl⟩, rfl⟩, _, _, ?x_9, ?s_10, _, hTri _ _ _ _ (sort_tri _ _ ?a_11), ?k_12⟩
  case x_9 => cbv <;> rfl
  case s_10 => cbv <;> rfl
  case a_11 => omega
  rintro r_13 σ_14 ⟨x_15, ⟨h_16, ⟨rfl, rfl⟩⟩⟩
  cbv
  refine' ⟨_, _, ⟨_, ⟨?p_17, ⟨rfl, rfl⟩⟩⟩, ?c_18, ?s_19⟩
  case s_19 => cbv <;> repeat' first | exact rfl | exact trivial | exact Or.inr trivial | exact Or.inl rfl | apply And.intro | omega | (split <;> first | exact trivial | (exfalso; simp_all; done)) | (subst_vars; simp [o0]; done)
  case c_18 => rfl
  case p_17 =>
    rw [← rng_congr (by assumption)]; assumption
end Go.Proofs.Ytilmhjojbolbeaa.AM

namespace Go.Proofs.Ytilmhjojbolbeaa.AM
open Go
set_option maxRecDepth 100000
set_option maxHeartbeats 4000000
theorem mem_rng {n x : Int} {f : Ix → Int} : x ∈ rng n f ↔ ∃ j, 0 ≤ j ∧ j < n ∧ f [j] = x := by
  rw [rng, List.mem_map]
  constructor
  · rintro ⟨j, hj, rfl⟩
    have := List.mem_range.1 hj
    exact ⟨j, by omega, by omega, rfl⟩
  · rintro ⟨j, h0, h1, rfl⟩
    exact ⟨j.toNat, List.mem_range.2 (by omega), by rw [Int.toNat_of_nonneg h0]⟩
/-- rising, and the same numbers -/
structure Uq (cs : List Int) (m : Int) (g : Ix → Int) : Prop where
  up : ∀ i j, 0 ≤ i → i < j → j < m → g [i] < g [j]
  src : ∀ j, 0 ≤ j → j < m → g [j] ∈ cs
  all : ∀ x, x ∈ cs → ∃ j, 0 ≤ j ∧ j < m ∧ g [j] = x
theorem up_eq : ∀ {l l' : List Int}, l.Pairwise (· < ·) → l'.Pairwise (· < ·) → (∀ x, x ∈ l ↔ x ∈ l') → l = l'
  | [], [], _, _, _ => rfl
  | [], y :: _, _, _, h => absurd ((h y).2 (by simp)) (by simp)
  | x :: _, [], _, _, h => absurd ((h x).1 (by simp)) (by simp)
  | x :: xs, y :: ys, h1, h2, h => by
    rw [List.pairwise_cons] at h1 h2
    have hxy : x = y := by
      have a := (h x).1 (by simp)
      have b := (h y).2 (by simp)
      rw [List.mem_cons] at a b
      rcases a with a | a
      · exact a
      · rcases b with b | b
        · exact b.symm
        · have := h1.1 y b; have := h2.1 x a; omega
    subst hxy
    rw [up_eq h1.2 h2.2 fun z => ?_]
    constructor
    · intro hz
      have := (h z).1 (by simp [hz])
      rw [List.mem_cons] at this
      rcases this with rfl | hz'
      · exact absurd (h1.1 z hz) (by omega)
      · exact hz'
    · intro hz
      have := (h z).2 (by simp [hz])
      rw [List.mem_cons] at this
      rcases this with rfl | hz'
      · exact absurd (h2.1 z hz) (by omega)
      · exact hz'
theorem Uq.list {cs : List Int} {m : Int} {g : Ix → Int} (h : Uq cs m g) : (rng m g).Pairwise (· < ·) ∧ ∀ x, x ∈ rng m g ↔ x ∈ cs := by
  refine ⟨?_, fun x => ⟨fun hx => ?_, fun hx => mem_rng.2 (h.all x hx)⟩⟩
  · rw [List.pairwise_iff_getElem]
    intro i j hi hj hij
    rw [rng_len] at hi hj
    simp only [rng, List.getElem_map, List.getElem_range]
    exact h.up i j (by omega) (by omega) (by omega)
  · obtain ⟨j, h0, h1, rfl⟩ := mem_rng.1 hx
    exact h.src j h0 h1
theorem Uq.eq {cs : List Int} {m m' : Int} {g g' : Ix → Int} (h : Uq cs m g) (h' : Uq cs m' g') : rng m g = rng m' g' :=
  up_eq h.list.1 h'.list.1 fun x => (h.list.2 x).trans (h'.list.2 x).symm
section
variable {n k k' r r' v : Int} {f g g' : Ix → Int}
theorem Uq.few (h0 : 0 ≤ n) (h : n < 2) : Uq (rng n f) n f :=
  ⟨fun i j _ _ _ => by omega, fun j h0 h1 => mem_rng.2 ⟨j, h0, h1, rfl⟩, fun x hx => mem_rng.1 hx⟩
/-- the first k numbers rise -/
def Ups (k : Int) (f : Ix → Int) : Prop := ∀ i j, 0 ≤ i → i < j → j < k → f [i] < f [j]
theorem Ups.step (hs : ∀ i j, 0 ≤ i → i < j → j < n → f [i] ≤ f [j]) (h1 : 1 ≤ k) (h2 : k < n) (h : Ups k f) (hne : f [k] ≠ f [k - 1]) (hk : k + 1 = k') : Ups k' f := by
  subst hk
  intro i j a b c
  by_cases e : j = k
  · subst e
    have h3 := hs (j - 1) j (by omega) (by omega) h2
    by_cases e2 : i = j - 1
    · subst e2; omega
    · have := h i (j - 1) a (by omega) (by omega); omega
  · exact h i j a b (by omega)
theorem Ups.go {p a b : Int} (hs : ∀ i j, 0 ≤ i → i < j → j < n → f [i] ≤ f [j]) (h1 : 1 ≤ k) (h2 : k < n) (h : Ups k f) (hp : k - 1 = p) (ha : f [k] = a) (hb : f [p] = b) (hne : ¬ a = b) (hk : k + 1 = k') : Ups k' f := by
  subst hp ha hb; exact h.step hs h1 h2 hne hk
theorem Ups.all (h : Ups k f) (hn : n ≤ k) : Uq (rng n f) n f :=
  ⟨fun i j a b c => h i j a b (by omega), fun j h0 h1 => mem_rng.2 ⟨j, h0, h1, rfl⟩, fun x hx => mem_rng.1 hx⟩
/-- of the first r numbers the k that rise -/
structure Cm (n k r : Int) (f g : Ix → Int) : Prop where
  hk : 1 ≤ k ∧ k ≤ r - 1 ∧ r ≤ n
  up : Ups k g
  src : ∀ j, 0 ≤ j → j < k → ∃ i, 0 ≤ i ∧ i < r ∧ f [i] = g [j]
  all : ∀ i, 0 ≤ i → i < r → ∃ j, 0 ≤ j ∧ j < k ∧ g [j] = f [i]
  last : g [k - 1] = f [r - 1]
  rest : ∀ j, k ≤ j → j < n → g [j] = f [j]
theorem Cm.start (h1 : 1 ≤ k) (h2 : k < n) (h : Ups k f) (he : f [k] = f [k - 1]) : Cm n k (k + 1) f f := by
  refine ⟨by omega, h, fun j a b => ⟨j, a, by omega, rfl⟩, fun i a b => ?_, by rw [show k + 1 - 1 = k by omega, he], fun _ _ _ => rfl⟩
  by_cases e : i = k
  · subst e; exact ⟨i - 1, by omega, by omega, he.symm⟩
  · exact ⟨i, a, by omega, rfl⟩
theorem Cm.same (h : Cm n k r f g) (hr : r < n) (he : f [r] = f [r - 1]) (hr' : r + 1 = r') : Cm n k r' f g := by
  subst hr'
  have hk := h.hk
  refine ⟨by omega, h.up, fun j a b => ?_, fun i a b => ?_, by rw [h.last, ← he]; congr 1; congr 1; omega, h.rest⟩
  · obtain ⟨i, c, d, e⟩ := h.src j a b; exact ⟨i, c, by omega, e⟩
  · by_cases e : i = r
    · subst e
      obtain ⟨j, c, d, e⟩ := h.all (i - 1) (by omega) (by omega)
      exact ⟨j, c, d, by rw [e, he]⟩
    · exact h.all i a (by omega)
theorem Cm.diff (hs : ∀ i j, 0 ≤ i → i < j → j < n → f [i] ≤ f [j]) (h : Cm n k r f g) (hr : r < n) (he : f [r] ≠ f [r - 1]) (hr' : r + 1 = r') (hk' : k + 1 = k') (hv : f [r] = v) (hg : (fun ix => bif decide (AM.hd ix = k) then v else g ix) = g') : Cm n k' r' f g' := by
  subst hr' hk'
  have hk := h.hk
  have gk : g' [k] = f [r] := by subst hg; simp [AM.hd, hv]
  have go : ∀ j, j ≠ k → g' [j] = g [j] := fun j e => by subst hg; simp [AM.hd, e]
  have hlt : f [r - 1] < f [r] := by have := hs (r - 1) r (by omega) (by omega) hr; omega
  refine ⟨by omega, fun i j a b c => ?_, fun j a b => ?_, fun i a b => ?_, ?_, fun j a b => ?_⟩
  · by_cases e : j = k
    · subst e
      rw [gk, go i (by omega)]
      by_cases e2 : i = j - 1
      · subst e2; rw [h.last]; exact hlt
      · have h3 := h.up i (j - 1) a (by omega) (by omega); rw [h.last] at h3; omega
    · rw [go i (by omega), go j e]; exact h.up i j a b (by omega)
  · by_cases e : j = k
    · subst e; exact ⟨r, by omega, by omega, gk.symm⟩
    · obtain ⟨i, c, d, e2⟩ := h.src j a (by omega); exact ⟨i, c, by omega, by rw [go j e, e2]⟩
  · by_cases e : i = r
    · subst e; exact ⟨k, by omega, by omega, gk⟩
    · obtain ⟨j, c, d, e2⟩ := h.all i a (by omega); exact ⟨j, c, by omega, by rw [go j (by omega), e2]⟩
  · rw [show k + 1 - 1 = k by omega, show r + 1 - 1 = r by omega, gk]
  · rw [go j (by omega), h.rest j (by omega) b]
theorem Cm.go {p a b : Int} (h1 : 1 ≤ k) (h2 : k < n) (h : Ups k f) (hp : k - 1 = p) (ha : f [k] = a) (hb : f [p] = b) (he : a = b) : Cm n k (k + 1) f f := by
  subst hp ha hb; exact Cm.start h1 h2 h he
theorem Cm.go0 {q q' p a b : Int} (h : Cm n k (r + q) f g) (h1 : 1 ≤ q) (hr : r + q < n) (hp : q - 1 = p) (ha : g [r + q] = a) (hb : g [r + p] = b) (he : ¬ ¬ a = b) (hq : q + 1 = q') : Cm n k (r + q') f g := by
  subst hp hq
  have he := Decidable.not_not.1 he
  have hk := h.hk
  have e1 := h.rest (r + q) (by omega) hr
  have e2 := h.rest (r + (q - 1)) (by omega) (by omega)
  exact h.same hr (by rw [show r + q - 1 = r + (q - 1) by omega]; omega) (by omega)
theorem Cm.go1 {q q' p a b : Int} (hs : ∀ i j, 0 ≤ i → i < j → j < n → f [i] ≤ f [j]) (h : Cm n k (r + q) f g) (h1 : 1 ≤ q) (hr : r + q < n) (hp : q - 1 = p) (ha : g [r + q] = a) (hb : g [r + p] = b) (he : ¬ a = b) (hq : q + 1 = q') (hk' : k + 1 = k') (hg : (fun ix => bif decide (AM.hd ix = k) then a else g ix) = g') : Cm n k' (r + q') f g' := by
  subst hp hq
  have hk := h.hk
  have e1 := h.rest (r + q) (by omega) hr
  have e2 := h.rest (r + (q - 1)) (by omega) (by omega)
  exact h.diff hs hr (by rw [show r + q - 1 = r + (q - 1) by omega]; omega) (by omega) hk' (by omega) hg
theorem Cm.done (h : Cm n k r f g) (hr : n ≤ r) (hg : ∀ j, 0 ≤ j → j < k → g' [j] = g [j]) : Uq (rng n f) k g' := by
  have hk := h.hk
  obtain rfl : r = n := by omega
  refine ⟨fun i j a b c => ?_, fun j a b => ?_, fun x hx => ?_⟩
  · rw [hg i a (by omega), hg j (by omega) c]; exact h.up i j a b c
  · obtain ⟨i, c, d, e⟩ := h.src j a b; rw [hg j a b]; exact mem_rng.2 ⟨i, c, d, e⟩
  · obtain ⟨i, c, d, rfl⟩ := mem_rng.1 hx
    obtain ⟨j, a, b, e⟩ := h.all i c d
    exact ⟨j, a, b, by rw [hg j a b, e]⟩
theorem Cm.clr (h : Cm n k r f g) (hr : n ≤ r) (hg : (fun ix => bif decide (k ≤ AM.hd ix ∧ AM.hd ix < k + v) then 0 else g ix) = g') : Uq (rng n f) k g' :=
  h.done hr fun j h0 h1 => by
    subst hg
    have : ¬ (k ≤ j ∧ j < k + v) := by omega
    simp only [AM.hd, this, decide_false, cond_false]
end
theorem compact_tri (n : Int) (f : Ix → Int) (hn : 0 ≤ n ∧ n ≤ 1000000) (hs : ∀ i j, 0 ≤ i → i < j → j < n → f [i] ≤ f [j]) : TriS Try.prog 47 [.sl 0 0 n 1 false] [(0, .ar n [.i .i64 f] 3)]
    (fun r σ => ∃ (m : Int) (g : Ix → Int), (0 ≤ m ∧ m ≤ n) ∧ Uq (rng n f) m g ∧ r = .sl 0 0 m 1 false ∧ σ = [(0, .ar n [.i .i64 g] 3)]) := by
  refine tri_of TT_ok mixed (OR := ORD47) (fn := Try.f47) (c := body Try.f47) (by kernel_rfl) (by kernel_rfl) (by kernel_rfl) (by kernel_rfl) (by simp [Try.f47]) fun H Tri hH hTri => ?_
  cbv
  split
  · rename_i h_1
    simp only [hH, decide_eq_true_eq] at h_1
    cbv
    exact fin (h := ⟨_, ⟨_, ⟨⟨(by omega), (by omega)⟩, ⟨(by (exact Uq.few hn.1 (by omega))), ⟨rfl, rfl⟩⟩⟩⟩⟩)
  · rename_i h_2
    simp only [hH, decide_eq_false_iff_not, Int.not_lt, Int.not_le] at h_2
    cbv
    refine' ⟨0, Int, fun (k : Int) => ⟨[(0, V.sl 0 0 n 1 false), (3, .i .i64 k), (2, V.l 0 [] true)], [(0, O.ar n [C.i IntKind.i64 f] 3)], 100⟩, fun (k : Int) => (1 ≤ k ∧ k ≤ n) ∧ (Ups k f), fun (k : Int) => (n - k).toNat, ⟨1, ⟨(by omega), (by (exact fun i j h0 h1 h2 => by omega))⟩, q3⟩, ?r_3⟩
    rintro k ⟨hk, hu⟩
    cbv
    split
    · rename_i h_4
      simp only [hH, decide_eq_true_eq] at h_4
      cbv
      generalize e_5 : H Int _ = v_6
      simp only [hH, zeroS] at e_5
      replace e_5 := (IntWalk.i64_in _ (by omega)).symm.trans e_5
      generalize e_7 : H Int _ = v_8
      simp only [hH, zeroS] at e_7
      generalize e_9 : H Int _ = v_10
      simp only [hH, zeroS] at e_9
      generalize e_11 : H Int _ = v_12
      simp only [hH, zeroS] at e_11
      subst e_11
      generalize e_13 : H Int _ = v_14
      simp only [hH, zeroS] at e_13
      subst e_13
      refine ⟨by rw [hH]; simp; omega, ?_⟩
      cbv
      refine ⟨by rw [hH]; simp; omega, ?_⟩
      cbv
      split
      · rename_i h_15
        simp only [hH, decide_eq_true_eq] at h_15
        cbv
        generalize e_16 : H Int _ = v_17
        simp only [hH, zeroS] at e_16
        subst e_16
        generalize e_18 : H Int _ = v_19
        simp only [hH, zeroS] at e_18
        refine ⟨?q_20, ?_⟩
        case q_20 => ((rw [hH]; refine decide_eq_true ⟨?_, ?_⟩ <;> simp only [o0] <;> omega))
        cbv
        refine' ⟨0, Int × Int × (Ix → Int), fun ((k2, w, g) : Int × Int × (Ix → Int)) => ⟨[(4, V.sl 0 k v_19 1 false), (0, V.sl 0 0 n 1 false), (2, V.l 0 [] true), (5, .i .i64 k2), (3, .i .i64 w)], [(0, .ar n [.i .i64 g] 3)], 100⟩, fun ((k2, w, g) : Int × Int × (Ix → Int)) => (1 ≤ k2 ∧ k2 ≤ n - k) ∧ (k ≤ w ∧ w < k + k2) ∧ (Cm n w (k + k2) f g), fun ((k2, w, g) : Int × Int × (Ix → Int)) => (n - k2).toNat, ⟨(1, k, f), ⟨(by omega), (by omega), (by (exact Cm.go hk.1 (by omega) hu ‹k - 1 = _› ‹_› ‹_› ‹_›))⟩, q3⟩, ?r_21⟩
        rintro ⟨k2, w, g⟩ ⟨hk2, hw, hc⟩
        cbv
        split
        · rename_i h_22
          simp only [hH, decide_eq_true_eq] at h_22
          cbv
          generalize e_23 : H Int _ = v_24
          simp only [hH, zeroS] at e_23
          replace e_23 := (IntWalk.i64_in _ (by omega)).symm.trans e_23
          generalize e_25 : H Int _ = v_26
          simp only [hH, zeroS] at e_25
          generalize e_27 : H Int _ = v_28
          simp only [hH, zeroS] at e_27
          generalize e_29 : H Int _ = v_30
          simp only [hH, zeroS] at e_29
          generalize e_31 : H Int _ = v_32
          simp only [hH, zeroS] at e_31
          refine ⟨by rw [hH]; simp; omega, ?_⟩
          cbv
          refine ⟨by rw [hH]; simp; omega, ?_⟩
          cbv
          split
          · rename_i h_33
            simp only [hH, decide_eq_true_eq] at h_33
            cbv
            generalize e_34 : H Int _ = v_35
            simp only [hH, zeroS] at e_34
            replace e_34 := (IntWalk.i64_in _ (by omega)).symm.trans e_34
            generalize e_36 : H Int _ = v_37
            simp only [hH, zeroS] at e_36
            replace e_36 := (IntWalk.i64_in _ (by omega)).symm.trans e_36
            generalize e_38 : H Int _ = v_39
            simp only [hH, zeroS] at e_38
            subst e_38
            generalize e_40 : H Int _ = v_41
            simp only [hH, zeroS] at e_40
            obtain rfl := Eq.trans (Eq.symm e_25) e_40
            generalize e_42 : H Int _ = v_43
            simp only [hH, zeroS] at e_42
            generalize e_44 : (fun ix => bif decide (hd ix = w) then v_26 else g ix) = c_45
            refine ⟨by rw [hH]; simp; omega, ?_⟩
            cbv
            refine ⟨by rw [hH]; simp; omega, ?_⟩
            cbv
            exact rnd (_, (_, _)) (h := ⟨⟨(by omega), (by omega)⟩, ⟨⟨(by omega), (by omega)⟩, (by (exact hc.go1 hs hk2.1 (by omega) ‹k2 - 1 = _› ‹_› ‹_› ‹_› ‹_› ‹w + 1 = _› ‹_›))⟩⟩)
          · rename_i h_46
            simp only [hH, decide_eq_false_iff_not, Int.not_lt, Int.not_le] at h_46
            cbv
            generalize e_47 : H Int _ = v_48
            simp only [hH, zeroS] at e_47
            replace e_47 := (IntWalk.i64_in _ (by omega)).symm.trans e_47
            exact rnd (_, (_, _)) (h := ⟨⟨(by omega), (by omega)⟩, ⟨⟨(by omega), (by omega)⟩, (by (exact hc.go0 hk2.1 (by omega) ‹k2 - 1 = _› ‹_› ‹_› ‹_› ‹_›))⟩⟩)
        · rename_i h_49
          simp only [hH, decide_eq_false_iff_not, Int.not_lt, Int.not_le] at h_49
          cbv
          generalize e_50 : H Int _ = v_51
          simp only [hH, zeroS] at e_50
          subst e_50
          generalize e_52 : H Int _ = v_53
          simp only [hH, zeroS] at e_52
          subst e_52
          generalize e_54 : H Int _ = v_55
          simp only [hH, zeroS] at e_54
          subst e_54
          generalize e_56 : H Int _ = v_57
          simp only [hH, zeroS] at e_56
          generalize e_58 : (fun ix => bif decide (w ≤ hd ix ∧ hd ix < w + v_57) then 0 else g ix) = c_59
          refine ⟨?q_60, ?_⟩
          case q_60 => ((rw [hH]; refine decide_eq_true ⟨?_, ?_⟩ <;> simp only [o0] <;> omega))
          cbv
          refine ⟨by rw [hH]; simp [o0]; omega, ?_⟩
          cbv
          exact fin (h := ⟨_, ⟨_, ⟨⟨(by omega), (by omega)⟩, ⟨(by (exact hc.clr (by omega) ‹_›)), ⟨rfl, rfl⟩⟩⟩⟩⟩)
      · rename_i h_61
        simp only [hH, decide_eq_false_iff_not, Int.not_lt, Int.not_le] at h_61
        cbv
        generalize e_62 : H Int _ = v_63
        simp only [hH, zeroS] at e_62
        replace e_62 := (IntWalk.i64_in _ (by omega)).symm.trans e_62
        exact rnd _ (h := ⟨⟨(by omega), (by omega)⟩, (by (exact hu.go hs hk.1 (by omega) ‹k - 1 = _› ‹_› ‹_› ‹_› ‹_›))⟩)
    · rename_i h_64
      simp only [hH, decide_eq_false_iff_not, Int.not_lt, Int.not_le] at h_64
      cbv
      exact fin (h := ⟨_, ⟨_, ⟨⟨(by omega), (by omega)⟩, ⟨(by (exact (hu.all ‹_›))), ⟨rfl, rfl⟩⟩⟩⟩⟩)
end Go.Proofs.Ytilmhjojbolbeaa.AM

