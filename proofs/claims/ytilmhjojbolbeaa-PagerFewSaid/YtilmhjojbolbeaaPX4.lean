/-
  What functions of the program compute. No condition beside those that each theorem states.
-/
import Derived.Test.YtilmhjojbolbeaaPX3
import Derived.Test.YtilmhjojbolbeaaPA5
set_option linter.all false

namespace Go.Proofs.Ytilmhjojbolbeaa.AM
open Go
set_option maxRecDepth 100000
set_option maxHeartbeats 4000000
section
variable {n L w fl base log tx m m' : Int} {f : Int → Str} {D : DK} {pk pn lk ln : Ix → Int} {pb lb : Ix → Str} {fu : Bool}
/-- the pages of the document's answer -/
theorem two23 {i : Int} (h0 : 0 ≤ i) (h1 : i < 2) : i = 0 ∨ i = 1 := by omega
theorem four23 {i : Int} (h0 : 0 ≤ i) (h1 : i < 4) : i = 0 ∨ i = 1 ∨ i = 2 ∨ i = 3 := by omega
theorem good23a (h0 : lk [0] = 2 ∧ ln [0] = 0 ∧ lb [0] = [97]) (h1 : lk [1] = 3 ∧ ln [1] = 1 ∧ lb [1] = [98]) : Good 7 2 lk ln lb := fun i a b => by
  rcases two23 a b with rfl | rfl
  · rw [h0.1, h0.2.1, h0.2.2]; exact ⟨by omega, rfl, by omega, by omega, by decide, by omega⟩
  · rw [h1.1, h1.2.1, h1.2.2]; exact ⟨by omega, rfl, by omega, by omega, by decide, by omega⟩
theorem good23c (h0 : lk [0] = 2 ∧ ln [0] = 0 ∧ lb [0] = [120]) (h1 : lk [1] = 2 ∧ ln [1] = 1 ∧ lb [1] = [120]) (h2 : lk [2] = 2 ∧ ln [2] = 2 ∧ lb [2] = [120]) (h3 : lk [3] = 2 ∧ ln [3] = 3 ∧ lb [3] = [120]) : Good 7 4 lk ln lb := fun i a b => by
  rcases four23 a b with rfl | rfl | rfl | rfl
  · rw [h0.1, h0.2.1, h0.2.2]; exact ⟨by omega, rfl, by omega, by omega, by decide, by omega⟩
  · rw [h1.1, h1.2.1, h1.2.2]; exact ⟨by omega, rfl, by omega, by omega, by decide, by omega⟩
  · rw [h2.1, h2.2.1, h2.2.2]; exact ⟨by omega, rfl, by omega, by omega, by decide, by omega⟩
  · rw [h3.1, h3.2.1, h3.2.2]; exact ⟨by omega, rfl, by omega, by omega, by decide, by omega⟩
structure A23 (pk pn : Ix → Int) (pb : Ix → Str) : Prop where
  a : pk [0] = 2 ∧ pn [0] = 0 ∧ pb [0] = [97]
  b : pk [1] = 3 ∧ pn [1] = 1 ∧ pb [1] = [98]
theorem A23.of (h : A23 lk ln lb) (e : ∀ j : Int, 0 ≤ j → j < 2 → pk [j] = lk [j] ∧ pn [j] = ln [j] ∧ pb [j] = lb [j]) : A23 pk pn pb := by
  obtain ⟨e1, e2, e3⟩ := e 0 (by omega) (by omega)
  obtain ⟨g1, g2, g3⟩ := e 1 (by omega) (by omega)
  exact ⟨by rw [e1, e2, e3]; exact h.a, by rw [g1, g2, g3]; exact h.b⟩
theorem pages23 {ck cn qk qn : Ix → Int} {cb qb : Ix → Str} {fv : Bool} (e1 : ∀ j : Int, 0 ≤ j → j < 2 → ck [j] = qk [j] ∧ cn [j] = qn [j] ∧ cb [j] = qb [j]) (h : A23 qk qn qb) (h0 : lk [0] = 2 ∧ ln [0] = 0 ∧ lb [0] = [97]) (h1 : lk [1] = 3 ∧ ln [1] = 1 ∧ lb [1] = [98]) :
    TriS Try.prog 31 [.l 2 [.i .i64 fun ix => ck ((AM.hd ix + 0) :: ix.tail), .i .i64 fun ix => cn ((AM.hd ix + 0) :: ix.tail), .s fun ix => cb ((AM.hd ix + 0) :: ix.tail)] fu, .l 2 [.i .i64 lk, .i .i64 ln, .s lb] fv] [] (fun r σ => r = .b true ∧ σ = []) :=
  pages_p (by omega) e1 (fun j a b => by
    rcases two23 a b with rfl | rfl
    · rw [h.a.1, h.a.2.1, h.a.2.2, h0.1, h0.2.1, h0.2.2]; exact ⟨rfl, rfl, rfl⟩
    · rw [h.b.1, h.b.2.1, h.b.2.2, h1.1, h1.2.1, h1.2.2]; exact ⟨rfl, rfl, rfl⟩)
/-- Commit of two pages -/
theorem com23a (hD : DB 12 L w fl f D) (hL : L ≤ 100000) (hl : Lay f 7 1 0 pk pn pb) (h0 : lk [0] = 2 ∧ ln [0] = 0 ∧ lb [0] = [97]) (h1 : lk [1] = 3 ∧ ln [1] = 1 ∧ lb [1] = [98]) :
    TriS Try.prog 29 [.pt 0 0, .l 2 [.i .i64 lk, .i .i64 ln, .s lb] fu] (pagS 0 1 2 3 4 5 7 5 1 0 D pk pn pb) (fun r σ => ∃ (D' : DK) (f' : Int → Str) (pk' pn' : Ix → Int) (pb' : Ix → Str), DA 12 (L + 5000) f' D' ∧ Lay f' 7 2 2 pk' pn' pb' ∧ A23 pk' pn' pb' ∧ r = .i .i64 0 ∧ σ = pagS 0 100 2 3 4 101 7 5 2 2 D' pk' pn' pb') :=
  (pcommit_ok 12 L w fl 7 5 1 0 2 f D pk pn lk ln pb lb fu hD hL (by omega) hl (by omega) (by omega) (good23a h0 h1) (by omega) (by have := (chN_le (m := 0) (pk := pk) (pn := pn) (pb := pb) (lk := lk) (ln := ln) (lb := lb) 2).2; have e : (2 : Int).toNat = 2 := rfl; rw [e]; omega)).mono
    (by rintro r σ ⟨D', f', t, a, b, c, hd, rfl, h2, h3, h⟩; exact ⟨D', f', a, b, c, hd.da, h2, A23.of ⟨h0, h1⟩ h3, h⟩)
/-- Commit of a page that has another number -/
theorem com23b (hD : DA 12 L f D) (hL : L ≤ 100000) (hl : Lay f 7 2 2 pk pn pb) (h0 : ln [0] = 1) :
    TriS Try.prog 29 [.pt 0 0, .l 1 [.i .i64 lk, .i .i64 ln, .s lb] fu] (pagS 0 1 2 3 4 5 7 5 2 2 D pk pn pb) (fun r σ => r = .i .i64 1 ∧ σ = pagS 0 1 2 3 4 5 7 5 2 2 D pk pn pb) :=
  pcommit_bad1 12 L _ _ 7 5 2 2 1 f D pk pn lk ln pb lb fu hD.db hL (by omega) hl (by omega) (by omega) (fun h => by have := (h 0 (by omega) (by omega)).2.1; omega)
theorem chN_all (h : ∀ i : Int, 0 ≤ i → Chg m pk pn pb lk ln lb i) : ∀ k : Nat, chN m pk pn pb lk ln lb k = k
  | 0 => rfl
  | k + 1 => by rw [chN, if_pos (h _ (by omega)), chN_all h k]; omega
/-- Commit of too many pages -/
theorem com23c (hD : DA 12 L f D) (hL : L ≤ 100000) (hl : Lay f 7 2 2 pk pn pb) (hp : A23 pk pn pb) (h0 : lk [0] = 2 ∧ ln [0] = 0 ∧ lb [0] = [120]) (h1 : lk [1] = 2 ∧ ln [1] = 1 ∧ lb [1] = [120]) (h2 : lk [2] = 2 ∧ ln [2] = 2 ∧ lb [2] = [120]) (h3 : lk [3] = 2 ∧ ln [3] = 3 ∧ lb [3] = [120]) :
    TriS Try.prog 29 [.pt 0 0, .l 4 [.i .i64 lk, .i .i64 ln, .s lb] fu] (pagS 0 1 2 3 4 5 7 5 2 2 D pk pn pb) (fun r σ => r = .i .i64 3 ∧ σ = pagS 0 1 2 3 4 5 7 5 2 2 D pk pn pb) :=
  pcommit_full 12 L _ _ 7 5 2 2 4 f D pk pn lk ln pb lb fu hD.db hL (by omega) hl (by omega) (by omega) (good23c h0 h1 h2 h3) (by omega) (by
    rw [chN_all (fun i a h => ?_)]
    · decide
    · obtain ⟨b, -, -, h⟩ := h
      rcases two23 a b with rfl | rfl
      · rw [hp.a.2.2, h0.2.2] at h; exact absurd h (by decide)
      · rw [hp.b.2.2, h1.2.2] at h; exact absurd h (by decide))
theorem fmt23 (hD : DB 12 L w fl f D) (hL : L ≤ 1000000) : TriS Try.prog 27 [.pt 0 0, .i .i64 5] (D.S 0 1 2)
    (fun r σ => ∃ (D' : DK) (f' : Int → Str) (pk pn : Ix → Int) (pb : Ix → Str), DB 12 (L + 3) (w + 2) (fl + 1) f' D' ∧ Lay f' 7 1 0 pk pn pb ∧ r = .tu [.pt 100 0, .i .i64 0] ∧ σ = pagS 100 101 102 0 1 103 7 5 1 0 D' pk pn pb) :=
  format_b hD hL (by omega) (by omega)
theorem fmt23b (hD : DB 12 L w fl f D) : TriS Try.prog 27 [.pt 0 0, .i .i64 11] (D.S 0 1 2) (fun r σ => r = .tu [nilp, .i .i64 1] ∧ σ = D.S 0 1 2) := format_bad hD (by omega)
theorem open23 (hD : DA 12 L f D) (hL : L ≤ 1000000) (hl : Lay f 7 2 2 pk pn pb) (e : A23 pk pn pb) :
    TriS Try.prog 30 [.pt 0 0, .i .i64 5] (D.S 0 1 2) (fun r σ => ∃ (D' : DK) (pk' pn' : Ix → Int) (pb' : Ix → Str), DA 12 (L + 3000) f D' ∧ Lay f 7 2 2 pk' pn' pb' ∧ A23 pk' pn' pb' ∧ r = .tu [.pt 100 0, .i .i64 0] ∧ σ = pagS 100 103 101 0 1 2 7 5 2 2 D' pk' pn' pb') :=
  (open_b hD hL (by omega) (by omega) hl (by omega)).mono (by
    rintro r σ ⟨D', a, b, c, h2, h3, h⟩
    exact ⟨D', a, b, c, h2, hl.congr h3, e.of h3, h⟩)
theorem room7 : TriS Try.prog 34 [.pt 0 0] (pagS 0 1 2 3 4 5 7 5 tx m D pk pn pb) (fun r σ => r = .i .i64 6 ∧ σ = pagS 0 1 2 3 4 5 7 5 tx m D pk pn pb) :=
  (roomS (by omega)).mono (by rintro r σ ⟨v, rfl, rfl, rfl⟩; exact ⟨rfl, rfl⟩)
end
theorem live23 : TriS Try.prog 25 [] [] (fun r σ => r = .b true ∧ σ = []) := by
  have hnew := newB 12 (by omega)
  refine trio Try.f25 ORD25 fun H Tri hH hTri => ?_
  refine nm ?_
  refine ca [] (t := hnew) (k := ?k_1)
  rintro _ _ ⟨x_2, h_3, rfl, rfl⟩
  refine nm ?_
  refine ca [200, 201, 202] (t := (fmt23 aS oS)) (k := ?k_4)
  rintro _ _ ⟨x_5, x_6, x_7, x_8, x_9, h_10, h_11, rfl, rfl⟩
  refine nm ?_
  refine ca [200, 201, 223] (t := (fmt23b aS)) (k := ?k_12)
  rintro _ _ ⟨rfl, rfl⟩
  refine nm ?_
  refine ca [220, 221, 222, 200, 201, 223] (t := (com23a aS oS aS dS dS)) (k := ?k_13)
  rintro _ _ ⟨x_14, x_15, x_16, x_17, x_18, h_19, h_20, h_21, rfl, rfl⟩
  refine nm ?_
  refine ca [220, 260, 222, 200, 201, 261] (t := (com23b aS oS aS (by rfl))) (k := ?k_22)
  rintro _ _ ⟨rfl, rfl⟩
  refine nm ?_
  refine ca [200, 201, 261] (t := (open23 aS oS aS aS)) (k := ?k_23)
  rintro _ _ ⟨x_24, x_25, x_26, x_27, h_28, h_29, h_30, rfl, rfl⟩
  refine nm ?_
  refine ca [300, 303, 301, 200, 201, 261] (t := (com23c aS oS aS aS dS dS dS dS)) (k := ?k_31)
  rintro _ _ ⟨rfl, rfl⟩
  refine nm ?_
  refine ca [300, 303, 301, 200, 201, 261] (t := (pagesS oS)) (k := ?k_32)
  rintro _ _ ⟨x_33, x_34, x_35, h_36, rfl, rfl⟩
  refine nm ?_
  refine ca [] (t := (pages23 aS aS dS dS)) (k := ?k_37)
  rintro _ _ ⟨rfl, rfl⟩
  refine nm ?_
  refine ca [300, 303, 301, 200, 201, 261] (t := txS) (k := ?k_38)
  rintro _ _ ⟨rfl, rfl⟩
  refine nm ?_
  refine ca [300, 303, 301, 200, 201, 261] (t := room7) (k := ?k_39)
  rintro _ _ ⟨rfl, rfl⟩
  refine nm ?_
  exact fi ⟨rfl, rfl⟩
end Go.Proofs.Ytilmhjojbolbeaa.AM

namespace Go.Proofs.Ytilmhjojbolbeaa.AM
open Go
set_option maxRecDepth 100000
set_option maxHeartbeats 4000000
/-! ### The laws -/
theorem pnil23 (N log : Int) (pk pn : Ix → Int) (pb : Ix → Str) (h0 : 0 ≤ N) : TriS Try.prog 9 [.l N [.i .i64 pk, .i .i64 pn, .s pb] false, .i .i64 log] [] (fun r _ => r = .b true) := by
  have hlv := live23
  refine trio Try.f9 ORD9 fun H Tri hH hTri => ?_
  refine nm ?_
  refine ca [] (t := (few23 aS)) (k := ?k_1)
  rintro _ _ ⟨b_2, h_3, rfl, rfl⟩
  refine nm ?_
  rcases b_2 with _ | _
  · simp only [boolS] at h_3
    refine nm ?_
    refine ca [] (t := hlv) (k := ?k_4)
    rintro _ _ ⟨rfl, rfl⟩
    refine nm ?_
    exact fi (σ := []) rfl
  · simp only [boolS] at h_3
    refine nm ?_
    refine ca [] (t := format_nil) (k := ?k_5)
    rintro _ _ ⟨rfl, rfl⟩
    refine nm ?_
    refine ca [] (t := open_nil) (k := ?k_6)
    rintro _ _ ⟨rfl, rfl⟩
    refine nm ?_
    refine ca [] (t := (pcommit_nil _)) (k := ?k_7)
    rintro _ _ ⟨rfl, rfl⟩
    refine nm ?_
    refine ca [] (t := pages_nil) (k := ?k_8)
    rintro _ _ ⟨rfl, rfl⟩
    refine nm ?_
    refine ca [] (t := room_nil) (k := ?k_9)
    rintro _ _ ⟨rfl, rfl⟩
    refine nm ?_
    refine ca [] (t := tx_nil) (k := ?k_10)
    rintro _ _ ⟨rfl, rfl⟩
    refine nm ?_
    refine ca [] (t := hlv) (k := ?k_11)
    rintro _ _ ⟨rfl, rfl⟩
    refine nm ?_
    exact fi (σ := []) rfl
section
variable (n log N : Int) (cnt : Ix → Int) (lk ln : Ix → Int) (lb : Ix → Str)
theorem pback_big (h : ¬ (n ≤ 40 ∧ N ≤ 8)) : TriS Try.prog 8 [.i .i64 n, .i .i64 log, .l N [.l cnt [.i .i64 lk, .i .i64 ln, .s lb]] false] [] (fun r _ => r = .b true) := by
  have hlv := live23
  refine trio Try.f8 ORD8 fun H Tri hH hTri => ?_
  refine nm ?_
  refine ts ?_ ?_
  · intro e_1
    refine ca [] (t := hlv) (k := ?k_2)
    rintro _ _ ⟨rfl, rfl⟩
    refine nm ?_
    exact fi (σ := []) rfl
  · intro e_3
    refine ca [] (t := hlv) (k := ?k_4)
    rintro _ _ ⟨rfl, rfl⟩
    refine nm ?_
    exact fi (σ := []) rfl
theorem pback_no (h : n ≤ 40 ∧ N ≤ 8) (hn : ¬ 1 ≤ n) : TriS Try.prog 8 [.i .i64 n, .i .i64 log, .l N [.l cnt [.i .i64 lk, .i .i64 ln, .s lb]] false] [] (fun r _ => r = .b true) := by
  have hlv := live23
  have hb := disk_new_bad n (by omega)
  refine trio Try.f8 ORD8 fun H Tri hH hTri => ?_
  refine nm ?_
  refine ca [] (t := hb) (k := ?k_1)
  rintro _ _ ⟨rfl, rfl⟩
  refine nm ?_
  refine ca [] (t := format_nil) (k := ?k_2)
  rintro _ _ ⟨rfl, rfl⟩
  refine nm ?_
  refine ca [] (t := hlv) (k := ?k_3)
  rintro _ _ ⟨rfl, rfl⟩
  refine nm ?_
  exact fi (σ := []) rfl
theorem pback_not (h : n ≤ 40 ∧ N ≤ 8) (hn : 1 ≤ n) (hl : ¬ ((2 ≤ log ∧ log ≤ 900) ∧ 2 ≤ n - log)) : TriS Try.prog 8 [.i .i64 n, .i .i64 log, .l N [.l cnt [.i .i64 lk, .i .i64 ln, .s lb]] false] [] (fun r _ => r = .b true) := by
  have hlv := live23
  have hnew := newB n (by omega)
  refine trio Try.f8 ORD8 fun H Tri hH hTri => ?_
  refine nm ?_
  refine ca [] (t := hnew) (k := ?k_1)
  rintro _ _ ⟨x_2, h_3, rfl, rfl⟩
  refine nm ?_
  refine ca [200, 201, 202] (t := (format_bad aS aS)) (k := ?k_4)
  rintro _ _ ⟨rfl, rfl⟩
  refine nm ?_
  refine ca [] (t := hlv) (k := ?k_5)
  rintro _ _ ⟨rfl, rfl⟩
  refine nm ?_
  exact fi (σ := []) rfl
theorem pback_yes (h : n ≤ 40 ∧ N ≤ 8) (h0 : 0 ≤ N) (hc : ∀ ix, 0 ≤ cnt ix) (hn : 1 ≤ n) (base : Int) (hb : base = n - log) (hb2 : (2 ≤ log ∧ log ≤ 900) ∧ 2 ≤ base) : TriS Try.prog 8 [.i .i64 n, .i .i64 log, .l N [.l cnt [.i .i64 lk, .i .i64 ln, .s lb]] false] [] (fun r _ => r = .b true) := by
  have hlv := live23
  have hnew := newB n (by omega)
  refine trio Try.f8 ORD8 fun H Tri hH hTri => ?_
  refine nm ?_
  refine ca [] (t := hnew) (k := ?k_1)
  rintro _ _ ⟨x_2, h_3, rfl, rfl⟩
  refine nm ?_
  refine ca [200, 201, 202] (t := (format_b aS oS aS aS)) (k := ?k_4)
  rintro _ _ ⟨x_5, x_6, x_7, x_8, x_9, h_10, h_11, rfl, rfl⟩
  refine nm ?_
  refine' ⟨0, lp (Int × Int × Int × DK × (Int → Str) × (Ix → Int) × (Ix → Int) × (Ix → Str) × (Ix → Int) × (Ix → Int) × (Ix → Str)) [9, 7, 1, 2, 6] [] 261 (fun (i, tx, m, D2, f2, qk, qn, qb, zk, zn, zb) => ([(13, .i .i64 i), (12, .i .i64 tx), (11, .l m [.i .i64 zk, .i .i64 zn, .s zb] false)], [(220, .st [.pt 222 0, .pt 200 0, .i .i64 base, .i .i64 log, .sl 250 0 m 3 false] 115), (250, .ar m [.i .i64 qk, .i .i64 qn, .s qb] 73), (222, .st [.pt 200 0, .i .i64 base, .i .i64 log, .i .i64 tx] 159), (200, .st [.sl 201 0 D2.n 1 false, .sl 260 0 D2.m 2 false, .i .i64 D2.r, .i .i64 D2.w, .i .i64 D2.f, .i .i64 (-1)] 128), (201, .ar D2.n [.s D2.pg] 9), (260, .ar D2.k [.i .i64 D2.wn, .s D2.ws] 155)], ((0 ≤ i ∧ i ≤ N) ∧ (1 ≤ tx ∧ tx ≤ i + 1) ∧ (0 ≤ m ∧ m ≤ 1000) ∧ (DA n (3 + 8000 * i) f2 D2) ∧ (Lay f2 base tx m qk qn qb) ∧ (∀ j : Int, 0 ≤ j → j < m → qk [j] = zk [j] ∧ qn [j] = zn [j] ∧ qb [j] = zb [j])), (N - i).toNat)) (0, 1, 0, _, _, _, _, _, fun _ => 0, fun _ => 0, fun _ => []) ⟨oS, oS, oS, (by exact DA.up (DB.da ‹DB n (0 + 3) _ _ _ _›) (by omega)), aS, oS⟩ ?r_12⟩
  rintro ⟨i, tx, m, D2, f2, qk, qn, qb, zk, zn, zb⟩ ⟨hi, ht, hm, hda, hl, he⟩
  refine nm ?_
  refine ts ?_ ?_
  · intro e_13 v_14 e_15
    generalize e_16 : (fun ix => lk (i :: ix)) = c_17
    generalize e_18 : (fun ix => ln (i :: ix)) = c_19
    generalize e_20 : (fun ix => lb (i :: ix)) = c_21
    refine ca [] (t := (few23 gS)) (k := ?k_22)
    rintro _ _ ⟨b_23, h_24, rfl, rfl⟩
    refine nm ?_
    rcases b_23 with _ | _
    · simp only [boolS] at h_24
      refine nm ?_
      refine ca [] (t := hlv) (k := ?k_25)
      rintro _ _ ⟨rfl, rfl⟩
      refine nm ?_
      exact fi (σ := []) rfl
    · simp only [boolS] at h_24
      refine nm ?_
      generalize e_26 : (fun ix => lk (i :: ix)) = c_27
      generalize e_28 : (fun ix => ln (i :: ix)) = c_29
      generalize e_30 : (fun ix => lb (i :: ix)) = c_31
      refine ca [220, 250, 222, 200, 201, 260] (t := (pcommit_da aS oS aS aS aS oS gS)) (k := ?k_32)
      rintro _ _ (⟨x_33, x_34, v_35, x_36, x_37, x_38, h_39, h_40, h_41, h_42, rfl, rfl⟩ | ⟨v_43, h_44, rfl, rfl⟩)
      · refine nm ?_
        intro v_45 e_46
        generalize e_47 : (fun ix => lk (i :: ix)) = c_48
        generalize e_49 : (fun ix => ln (i :: ix)) = c_50
        generalize e_51 : (fun ix => lb (i :: ix)) = c_52
        refine ca [200, 201, 382] (t := (open_b aS oS aS aS aS oS)) (k := ?k_53)
        rintro _ _ ⟨x_54, x_55, x_56, x_57, h_58, h_59, rfl, rfl⟩
        refine nm ?_
        refine ca [401, 404, 402, 200, 201, 382] (t := (pagesS gS)) (k := ?k_60)
        rintro _ _ ⟨x_61, x_62, x_63, h_64, rfl, rfl⟩
        refine nm ?_
        refine ca [] (t := (pages_p gS aS jS)) (k := ?k_65)
        rintro _ _ ⟨rfl, rfl⟩
        refine nm ?_
        refine ca [220, 381, 222, 200, 201, 382] (t := (pagesS gS)) (k := ?k_66)
        rintro _ _ ⟨x_67, x_68, x_69, h_70, rfl, rfl⟩
        refine nm ?_
        refine ca [] (t := (pages_p gS aS jS)) (k := ?k_71)
        rintro _ _ ⟨rfl, rfl⟩
        refine nm ?_
        refine ca [401, 404, 402, 200, 201, 382] (t := txS) (k := ?k_72)
        rintro _ _ ⟨rfl, rfl⟩
        refine nm ?_
        refine ca [220, 381, 222, 200, 201, 382] (t := txS) (k := ?k_73)
        rintro _ _ ⟨rfl, rfl⟩
        refine nm ?_
        intro v_74 e_75
        exact rn (_, (_, (_, (⟨_, _, _, _, _, _, _, _, _⟩, (_, (_, (_, (_, (_, (_, _)))))))))) (h := ⟨⟨oS, oS⟩, ⟨oS, oS⟩, ⟨gS, oS⟩, (by exact DA.mono ‹_› (by omega)), iA, jS⟩)
      · refine nm ?_
        refine ca [200, 201, 260] (t := (open_b aS oS aS aS aS oS)) (k := ?k_76)
        rintro _ _ ⟨x_77, x_78, x_79, x_80, h_81, h_82, rfl, rfl⟩
        refine nm ?_
        refine ca [401, 404, 402, 200, 201, 260] (t := (pagesS aS)) (k := ?k_83)
        rintro _ _ ⟨x_84, x_85, x_86, h_87, rfl, rfl⟩
        refine nm ?_
        refine ca [] (t := (pages_p aS aS iA)) (k := ?k_88)
        rintro _ _ ⟨rfl, rfl⟩
        refine nm ?_
        refine ca [220, 250, 222, 200, 201, 260] (t := (pagesS aS)) (k := ?k_89)
        rintro _ _ ⟨x_90, x_91, x_92, h_93, rfl, rfl⟩
        refine nm ?_
        refine ca [] (t := (pages_p aS aS aS)) (k := ?k_94)
        rintro _ _ ⟨rfl, rfl⟩
        refine nm ?_
        refine ca [401, 404, 402, 200, 201, 260] (t := txS) (k := ?k_95)
        rintro _ _ ⟨rfl, rfl⟩
        refine nm ?_
        refine ca [220, 250, 222, 200, 201, 260] (t := txS) (k := ?k_96)
        rintro _ _ ⟨rfl, rfl⟩
        refine nm ?_
        intro v_97 e_98
        exact rn (_, (_, (_, (⟨_, _, _, _, _, _, _, _, _⟩, (_, (_, (_, (_, (_, (_, _)))))))))) (h := ⟨⟨oS, oS⟩, ⟨oS, oS⟩, ⟨oS, oS⟩, (by exact DA.mono ‹_› (by omega)), aS, aS⟩)
  · intro e_99
    refine nm ?_
    refine ca [] (t := hlv) (k := ?k_100)
    rintro _ _ ⟨rfl, rfl⟩
    refine nm ?_
    exact fi (σ := []) rfl
end
end Go.Proofs.Ytilmhjojbolbeaa.AM

namespace Go.Proofs.Ytilmhjojbolbeaa.AM
open Go
set_option maxRecDepth 100000
set_option maxHeartbeats 4000000
section
variable {n L w fl base log tx m m' k q i i' tn tn' : Int} {f : Int → Str} {D : DK} {pk pn lk ln qk qn : Ix → Int} {pb lb qb : Ix → Str} {s : Str} {fu : Bool}
theorem notT {b : Bool} (e : (!b) = true) : b = false := by cases b <;> simp_all
theorem notF {b : Bool} (e : (!b) = false) : b = true := by cases b <;> simp_all
theorem chN_congr (e : ∀ j : Int, 0 ≤ j → j < m → pk [j] = qk [j] ∧ pn [j] = qn [j] ∧ pb [j] = qb [j]) : ∀ k : Nat, chN m pk pn pb lk ln lb k = chN m qk qn qb lk ln lb k
  | 0 => rfl
  | k + 1 => by
    have h : Chg m pk pn pb lk ln lb (k : Int) = Chg m qk qn qb lk ln lb (k : Int) := by
      unfold Chg
      by_cases hk : (k : Int) < m
      · obtain ⟨e1, e2, e3⟩ := e k (by omega) hk
        rw [e1, e2, e3]
      · simp [hk]
    rw [chN, chN, chN_congr e k]
    congr 1
    by_cases hq : Chg m pk pn pb lk ln lb (k : Int)
    · rw [if_pos hq, if_pos (h ▸ hq)]
    · rw [if_neg hq, if_neg (h ▸ hq)]
theorem tn_up (h : tn = chN m pk pn pb lk ln lb i.toNat) (h0 : 0 ≤ i) (hi : i + 1 = i') (ht : tn + 1 = tn') (hc : Chg m pk pn pb lk ln lb i) : tn' = chN m pk pn pb lk ln lb i'.toNat := by
  subst hi ht
  rw [show (i + 1).toNat = i.toNat + 1 by omega, chN, Int.toNat_of_nonneg h0, if_pos hc, h]
theorem tn_no (h : tn = chN m pk pn pb lk ln lb i.toNat) (h0 : 0 ≤ i) (hi : i + 1 = i') (hc : ¬ Chg m pk pn pb lk ln lb i) : tn = chN m pk pn pb lk ln lb i'.toNat := by
  subst hi
  rw [show (i + 1).toNat = i.toNat + 1 by omega, chN, Int.toNat_of_nonneg h0, if_neg hc, h, Int.add_zero]
theorem pcommit_w (hD : DB n L w fl f D) (hL : L ≤ 100000) (hb : base = n - log) (hb2 : (2 ≤ log ∧ log ≤ 900) ∧ 2 ≤ base) (hl : Lay f base tx m pk pn pb) (ht : 1 ≤ tx ∧ tx ≤ 1000000) (hm : 0 ≤ m' ∧ m' ≤ 1000) :
    TriS Try.prog 29 [.pt 0 0, .l m' [.i .i64 lk, .i .i64 ln, .s lb] fu] (pagS 0 1 2 3 4 5 base log tx m D pk pn pb) (fun r σ =>
  (∃ (D' : DK) (f' : Int → Str) (t w' fl' : Int) (pk' pn' : Ix → Int) (pb' : Ix → Str), DB n (L + 5000) w' fl' f' D' ∧ w' = w + 2 * chN m pk pn pb lk ln lb m'.toNat + 3 ∧ (w + 3 ≤ w' ∧ w' ≤ w + 2 * m' + 3) ∧ fl' = fl + 4 ∧ t = tx + 1 ∧ Lay f' base t m' pk' pn' pb' ∧ (∀ j : Int, 0 ≤ j → j < m' → pk' [j] = lk [j] ∧ pn' [j] = ln [j] ∧ pb' [j] = lb [j]) ∧ r = .i .i64 0 ∧ σ = pagS 0 100 2 3 4 101 base log t m' D' pk' pn' pb') ∨
  (∃ e : Int, e ≠ 0 ∧ r = .i .i64 e ∧ σ = pagS 0 1 2 3 4 5 base log tx m D pk pn pb)) :=
  (pcommit_any hD hL hb hb2 hl ht hm).mono (fun r σ h => by
    rcases h with ⟨D', f', t, a, b, c, h1, h⟩ | h
    · have := chN_le (m := m) (pk := pk) (pn := pn) (pb := pb) (lk := lk) (ln := ln) (lb := lb) m'.toNat
      exact .inl ⟨D', f', t, _, _, a, b, c, h1, rfl, by omega, rfl, h⟩
    · exact .inr h)
theorem format_w (hD : DB n L w fl f D) (hL : L ≤ 1000000) (hb : base = n - log) (hb2 : (2 ≤ log ∧ log ≤ 900) ∧ 2 ≤ base) : TriS Try.prog 27 [.pt 0 0, .i .i64 log] (D.S 0 1 2)
    (fun r σ => ∃ (D' : DK) (f' : Int → Str) (w' fl' : Int) (pk pn : Ix → Int) (pb : Ix → Str), DB n (L + 3) w' fl' f' D' ∧ w' = w + 2 ∧ fl' = fl + 1 ∧ Lay f' base 1 0 pk pn pb ∧ r = .tu [.pt 100 0, .i .i64 0] ∧ σ = pagS 100 101 102 0 1 103 base log 1 0 D' pk pn pb) :=
  (format_b hD hL hb hb2).mono (by rintro r σ ⟨D', f', a, b, c, h1, h⟩; exact ⟨D', f', _, _, a, b, c, h1, rfl, rfl, h⟩)
end
section
variable (n log m0 m1 a1 kn a2 a3 a4 mn a5 : Int) (qk qn lk ln kf mf : Ix → Int) (qb lb : Ix → Str)
theorem pfew_big (h : ¬ n ≤ 40) : TriS Try.prog 10 [.ag [.i .i64 n, .i .i64 log, .l m0 [.i .i64 qk, .i .i64 qn, .s qb] false, .l m1 [.i .i64 lk, .i .i64 ln, .s lb] false, .i .i64 a1, .l kn [.i .i64 kf] false, .i .i64 a2, .i .i64 a3, .i .i64 a4, .l mn [.i .i64 mf] false, .i .i64 a5]] [] (fun r _ => r = .b true) := by
  have hlv := live23
  refine trio Try.f10 ORD10 fun H Tri hH hTri => ?_
  refine nm ?_
  refine ca [] (t := hlv) (k := ?k_1)
  rintro _ _ ⟨rfl, rfl⟩
  refine nm ?_
  exact fi (σ := []) rfl
theorem pfew_no (h : n ≤ 40) (hn : ¬ 1 ≤ n) (h0 : 0 ≤ m0) (h1 : 0 ≤ m1) : TriS Try.prog 10 [.ag [.i .i64 n, .i .i64 log, .l m0 [.i .i64 qk, .i .i64 qn, .s qb] false, .l m1 [.i .i64 lk, .i .i64 ln, .s lb] false, .i .i64 a1, .l kn [.i .i64 kf] false, .i .i64 a2, .i .i64 a3, .i .i64 a4, .l mn [.i .i64 mf] false, .i .i64 a5]] [] (fun r _ => r = .b true) := by
  have hlv := live23
  have hb := disk_new_bad n (by omega)
  refine trio Try.f10 ORD10 fun H Tri hH hTri => ?_
  refine nm ?_
  refine ca [] (t := (few23 aS)) (k := ?k_1)
  rintro _ _ ⟨b_2, h_3, rfl, rfl⟩
  refine nm ?_
  rcases b_2 with _ | _
  · simp only [boolS] at h_3
    refine nm ?_
    refine ca [] (t := hlv) (k := ?k_4)
    rintro _ _ ⟨rfl, rfl⟩
    refine nm ?_
    exact fi (σ := []) rfl
  · simp only [boolS] at h_3
    refine nm ?_
    refine ca [] (t := (few23 aS)) (k := ?k_5)
    rintro _ _ ⟨b_6, h_7, rfl, rfl⟩
    refine nm ?_
    rcases b_6 with _ | _
    · simp only [boolS] at h_7
      refine nm ?_
      refine ca [] (t := hlv) (k := ?k_8)
      rintro _ _ ⟨rfl, rfl⟩
      refine nm ?_
      exact fi (σ := []) rfl
    · simp only [boolS] at h_7
      refine nm ?_
      refine ca [] (t := hb) (k := ?k_9)
      rintro _ _ ⟨rfl, rfl⟩
      refine nm ?_
      refine ca [] (t := format_nil) (k := ?k_10)
      rintro _ _ ⟨rfl, rfl⟩
      refine nm ?_
      refine ca [] (t := hlv) (k := ?k_11)
      rintro _ _ ⟨rfl, rfl⟩
      refine nm ?_
      exact fi (σ := []) rfl
theorem pfew_not (h : n ≤ 40) (hn : 1 ≤ n) (h0 : 0 ≤ m0) (h1 : 0 ≤ m1) (hl : ¬ ((2 ≤ log ∧ log ≤ 900) ∧ 2 ≤ n - log)) : TriS Try.prog 10 [.ag [.i .i64 n, .i .i64 log, .l m0 [.i .i64 qk, .i .i64 qn, .s qb] false, .l m1 [.i .i64 lk, .i .i64 ln, .s lb] false, .i .i64 a1, .l kn [.i .i64 kf] false, .i .i64 a2, .i .i64 a3, .i .i64 a4, .l mn [.i .i64 mf] false, .i .i64 a5]] [] (fun r _ => r = .b true) := by
  have hlv := live23
  have hnew := newB n (by omega)
  refine trio Try.f10 ORD10 fun H Tri hH hTri => ?_
  refine nm ?_
  refine ca [] (t := (few23 aS)) (k := ?k_1)
  rintro _ _ ⟨b_2, h_3, rfl, rfl⟩
  refine nm ?_
  rcases b_2 with _ | _
  · simp only [boolS] at h_3
    refine nm ?_
    refine ca [] (t := hlv) (k := ?k_4)
    rintro _ _ ⟨rfl, rfl⟩
    refine nm ?_
    exact fi (σ := []) rfl
  · simp only [boolS] at h_3
    refine nm ?_
    refine ca [] (t := (few23 aS)) (k := ?k_5)
    rintro _ _ ⟨b_6, h_7, rfl, rfl⟩
    refine nm ?_
    rcases b_6 with _ | _
    · simp only [boolS] at h_7
      refine nm ?_
      refine ca [] (t := hlv) (k := ?k_8)
      rintro _ _ ⟨rfl, rfl⟩
      refine nm ?_
      exact fi (σ := []) rfl
    · simp only [boolS] at h_7
      refine nm ?_
      refine ca [] (t := hnew) (k := ?k_9)
      rintro _ _ ⟨x_10, h_11, rfl, rfl⟩
      refine nm ?_
      refine ca [241, 242, 243] (t := (format_bad aS aS)) (k := ?k_12)
      rintro _ _ ⟨rfl, rfl⟩
      refine nm ?_
      refine ca [] (t := hlv) (k := ?k_13)
      rintro _ _ ⟨rfl, rfl⟩
      refine nm ?_
      exact fi (σ := []) rfl
theorem pfew_yes (h : n ≤ 40) (hn : 1 ≤ n) (h0 : 0 ≤ m0) (h1 : 0 ≤ m1) (base : Int) (hb : base = n - log) (hb2 : (2 ≤ log ∧ log ≤ 900) ∧ 2 ≤ base) : TriS Try.prog 10 [.ag [.i .i64 n, .i .i64 log, .l m0 [.i .i64 qk, .i .i64 qn, .s qb] false, .l m1 [.i .i64 lk, .i .i64 ln, .s lb] false, .i .i64 a1, .l kn [.i .i64 kf] false, .i .i64 a2, .i .i64 a3, .i .i64 a4, .l mn [.i .i64 mf] false, .i .i64 a5]] [] (fun r _ => r = .b true) := by
  have hlv := live23
  have hnew := newB n (by omega)
  refine trio Try.f10 ORD10 fun H Tri hH hTri => ?_
  refine nm ?_
  refine ca [] (t := (few23 aS)) (k := ?k_1)
  rintro _ _ ⟨b_2, h_3, rfl, rfl⟩
  refine nm ?_
  rcases b_2 with _ | _
  · simp only [boolS] at h_3
    refine nm ?_
    refine ca [] (t := hlv) (k := ?k_4)
    rintro _ _ ⟨rfl, rfl⟩
    refine nm ?_
    exact fi (σ := []) rfl
  · simp only [boolS] at h_3
    refine nm ?_
    refine ca [] (t := (few23 aS)) (k := ?k_5)
    rintro _ _ ⟨b_6, h_7, rfl, rfl⟩
    refine nm ?_
    rcases b_6 with _ | _
    · simp only [boolS] at h_7
      refine nm ?_
      refine ca [] (t := hlv) (k := ?k_8)
      rintro _ _ ⟨rfl, rfl⟩
      refine nm ?_
      exact fi (σ := []) rfl
    · simp only [boolS] at h_7
      refine nm ?_
      refine ca [] (t := hnew) (k := ?k_9)
      rintro _ _ ⟨x_10, h_11, rfl, rfl⟩
      refine nm ?_
      refine ca [241, 242, 243] (t := (format_w aS oS aS aS)) (k := ?k_12)
      rintro _ _ ⟨x_13, x_14, v_15, v_16, x_17, x_18, x_19, h_20, h_21, h_22, h_23, rfl, rfl⟩
      refine nm ?_
      refine ca [261, 262, 263, 241, 242, 264] (t := (pcommit_w aS oS aS aS aS oS oS)) (k := ?k_24)
      rintro _ _ (⟨x_25, x_26, v_27, v_28, v_29, x_30, x_31, x_32, h_33, h_34, ⟨h_35, h_36⟩, h_37, h_38, h_39, h_40, rfl, rfl⟩ | ⟨v_41, h_42, rfl, rfl⟩)
      · refine nm ?_
        refine' ⟨0, lp (Int × Int) [5, 3, 2, 1] [261, 281, 263, 241, 242, 282, 100] 283 (fun (i, tn) => ([(8, .i .i64 i), (7, .i .i64 tn)], [], ((0 ≤ i ∧ i ≤ m1) ∧ (0 ≤ tn ∧ tn ≤ i) ∧ (tn = chN m0 qk qn qb lk ln lb i.toNat)), (m1 - i).toNat)) (0, 0) ⟨oS, oS, (by rfl)⟩ ?r_43⟩
        rintro ⟨i, tn⟩ ⟨hi, htb, htn⟩
        refine nm ?_
        refine ts ?_ ?_
        · intro e_44
          refine nm ?_
          refine ts ?_ ?_
          · intro e_45 v_46 e_47 v_48 e_49
            refine nm ?_
            exact rn (_, _) (h := ⟨⟨oS, oS⟩, ⟨oS, oS⟩, (by exact tn_up htn hi.1 ‹i + 1 = _› ‹tn + 1 = _› (chg_out (by omega)))⟩)
          · intro e_50 v_51 e_52 v_53 e_54 v_55 e_56 v_57 e_58 s_59 e_60 s_61 e_62
            generalize e_63 : (fun ix => lk (i :: ix)) = c_64
            generalize e_65 : (fun ix => ln (i :: ix)) = c_66
            generalize e_67 : (fun ix => lb (i :: ix)) = c_68
            generalize e_69 : (fun ix => qk (i :: ix)) = c_70
            generalize e_71 : (fun ix => qn (i :: ix)) = c_72
            generalize e_73 : (fun ix => qb (i :: ix)) = c_74
            refine ts ?_ ?_
            · intro e_75 v_76 e_77 v_78 e_79
              refine nm ?_
              exact rn (_, _) (h := ⟨⟨oS, oS⟩, ⟨oS, oS⟩, (by exact tn_up htn hi.1 ‹i + 1 = _› ‹tn + 1 = _› (chg_ne ‹qk [i] = _› ‹qn [i] = _› ‹qb [i] = _› ‹lk [i] = _› ‹ln [i] = _› ‹lb [i] = _› (notT (by have e9 := ‹(_ : Bool) = true›; exact e9))))⟩)
            · intro e_80 v_81 e_82
              refine nm ?_
              exact rn (_, _) (h := ⟨⟨oS, oS⟩, ⟨oS, oS⟩, (by exact tn_no htn hi.1 ‹i + 1 = _› (not_chg ‹i < m0› ‹qk [i] = _› ‹qn [i] = _› ‹qb [i] = _› ‹lk [i] = _› ‹ln [i] = _› ‹lb [i] = _› (notF (by have e9 := ‹(_ : Bool) = false›; exact e9))))⟩)
        · intro e_83
          refine nm ?_
          refine ca [241, 242, 282] (t := (countsB aS)) (k := ?k_84)
          rintro _ _ ⟨v_85, rfl, rfl⟩
          refine nm ?_
          refine ca [261, 281, 263, 241, 242, 282] (t := (pcommit_w aS oS aS aS aS oS oS)) (k := ?k_86)
          rintro _ _ (⟨x_87, x_88, v_89, v_90, v_91, x_92, x_93, x_94, h_95, h_96, ⟨h_97, h_98⟩, h_99, h_100, h_101, h_102, rfl, rfl⟩ | ⟨v_103, h_104, rfl, rfl⟩)
          · refine nm ?_
            refine ca [241, 242, 404] (t := (countsB aS)) (k := ?k_105)
            rintro _ _ ⟨v_106, rfl, rfl⟩
            refine nm ?_
            intro v_107 e_108 v_109 e_110 v_111 e_112
            split
            case h_2 => rename_i hh; exact absurd hh (by simp only [hH]; ((have h8 := htn; rw [show i = m1 by omega, ← chN_congr ‹∀ j : Int, 0 ≤ j → j < m0 → _›] at h8; simp; omega)))
            refine nm ?_
            intro v_113 e_114
            generalize e_115 : H Bool _ = b_116
            simp only [hH] at e_115
            replace e_115 := boolN e_115
            refine ca [] (t := hlv) (k := ?k_117)
            rintro _ _ ⟨rfl, rfl⟩
            refine nm ?_
            exact fi (σ := []) rfl
          · refine nm ?_
            refine ca [241, 242, 282] (t := (countsB aS)) (k := ?k_118)
            rintro _ _ ⟨v_119, rfl, rfl⟩
            refine nm ?_
            refine ca [] (t := hlv) (k := ?k_120)
            rintro _ _ ⟨rfl, rfl⟩
            refine nm ?_
            exact fi (σ := []) rfl
      · refine nm ?_
        refine ca [261, 262, 263, 241, 242, 264] (t := (pagesS oS)) (k := ?k_121)
        rintro _ _ ⟨x_122, x_123, x_124, h_125, rfl, rfl⟩
        refine nm ?_
        refine ca [] (t := hlv) (k := ?k_126)
        rintro _ _ ⟨rfl, rfl⟩
        refine nm ?_
        exact fi (σ := []) rfl
end
end Go.Proofs.Ytilmhjojbolbeaa.AM

namespace Go.Proofs.Ytilmhjojbolbeaa.AM
open Go
/-- arguments of the laws of pager -/
theorem prow_arg {x : V} (h : VOk (.list [.int .i64, .int .i64, .str]) x) : ∃ n a b c, x = .l n [.i .i64 a, .i .i64 b, .s c] false ∧ 0 ≤ n := by
  obtain ⟨n, cs, rfl, ⟨h0, -⟩, hc⟩ := h
  obtain ⟨_, _, rfl, ⟨a, rfl, -⟩, hc1⟩ := COks_cons hc
  obtain ⟨_, _, rfl, ⟨b, rfl, -⟩, hc2⟩ := COks_cons hc1
  obtain ⟨_, _, rfl, ⟨c, rfl, -⟩, hc3⟩ := COks_cons hc2
  obtain rfl := COks_nil hc3
  exact ⟨n, a, b, c, rfl, h0⟩
theorem pint_arg {x : V} (h : VOk (.int .i64) x) : ∃ n, x = .i .i64 n := by
  obtain ⟨n, rfl, -⟩ := h
  exact ⟨n, rfl⟩
theorem pints_arg {x : V} (h : VOk (.list [.int .i64]) x) : ∃ n a, x = .l n [.i .i64 a] false := by
  obtain ⟨n, cs, rfl, ⟨h0, -⟩, hc⟩ := h
  obtain ⟨_, _, rfl, ⟨a, rfl, -⟩, hc1⟩ := COks_cons hc
  obtain rfl := COks_nil hc1
  exact ⟨n, a, rfl⟩
theorem prows_arg {x : V} (h : VOk (.list [.list [.int .i64, .int .i64, .str]]) x) : ∃ N cnt a b c, x = .l N [.l cnt [.i .i64 a, .i .i64 b, .s c]] false ∧ 0 ≤ N ∧ ∀ ix, 0 ≤ cnt ix := by
  obtain ⟨n, cs, rfl, ⟨h0, -⟩, hc⟩ := h
  obtain ⟨_, _, rfl, ⟨cnt, _, rfl, hkn, hk⟩, hc1⟩ := COks_cons hc
  obtain rfl := COks_nil hc1
  obtain ⟨_, _, rfl, ⟨a, rfl, -⟩, hk1⟩ := COks_cons hk
  obtain ⟨_, _, rfl, ⟨b, rfl, -⟩, hk2⟩ := COks_cons hk1
  obtain ⟨_, _, rfl, ⟨c, rfl, -⟩, hk3⟩ := COks_cons hk2
  obtain rfl := COks_nil hk3
  exact ⟨n, cnt, a, b, c, rfl, h0, fun ix => (hkn ix).1⟩
end Go.Proofs.Ytilmhjojbolbeaa.AM

