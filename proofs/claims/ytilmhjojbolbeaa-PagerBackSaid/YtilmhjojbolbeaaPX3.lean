/-
  What functions of the program compute. No condition beside those that each theorem states.
-/
import Derived.Test.YtilmhjojbolbeaaPA1
import Derived.Test.YtilmhjojbolbeaaPX2
import Derived.Test.YtilmhjojbolbeaaPX1
import Derived.Test.YtilmhjojbolbeaaPA5
set_option linter.all false

namespace Go.Proofs.Ytilmhjojbolbeaa.AM
open Go
/-- no pointer -/
abbrev nilp : V := .v (.pointer none)
/-- the numbers of a row -/
def rng (n : Int) (f : Ix → Int) : List Int := (List.range n.toNat).map fun (j : Nat) => f [(j : Int)]
theorem rng_len (n : Int) (f : Ix → Int) : (rng n f).length = n.toNat := by simp [rng]
theorem rng_get {n : Int} {f : Ix → Int} {j : Nat} (h : j < n.toNat) : (rng n f)[j]? = some (f [(j : Int)]) := by simp [rng, h]
theorem rng_lenI {n : Int} (h : 0 ≤ n) (f : Ix → Int) : ((rng n f).length : Int) = n := by rw [rng_len]; omega
theorem rd_rng {n : Int} {f : Ix → Int} {k : Nat} (h : (k : Int) < n) : rd (rng n f) k = f [(k : Int)] := by
  rw [rd_eq, rng_get (by omega)]; rfl
theorem rd_rngI {n j : Int} {f : Ix → Int} (h0 : 0 ≤ j) (h : j < n) : rd (rng n f) j.toNat = f [j] := by
  rw [rd_rng (by omega), Int.toNat_of_nonneg h0]
/-- a row that holds a list -/
theorem rng_eq {n : Int} {f : Ix → Int} {xs : List Int} (hl : (xs.length : Int) = n) (h : ∀ j, 0 ≤ j → j < n → f [j] = rd xs j.toNat) : rng n f = xs := by
  refine ext_rd (by rw [rng_len]; omega) fun j hj => ?_
  rw [rng_len] at hj
  rw [rd_rng (by omega), h j (by omega) (by omega), Int.toNat_natCast]
theorem rng_at {n : Int} {f : Ix → Int} {xs : List Int} (h : rng n f = xs) {j : Int} (h0 : 0 ≤ j) (h1 : j < n) : f [j] = rd xs j.toNat := by
  rw [← h, rd_rngI h0 h1]
theorem rng_congr {n : Int} {f g : Ix → Int} (h : ∀ j, 0 ≤ j → j < n → g [j] = f [j]) : rng n g = rng n f := by
  unfold rng
  apply List.map_congr_left
  intro j hj
  have := List.mem_range.1 hj
  exact h j (by omega) (by omega)
theorem rng_fr0 (n : Int) (f : Ix → Int) : rng n (fun ix => f ((AM.hd ix + 0) :: ix.tail)) = rng n f := rng_congr fun j _ _ => by simp [AM.hd]
theorem rng_zero (f : Ix → Int) : rng 0 f = [] := rfl
end Go.Proofs.Ytilmhjojbolbeaa.AM

namespace Go.Proofs.Ytilmhjojbolbeaa.AM
open Go
set_option maxRecDepth 100000
theorem nil20 : TriS Try.prog 74 [nilp] [] (fun x σ => x = .i .i64 0 ∧ σ = []) := by
  refine tri_of TT_ok mixed (OR := OR0) (fn := Try.f74) (c := body Try.f74) (by kernel_rfl) (by kernel_rfl) (by kernel_rfl) (by kernel_rfl) (by simp [Try.f74]) fun H Tri hH hTri => ?_
  cbv
  exact ⟨_, _, ⟨rfl, rfl⟩, by cbv⟩
theorem nil21 : TriS Try.prog 104 [nilp] [] (fun x σ => x = .i .i64 0 ∧ σ = []) := by
  refine tri_of TT_ok mixed (OR := OR0) (fn := Try.f104) (c := body Try.f104) (by kernel_rfl) (by kernel_rfl) (by kernel_rfl) (by kernel_rfl) (by simp [Try.f104]) fun H Tri hH hTri => ?_
  cbv
  exact ⟨_, _, ⟨rfl, rfl⟩, by cbv⟩
theorem nil16 : TriS Try.prog 67 [nilp] [] (fun x σ => x = .i .i64 1 ∧ σ = []) := by
  refine tri_of TT_ok mixed (OR := OR0) (fn := Try.f67) (c := body Try.f67) (by kernel_rfl) (by kernel_rfl) (by kernel_rfl) (by kernel_rfl) (by simp [Try.f67]) fun H Tri hH hTri => ?_
  cbv
  exact ⟨_, _, ⟨rfl, rfl⟩, by cbv⟩
def OR71 : Nat → List (Nat × List Nat)
  | 11 => [(0, []), (1, []), (2, []), (3, []), (4, []), (5, []), (6, []), (7, []), (8, []), (9, []), (10, []), (11, []), (12, []), (13, []), (14, []), (15, []), (16, []), (17, [14, 15]), (18, []), (19, []), (20, [])]
  | _ => []
theorem nil17 : TriS Try.prog 71 [nilp] [] (fun x σ => x = .tu [.l 0 [] true, .b false] ∧ σ = []) := by
  refine tri_of TT_ok mixed (OR := OR71) (fn := Try.f71) (c := body Try.f71) (by kernel_rfl) (by kernel_rfl) (by kernel_rfl) (by kernel_rfl) (by simp [Try.f71]) fun H Tri hH hTri => ?_
  cbv
  exact ⟨_, _, ⟨rfl, rfl⟩, by cbv⟩
theorem nil14 (a b c : Int) : TriS Try.prog 91 [nilp, .i .i64 a, .i .i64 b, .i .i64 c] [] (fun x σ => x = .tu [nilp, .i .i64 1] ∧ σ = []) := by
  refine tri_of TT_ok mixed (OR := OR0) (fn := Try.f91) (c := body Try.f91) (by kernel_rfl) (by kernel_rfl) (by kernel_rfl) (by kernel_rfl) (by simp [Try.f91]) fun H Tri hH hTri => ?_
  cbv
  exact ⟨_, _, ⟨rfl, rfl⟩, by cbv⟩
theorem nil15 (n : Int) (a b : Ix → Int) (c : Ix → Str) (ff : Bool) : TriS Try.prog 65 [nilp, .l n [.i .i64 a, .i .i64 b, .s c] ff] [] (fun x σ => x = .i .i64 1 ∧ σ = []) := by
  refine tri_of TT_ok mixed (OR := OR0) (fn := Try.f65) (c := body Try.f65) (by kernel_rfl) (by kernel_rfl) (by kernel_rfl) (by kernel_rfl) (by simp [Try.f65]) fun H Tri hH hTri => ?_
  cbv
  exact ⟨_, _, ⟨rfl, rfl⟩, by cbv⟩
end Go.Proofs.Ytilmhjojbolbeaa.AM

namespace Go.Proofs.Ytilmhjojbolbeaa.AM
open Go
set_option maxRecDepth 100000
/-- Scan of a journal without a whole transaction: its first page is blank, or another's -/
theorem scan_none {base size tx L : Int} {D : DK} (hs : 2 ≤ size ∧ size ≤ 999) {E : V}
    (hget : TriS Try.prog 110 [.pt 0 0, .i .i64 0] (jouS 0 1 2 3 base size tx D) (fun r σ => ∃ D', (D'.ok L ∧ D'.n = D.n ∧ ∀ q, D'.at q = D.at q) ∧ r = .tu [E, .b false] ∧ σ = jouS 0 1 2 3 base size tx D')) (hE : ∃ a b c d e f g h, E = entV a b c d e f g h) :
    TriS Try.prog 71 [.pt 0 0] (jouS 0 1 2 3 base size tx D) (fun r σ => ∃ D', (D'.ok L ∧ D'.n = D.n ∧ ∀ q, D'.at q = D.at q) ∧ r = .tu [.l 0 [] true, .b false] ∧ σ = jouS 0 1 2 3 base size tx D') := by
  refine tri_of TT_ok mixed (OR := OR71) (fn := Try.f71) (c := body Try.f71) (by kernel_rfl) (by kernel_rfl) (by kernel_rfl) (by kernel_rfl) (by simp [Try.f71]) fun H Tri hH hTri => ?_
  obtain ⟨a, b, c, d, e, f, g, h, rfl⟩ := hE
  obtain ⟨F, hF⟩ : ∃ F : DK → Prop, F = fun D' => D'.ok L ∧ D'.n = D.n ∧ ∀ q, D'.at q = D.at q := ⟨_, rfl⟩
  have hget' : Tri 110 [.pt 0 0, .i .i64 0] (jouS 0 1 2 3 base size tx D) (fun r σ => ∃ D', F D' ∧ r = .tu [entV a b c d e f g h, .b false] ∧ σ = jouS 0 1 2 3 base size tx D') := by rw [hF]; exact hTri _ _ _ _ hget
  have hRR : (fun (r : V) (σ : Sto) => ∃ D' : DK, (D'.ok L ∧ D'.n = D.n ∧ ∀ q, D'.at q = D.at q) ∧ r = .tu [.l 0 [] true, .b false] ∧ σ = jouS 0 1 2 3 base size tx D') = (fun (r : V) (σ : Sto) => ∃ D' : DK, F D' ∧ r = .tu [.l 0 [] true, .b false] ∧ σ = jouS 0 1 2 3 base size tx D') := by rw [hF]
  rw [hRR]
  clear hRR hget hF
  obtain ⟨n0, m0, k0, r0, w0, f0, pg0, wn0, ws0⟩ := D
  cbv
  refine ⟨2, ?_⟩
  cbv
  split
  case h_2 => rename_i h; exact absurd h (by rw [hH]; simp; omega)
  cbv
  refine ⟨[0, 1, 2, 3], ⟨⟨rfl, rfl⟩, rfl⟩, _, _, ?_, ?_, _, hget', ?_⟩
  · cbv
  · cbv
  rintro x σ ⟨D3, hD3, rfl, rfl⟩
  obtain ⟨n2, m2, k2, r2, w2, f2, pg2, wn2, ws2⟩ := D3
  cbv
  refine ⟨_, _, ⟨⟨n2, m2, k2, r2, w2, f2, pg2, wn2, ws2⟩, hD3, rfl, rfl⟩, ?_⟩
  cbv
/-- Scan of an aborted transaction -/
theorem scan_abort {base size tx L : Int} {D : DK} (hs : 2 ≤ size ∧ size ≤ 999)
    (hget : TriS Try.prog 110 [.pt 0 0, .i .i64 0] (jouS 0 1 2 3 base size tx D) (fun r σ => ∃ D', (D'.ok L ∧ D'.n = D.n ∧ ∀ q, D'.at q = D.at q) ∧ r = .tu [entV 3 tx 0 0 0 [] 0 0, .b true] ∧ σ = jouS 0 1 2 3 base size tx D')) :
    TriS Try.prog 71 [.pt 0 0] (jouS 0 1 2 3 base size tx D) (fun r σ => ∃ D', (D'.ok L ∧ D'.n = D.n ∧ ∀ q, D'.at q = D.at q) ∧ r = .tu [.l 0 [] true, .b false] ∧ σ = jouS 0 1 2 3 base size tx D') := by
  refine tri_of TT_ok mixed (OR := OR71) (fn := Try.f71) (c := body Try.f71) (by kernel_rfl) (by kernel_rfl) (by kernel_rfl) (by kernel_rfl) (by simp [Try.f71]) fun H Tri hH hTri => ?_
  obtain ⟨F, hF⟩ : ∃ F : DK → Prop, F = fun D' => D'.ok L ∧ D'.n = D.n ∧ ∀ q, D'.at q = D.at q := ⟨_, rfl⟩
  have hget' : Tri 110 [.pt 0 0, .i .i64 0] (jouS 0 1 2 3 base size tx D) (fun r σ => ∃ D', F D' ∧ r = .tu [entV 3 tx 0 0 0 [] 0 0, .b true] ∧ σ = jouS 0 1 2 3 base size tx D') := by rw [hF]; exact hTri _ _ _ _ hget
  have hRR : (fun (r : V) (σ : Sto) => ∃ D' : DK, (D'.ok L ∧ D'.n = D.n ∧ ∀ q, D'.at q = D.at q) ∧ r = .tu [.l 0 [] true, .b false] ∧ σ = jouS 0 1 2 3 base size tx D') = (fun (r : V) (σ : Sto) => ∃ D' : DK, F D' ∧ r = .tu [.l 0 [] true, .b false] ∧ σ = jouS 0 1 2 3 base size tx D') := by rw [hF]
  rw [hRR]
  clear hRR hget hF
  obtain ⟨n0, m0, k0, r0, w0, f0, pg0, wn0, ws0⟩ := D
  cbv
  refine ⟨2, ?_⟩
  cbv
  split
  case h_2 => rename_i h; exact absurd h (by rw [hH]; simp; omega)
  cbv
  refine ⟨[0, 1, 2, 3], ⟨⟨rfl, rfl⟩, rfl⟩, _, _, ?_, ?_, _, hget', ?_⟩
  · cbv
  · cbv
  rintro x σ ⟨D3, hD3, rfl, rfl⟩
  obtain ⟨n2, m2, k2, r2, w2, f2, pg2, wn2, ws2⟩ := D3
  cbv
  split
  case h_1 => rename_i h; exact absurd h (by rw [hH]; simp)
  cbv
  split
  case h_1 => rename_i h; exact absurd h (by rw [hH]; simp)
  cbv
  refine ⟨_, _, ⟨⟨n2, m2, k2, r2, w2, f2, pg2, wn2, ws2⟩, hD3, rfl, rfl⟩, ?_⟩
  cbv
/-- what stands on the disk behind a commit -/
def comAt (D : DK) (base tx m : Int) (pk pn : Ix → Int) (pb : Ix → Str) : Prop :=
  (∀ i : Int, 0 ≤ i → i < m → D.at (base + i) = sealF 5 (base + i) (stageF tx i (pk [i]) (pn [i]) (pb [i]))) ∧ D.at (base + m) = sealF 5 (base + m) (commitF tx m (esumF pk pn pb m.toNat))
theorem comAt_congr {D D' : DK} {base tx m : Int} {pk pn : Ix → Int} {pb : Ix → Str} (h : comAt D base tx m pk pn pb) (he : ∀ q, D'.at q = D.at q) : comAt D' base tx m pk pn pb :=
  ⟨fun i h0 h1 => (he _).trans (h.1 i h0 h1), (he _).trans h.2⟩
theorem comAt_of {D D' : DK} {base tx m : Int} {pk pn : Ix → Int} {pb : Ix → Str} (h : ∀ q, D'.at q = comF base tx m pk pn pb D.at q) (hm : 0 ≤ m) : comAt D' base tx m pk pn pb := by
  refine ⟨fun i h0 h1 => ?_, ?_⟩
  · rw [h, comF, if_pos (by omega), show base + i - base = i by omega]
  · rw [h, comF, if_neg (by omega), if_pos rfl]
theorem DK.ok_mono {D : DK} {L L' : Int} (h : D.ok L) (hl : L ≤ L') : D.ok L' := by
  obtain ⟨⟨h1, h2⟩, ⟨h3, h4, h5⟩, h6⟩ := h
  exact ⟨⟨h1, by omega⟩, ⟨by omega, by omega, by omega⟩, h6⟩
theorem scan_some {m : Int} {pk pn : Ix → Int} {pb : Ix → Str} {base size tx L : Int} {D : DK} (hD : D.ok L) (hL : L ≤ 10000000) (hs : 2 ≤ size ∧ size ≤ 999) (ht : 1 ≤ tx ∧ tx ≤ 4294967295) (hb : 0 ≤ base ∧ base + size ≤ D.n) (hm : 0 < m ∧ m ≤ size - 1) (hp : ∀ j : Int, 0 ≤ j → j < m → okP (pk [j]) (pn [j]) (pb [j])) (hc : comAt D base tx m pk pn pb) :
    TriS Try.prog 71 [.pt 0 0] (jouS 0 1 2 3 base size tx D) (fun r σ => ∃ D' pk' pn' pb', (D'.ok (L + 2000) ∧ D'.n = D.n ∧ ∀ q, D'.at q = D.at q) ∧ (∀ j : Int, 0 ≤ j → j < m → pk' [j] = pk [j] ∧ pn' [j] = pn [j] ∧ pb' [j] = pb [j]) ∧ r = .tu [.sl 101 0 m 3 false, .b true] ∧ σ = jouS 0 1 2 3 base size tx D' ++ [(101, .ar m [.i .i64 pk', .i .i64 pn', .s pb'] 73)]) := by
  refine tri_of TT_ok mixed (OR := OR71) (fn := Try.f71) (c := body Try.f71) (by kernel_rfl) (by kernel_rfl) (by kernel_rfl) (by kernel_rfl) (by simp [Try.f71]) fun H Tri hH hTri => ?_
  have hn1000 : D.n ≤ 1000 := hD.1.1.2
  have hst : ∀ (D2 : DK), DK → True := fun _ _ => trivial
  have hrd : ∀ {D2 : DK} {L2 : Int}, D2.ok L2 → ({ D2 with r := D2.r + 1 } : DK).ok (L2 + 1) ∧ ∀ q, ({ D2 with r := D2.r + 1 } : DK).at q = D2.at q := fun {D2 L2} h => by
    obtain ⟨⟨h1, h2⟩, ⟨h3, h4, h5⟩, h6⟩ := h
    refine ⟨⟨⟨h1, ?_⟩, ⟨?_, ?_, ?_⟩, h6⟩, fun q => rfl⟩
    · show 0 ≤ D2.m ∧ D2.m ≤ L2 + 1; omega
    · show 0 ≤ D2.r + 1 ∧ D2.r + 1 ≤ L2 + 1; omega
    · show 0 ≤ D2.w ∧ D2.w ≤ L2 + 1; omega
    · show 0 ≤ D2.f ∧ D2.f ≤ L2 + 1; omega
  have hgs : ∀ (D2 : DK) (i : Int), 0 ≤ i → i < m → D2.ok (L + i) → D2.n = D.n → (∀ q, D2.at q = D.at q) → TriS Try.prog 110 [.pt 0 0, .i .i64 i] (jouS 0 1 2 3 base size tx D2) (fun r σ => ∃ D' v, D' = { D2 with r := D2.r + 1 } ∧ (v = true ↔ tx = tx) ∧ r = .tu [entV 1 tx i (pk [i]) (pn [i]) (pb [i]) 0 0, .b v] ∧ σ = jouS 0 1 2 3 base size tx D') := fun D2 i h0 h1 h2 h3 h4 => by
    obtain ⟨-, -, hbl, -⟩ := hp i h0 h1
    exact jget_seal h2 (by omega) (by omega) (by omega) (by omega) (by rw [stage_len]; omega) ((h4 _).trans (hc.1 i h0 h1)) (decode_stage tx i (pk [i]) (pn [i]) (pb [i]) ht (by omega) (hp i h0 h1))
  have hgc : ∀ (D2 : DK), D2.ok (L + m) → D2.n = D.n → (∀ q, D2.at q = D.at q) → TriS Try.prog 110 [.pt 0 0, .i .i64 m] (jouS 0 1 2 3 base size tx D2) (fun r σ => ∃ D' v, D' = { D2 with r := D2.r + 1 } ∧ (v = true ↔ tx = tx) ∧ r = .tu [entV 2 tx m 0 0 [] m (esumF pk pn pb m.toNat), .b v] ∧ σ = jouS 0 1 2 3 base size tx D') := fun D2 h2 h3 h4 => by
    refine jget_seal h2 (by omega) (by omega) (by omega) (by omega) ?_ ((h4 _).trans hc.2) (decode_commit tx m _ ht (by omega) (esumF_in pk pn pb m.toNat))
    rw [commitF, bytesOf_length]; decide
  obtain ⟨E, hE⟩ : ∃ E : Int, E = esumF pk pn pb m.toNat := ⟨_, rfl⟩
  rw [← hE] at hgc
  obtain ⟨RR, hRR⟩ : ∃ RR : V → Sto → Prop, RR = (fun r σ => ∃ D' pk' pn' pb', (D'.ok (L + 2000) ∧ D'.n = D.n ∧ ∀ q, D'.at q = D.at q) ∧ (∀ j : Int, 0 ≤ j → j < m → pk' [j] = pk [j] ∧ pn' [j] = pn [j] ∧ pb' [j] = pb [j]) ∧ r = .tu [.sl 101 0 m 3 false, .b true] ∧ σ = jouS 0 1 2 3 base size tx D' ++ [(101, .ar m [.i .i64 pk', .i .i64 pn', .s pb'] 73)]) := ⟨_, rfl⟩
  rw [← hRR]
  obtain ⟨D0, hD0⟩ : ∃ D0, D0 = D := ⟨_, rfl⟩
  rw [← hD0]
  obtain ⟨n0, m0, k0, r0, w0, f0, pg0, wn0, ws0⟩ := D0
  cbv
  refine ⟨0, Int × DK × (Ix → Int) × (Ix → Int) × (Ix → Str), fun a => ⟨[(0, .pt 0 0), (4, .sl 101 0 a.1 3 false), (13, .i .i64 size), (14, .i .i64 a.1)], jouS 0 1 2 3 base size tx a.2.1 ++ [(101, .ar a.1 [.i .i64 a.2.2.1, .i .i64 a.2.2.2.1, .s a.2.2.2.2] 73)], 300⟩, fun a => (0 ≤ a.1 ∧ a.1 ≤ m) ∧ (a.2.1.ok (L + a.1) ∧ a.2.1.n = D.n ∧ ∀ q, a.2.1.at q = D.at q) ∧ ∀ j : Int, 0 ≤ j → j < a.1 → a.2.2.1 [j] = pk [j] ∧ a.2.2.2.1 [j] = pn [j] ∧ a.2.2.2.2 [j] = pb [j], fun a => (m - a.1).toNat + 1, ⟨(0, ⟨n0, m0, k0, r0, w0, f0, pg0, wn0, ws0⟩, pk, pn, pb), ?_, ?_⟩, ?_⟩
  · rw [hD0]
    exact ⟨⟨by simp, by simp; omega⟩, ⟨by simpa using hD, rfl, fun q => rfl⟩, fun j h0 h1 => ⟨rfl, rfl, rfl⟩⟩
  · cbv
  · rintro ⟨i, D2, pk2, pn2, pb2⟩ ⟨⟨h0, h1⟩, ⟨h2, h3, h4⟩, h5⟩
    simp only at h0 h1 h2 h3 h4 h5
    by_cases h : i < m
    · have hgi := hgs D2 i h0 h h2 h3 h4
      have hfa : ∀ D3, D3 = ({ D2 with r := D2.r + 1 } : DK) → D3.ok (L + (i + 1)) ∧ D3.n = D.n ∧ ∀ q, D3.at q = D.at q := fun D3 e => by
        rw [e]
        obtain ⟨q1, q2⟩ := hrd h2
        exact ⟨by rw [← Int.add_assoc]; exact q1, h3, fun q => (q2 q).trans (h4 q)⟩
      obtain ⟨n1, m1, k1, r1, w1, f1, pg1, wn1, ws1⟩ := D2
      obtain ⟨kk, hkk⟩ : ∃ kk, kk = pk [i] := ⟨_, rfl⟩
      obtain ⟨nn, hnn⟩ : ∃ nn, nn = pn [i] := ⟨_, rfl⟩
      obtain ⟨bb, hbb⟩ : ∃ bb, bb = pb [i] := ⟨_, rfl⟩
      rw [← hkk, ← hnn, ← hbb] at hgi
      cbv
      split
      case h_2 => rename_i hh; exact absurd hh (by rw [hH]; simp; omega)
      cbv
      refine ⟨[0, 1, 2, 3], ⟨⟨rfl, rfl⟩, rfl⟩, _, _, ?_, ?_, _, hTri _ _ _ _ hgi, ?_⟩
      · cbv
      · cbv
      rintro x σ ⟨D3, v, hD3, hv, rfl, rfl⟩
      obtain rfl : v = true := hv.2 rfl
      have hfa3 := hfa D3 hD3
      clear hD3
      obtain ⟨n2, m2, k2, r2, w2, f2, pg2, wn2, ws2⟩ := D3
      cbv
      split
      case h_2 => rename_i hh; exact absurd hh (by rw [hH]; simp)
      cbv
      obtain ⟨i2, hi2⟩ : ∃ i2, i2 = i + 1 := ⟨_, rfl⟩
      have e1 : IntKind.i64.wrap (i + 1) = i2 := by rw [hi2]; exact IntWalk.i64_in _ (by omega)
      have hc3 : ∀ j : Int, 0 ≤ j → j < i2 → (bif decide (hd [j] < i) then pk2 [j] else kk) = pk [j] ∧ (bif decide (hd [j] < i) then pn2 [j] else nn) = pn [j] ∧ (bif decide (hd [j] < i) then pb2 [j] else bb) = pb [j] := fun j j0 j1 => by
        by_cases hji : j < i
        · rw [show decide (hd [j] < i) = true from decide_eq_true hji]; exact h5 j j0 hji
        · rw [show decide (hd [j] < i) = false from decide_eq_false hji, show j = i by omega]; exact ⟨hkk, hnn, hbb⟩
      obtain ⟨pk3, hk3⟩ : ∃ pk3 : Ix → Int, pk3 = fun ix => bif decide (hd ix < i) then pk2 ix else kk := ⟨_, rfl⟩
      obtain ⟨pn3, hn3⟩ : ∃ pn3 : Ix → Int, pn3 = fun ix => bif decide (hd ix < i) then pn2 ix else nn := ⟨_, rfl⟩
      obtain ⟨pb3, hb3⟩ : ∃ pb3 : Ix → Str, pb3 = fun ix => bif decide (hd ix < i) then pb2 ix else bb := ⟨_, rfl⟩
      have hc4 : ∀ j : Int, 0 ≤ j → j < i2 → pk3 [j] = pk [j] ∧ pn3 [j] = pn [j] ∧ pb3 [j] = pb [j] := fun j j0 j1 => by
        rw [hk3, hn3, hb3]; exact hc3 j j0 j1
      rw [e1, ← hi2, ← hk3, ← hn3, ← hb3]
      refine ⟨by rw [hH]; rfl, by rw [hH]; simp; omega, ?_⟩
      rw [hH Int i2]
      rw [← hi2] at hfa3
      refine ⟨(i2, ⟨n2, m2, k2, r2, w2, f2, pg2, wn2, ws2⟩, pk3, pn3, pb3), ⟨⟨by simp only; omega, by simp only; omega⟩, hfa3, hc4⟩, by simp only; omega, ?_⟩
      cbv
    · obtain rfl : i = m := by omega
      have hgi := hgc D2 h2 h3 h4
      have hfa : ∀ D3, D3 = ({ D2 with r := D2.r + 1 } : DK) → D3.ok (L + 2000) ∧ D3.n = D.n ∧ ∀ q, D3.at q = D.at q := fun D3 e => by
        rw [e]
        obtain ⟨q1, q2⟩ := hrd h2
        exact ⟨DK.ok_mono q1 (by omega), h3, fun q => (q2 q).trans (h4 q)⟩
      have hsum : ∀ (a b : Ix → Int) (c : Ix → Str), (∀ j : Int, 0 ≤ j → j < i → a [j] = pk [j] ∧ b [j] = pn [j] ∧ c [j] = pb [j]) → TriS Try.prog 106 [.l i [.i .i64 a, .i .i64 b, .s c] false] [] (fun r σ => ∃ v, v = E ∧ r = .i .u32 v ∧ σ = []) := fun a b c ha => by
        have := entry_sum i a b c false (by omega) (fun j j0 j1 => by obtain ⟨q1, q2, q3⟩ := ha j j0 j1; rw [q1, q2, q3]; exact hp j j0 j1)
        rwa [show esumF a b c i.toNat = E by rw [hE]; exact esumF_congr fun j j0 j1 => ha j j0 (by omega)] at this
      have h6 : ∀ j : Int, 0 ≤ j → j < i → pk2 [j + 0] = pk [j] ∧ pn2 [j + 0] = pn [j] ∧ pb2 [j + 0] = pb [j] := fun j j0 j1 => by rw [Int.add_zero]; exact h5 j j0 j1
      obtain ⟨n1, m1, k1, r1, w1, f1, pg1, wn1, ws1⟩ := D2
      cbv
      split
      case h_2 => rename_i hh; exact absurd hh (by rw [hH]; simp; omega)
      cbv
      refine ⟨[0, 1, 2, 3], ⟨⟨rfl, rfl⟩, rfl⟩, _, _, ?_, ?_, _, hTri _ _ _ _ hgi, ?_⟩
      · cbv
      · cbv
      rintro x σ ⟨D3, v, hD3, hv, rfl, rfl⟩
      obtain rfl : v = true := hv.2 rfl
      have hfa3 := hfa D3 hD3
      clear hD3
      obtain ⟨n2, m2, k2, r2, w2, f2, pg2, wn2, ws2⟩ := D3
      cbv
      split
      case h_1 => rename_i hh; exact absurd hh (by rw [hH]; simp)
      cbv
      split
      case h_2 => rename_i hh; exact absurd hh (by rw [hH]; simp)
      cbv
      split
      case h_2 => rename_i hh; exact absurd hh (by rw [hH]; simp; omega)
      cbv
      split
      case h_2 => rename_i hh; exact absurd hh (by rw [hH]; simp)
      cbv
      refine ⟨[], ⟨⟨rfl, rfl⟩, rfl⟩, _, _, ?_, ?_, _, hTri _ _ _ _ (hsum (fun ix => pk2 ((hd ix + 0) :: ix.tail)) (fun ix => pn2 ((hd ix + 0) :: ix.tail)) (fun ix => pb2 ((hd ix + 0) :: ix.tail)) h6), ?_⟩
      · cbv
      · cbv
      rintro x σ ⟨E2, hE2, rfl, rfl⟩
      cbv
      split
      case h_2 => rename_i hh; exact absurd hh (by rw [hH]; simp; omega)
      cbv
      refine ⟨.tu [.sl 101 0 i 3 false, .b true], jouS 0 1 2 3 base size tx ⟨n2, m2, k2, r2, w2, f2, pg2, wn2, ws2⟩ ++ [(101, .ar i [.i .i64 pk2, .i .i64 pn2, .s pb2] 73)], ?_, ?_⟩
      · rw [hRR]; exact ⟨_, pk2, pn2, pb2, hfa3, fun j j0 j1 => h5 j j0 j1, rfl, rfl⟩
      cbv
end Go.Proofs.Ytilmhjojbolbeaa.AM

namespace Go.Proofs.Ytilmhjojbolbeaa.AM
open Go
set_option maxRecDepth 100000
def OR31 : Nat → List (Nat × List Nat)
  | 6 => [(0, []), (1, []), (2, []), (3, []), (4, []), (5, []), (6, []), (7, []), (8, [])]
  | _ => []
theorem pages_tri (n n' : Int) (a b : Ix → Int) (c : Ix → Str) (a' b' : Ix → Int) (c' : Ix → Str) (f f' : Bool) (hn : 0 ≤ n ∧ n ≤ 1000000000) (hn' : 0 ≤ n') :
    TriS Try.prog 31 [.l n [.i .i64 a, .i .i64 b, .s c] f, .l n' [.i .i64 a', .i .i64 b', .s c'] f'] [] (fun r σ => ∃ t : Bool, (t = true ↔ n = n' ∧ ∀ j : Int, 0 ≤ j → j < n → a [j] = a' [j] ∧ b [j] = b' [j] ∧ c [j] = c' [j]) ∧ r = .b t ∧ σ = []) := by
  refine tri_of TT_ok mixed (OR := OR31) (fn := Try.f31) (c := body Try.f31) (by kernel_rfl) (by kernel_rfl) (by kernel_rfl) (by kernel_rfl) (by simp [Try.f31]) fun H Tri hH hTri => ?_
  cbv
  split
  case h_1 =>
    rename_i h
    have h : ¬ n = n' := by rw [hH] at h; simpa using h
    cbv
    exact fin_b ⟨false, by simp only [Bool.false_eq_true, false_iff]; exact fun e => h e.1, rfl, rfl⟩
  rename_i h
  obtain rfl : n = n' := by rw [hH] at h; simpa using h
  cbv
  refine ⟨0, Int, fun i => ⟨[(0, .l n [.i .i64 a, .i .i64 b, .s c] f), (1, .l n [.i .i64 a', .i .i64 b', .s c'] f'), (5, .i .i64 i)], [], 200⟩, fun i => 0 ≤ i ∧ i ≤ n ∧ ∀ j : Int, 0 ≤ j → j < i → a [j] = a' [j] ∧ b [j] = b' [j] ∧ c [j] = c' [j], fun i => (n - i).toNat, ⟨0, ⟨by omega, by omega, fun j _ _ => by omega⟩, ?_⟩, ?_⟩
  · cbv
    cases f <;> cases f' <;> simp
  · rintro i ⟨h0, h1, h2⟩
    cbv
    split
    · rename_i h
      simp only [hH, decide_eq_true_eq] at h
      cbv
      simp only [hH, decide_eq_true h]
      refine ⟨by simp; omega, by simp; omega, ?_⟩
      by_cases he : a [i] = a' [i] ∧ b [i] = b' [i] ∧ c [i] = c' [i]
      · simp only [decide_eq_true he.1, decide_eq_true he.2.1, decide_eq_true he.2.2]
        cbv
        have e1 : IntKind.i64.wrap (i + 1) = i + 1 := IntWalk.i64_in _ (by omega)
        obtain ⟨i2, hi2⟩ : ∃ i2, i2 = i + 1 := ⟨_, rfl⟩
        rw [e1, ← hi2]
        refine ⟨i2, ⟨by omega, by omega, fun j j0 j1 => ?_⟩, by omega, ?_⟩
        · by_cases e : j = i
          · subst e; exact he
          · exact h2 j j0 (by omega)
        · cbv
          cases f <;> cases f' <;> simp [hH]
      · have hend : ∃ t : Bool, (t = true ↔ True ∧ ∀ j : Int, 0 ≤ j → j < n → a [j] = a' [j] ∧ b [j] = b' [j] ∧ c [j] = c' [j]) ∧ V.b false = .b t ∧ ([] : Sto) = [] := ⟨false, by simp only [Bool.false_eq_true, false_iff]; exact fun e => he (e.2 i h0 h), rfl, rfl⟩
        by_cases p1 : a [i] = a' [i]
        · by_cases p2 : b [i] = b' [i]
          · have p3 : ¬ c [i] = c' [i] := fun e => he ⟨p1, p2, e⟩
            simp only [decide_eq_true p1, decide_eq_true p2, decide_eq_false p3]
            cbv
            exact fin_b hend
          · simp only [decide_eq_true p1, decide_eq_false p2]
            cbv
            exact fin_b hend
        · simp only [decide_eq_false p1]
          cbv
          exact fin_b hend
    · rename_i h
      simp only [hH, decide_eq_false_iff_not] at h
      cbv
      exact fin_b ⟨true, by simp; exact fun j j0 j1 => h2 j j0 (by omega), rfl, rfl⟩
end Go.Proofs.Ytilmhjojbolbeaa.AM

namespace Go.Proofs.Ytilmhjojbolbeaa.AM
open Go
set_option maxRecDepth 100000
theorem jtx (base size tx : Int) (D : DK) : TriS Try.prog 74 [.pt 0 0] (jouS 0 1 2 3 base size tx D) (fun r σ => ∃ v, v = tx ∧ r = .i .i64 v ∧ σ = jouS 0 1 2 3 base size tx D) := by
  refine tri_of TT_ok mixed (OR := OR0) (fn := Try.f74) (c := body Try.f74) (by kernel_rfl) (by kernel_rfl) (by kernel_rfl) (by kernel_rfl) (by simp [Try.f74]) fun H Tri hH hTri => ?_
  obtain ⟨n0, m0, k0, r0, w0, f0, pg0, wn0, ws0⟩ := D
  cbv
  refine ⟨_, _, ⟨_, rfl, rfl, rfl⟩, ?_⟩
  cbv
theorem jnext (base size tx : Int) (D : DK) (ht : 1 ≤ tx ∧ tx < 4294967295) : TriS Try.prog 67 [.pt 0 0] (jouS 0 1 2 3 base size tx D) (fun r σ => ∃ t, t = tx + 1 ∧ r = .i .i64 0 ∧ σ = jouS 0 1 2 3 base size t D) := by
  refine tri_of TT_ok mixed (OR := OR0) (fn := Try.f67) (c := body Try.f67) (by kernel_rfl) (by kernel_rfl) (by kernel_rfl) (by kernel_rfl) (by simp [Try.f67]) fun H Tri hH hTri => ?_
  obtain ⟨n0, m0, k0, r0, w0, f0, pg0, wn0, ws0⟩ := D
  have e1 : IntKind.i64.wrap (tx + 1) = tx + 1 := IntWalk.i64_in _ (by omega)
  cbv
  split
  case h_1 => rename_i h; exact absurd h (by rw [hH]; simp; omega)
  cbv
  obtain ⟨t2, ht2⟩ : ∃ t2, t2 = tx + 1 := ⟨_, rfl⟩
  rw [e1, ← ht2, hH Int]
  refine ⟨_, _, ⟨_, rfl, rfl, rfl⟩, ?_⟩
  cbv
theorem jnext_bad (base size tx : Int) (D : DK) (ht : tx = 4294967295) : TriS Try.prog 67 [.pt 0 0] (jouS 0 1 2 3 base size tx D) (fun r σ => r = .i .i64 1 ∧ σ = jouS 0 1 2 3 base size tx D) := by
  refine tri_of TT_ok mixed (OR := OR0) (fn := Try.f67) (c := body Try.f67) (by kernel_rfl) (by kernel_rfl) (by kernel_rfl) (by kernel_rfl) (by simp [Try.f67]) fun H Tri hH hTri => ?_
  obtain ⟨n0, m0, k0, r0, w0, f0, pg0, wn0, ws0⟩ := D
  cbv
  split
  case h_2 => rename_i h; exact absurd h (by rw [hH]; simp; omega)
  cbv
  refine ⟨_, _, ⟨rfl, rfl⟩, ?_⟩
  cbv
end Go.Proofs.Ytilmhjojbolbeaa.AM

namespace Go.Proofs.Ytilmhjojbolbeaa.AM
open Go
set_option maxRecDepth 100000
theorem size_tri (n m k r w f u : Int) (pg : Ix → Str) (wn : Ix → Int) (ws : Ix → Str) :
    TriS Try.prog 90 [.pt 0 0] (diskS 0 1 2 n m k r w f u pg wn ws) (fun x σ => x = .i .i64 n ∧ σ = diskS 0 1 2 n m k r w f u pg wn ws) := by
  refine tri_of TT_ok mixed (OR := OR0) (fn := Try.f90) (c := body Try.f90) (by kernel_rfl) (by kernel_rfl) (by kernel_rfl) (by kernel_rfl) (by simp [Try.f90]) fun H Tri hH hTri => ?_
  cbv
  refine ⟨_, _, ⟨rfl, rfl⟩, ?_⟩
  cbv
def OR35 : Nat → List (Nat × List Nat)
  | 3 => [(0, []), (1, []), (2, []), (3, []), (4, []), (5, []), (6, []), (7, []), (8, []), (9, []), (10, []), (11, []), (12, [4, 5, 6, 7, 8, 9, 10, 11]), (13, [8, 9, 10, 11]), (14, [])]
  | _ => []
theorem counts_tri (n m k r w f u : Int) (pg : Ix → Str) (wn : Ix → Int) (ws : Ix → Str) :
    TriS Try.prog 35 [.pt 0 0] (diskS 0 1 2 n m k r w f u pg wn ws) (fun x σ => x = .tu [.i .i64 r, .i .i64 w, .i .i64 f] ∧ σ = diskS 0 1 2 n m k r w f u pg wn ws) := by
  refine tri_of TT_ok mixed (OR := OR35) (fn := Try.f35) (c := body Try.f35) (by kernel_rfl) (by kernel_rfl) (by kernel_rfl) (by kernel_rfl) (by simp [Try.f35]) fun H Tri hH hTri => ?_
  cbv
  refine ⟨_, _, ⟨rfl, rfl⟩, ?_⟩
  cbv
end Go.Proofs.Ytilmhjojbolbeaa.AM

namespace Go.Proofs.Ytilmhjojbolbeaa.AM
open Go
set_option maxRecDepth 100000
/-- which places a journal takes -/
def jplace (n base size tx : Int) : Prop := (2 ≤ size ∧ size ≤ 999) ∧ (0 ≤ base ∧ base ≤ n - size) ∧ 1 ≤ tx ∧ tx ≤ 4294967295
theorem jnew {base size tx L : Int} {D : DK} (hD : D.ok L) (h : jplace D.n base size tx) :
    TriS Try.prog 91 [.pt 0 0, .i .i64 base, .i .i64 size, .i .i64 tx] (D.S 0 1 2) (fun r σ => r = .tu [.pt 100 0, .i .i64 0] ∧ σ = jouS 100 0 1 2 base size tx D) := by
  refine tri_of TT_ok mixed (OR := OR0) (fn := Try.f91) (c := body Try.f91) (by kernel_rfl) (by kernel_rfl) (by kernel_rfl) (by kernel_rfl) (by simp [Try.f91]) fun H Tri hH hTri => ?_
  have hsz := size_tri D.n D.m D.k D.r D.w D.f (-1) D.pg D.wn D.ws
  obtain ⟨⟨h1, h2⟩, ⟨h3, h4⟩, h5, h6⟩ := h
  have hn := hD.1.1
  obtain ⟨n0, m0, k0, r0, w0, f0, pg0, wn0, ws0⟩ := D
  simp only at h4 hn hsz
  have e1 : IntKind.i64.wrap (n0 - size) = n0 - size := IntWalk.i64_in _ (by omega)
  cbv
  split
  case h_1 => rename_i h; exact absurd h (by rw [hH]; simp; omega)
  cbv
  split
  case h_1 => rename_i h; exact absurd h (by rw [hH]; simp; omega)
  cbv
  split
  case h_1 => rename_i h; exact absurd h (by rw [hH]; simp; omega)
  cbv
  refine ⟨[0, 1, 2], ⟨⟨rfl, rfl⟩, rfl⟩, _, _, ?_, ?_, _, hTri _ _ _ _ hsz, ?_⟩
  · cbv
  · cbv
  rintro x σ ⟨rfl, rfl⟩
  obtain ⟨q, hq⟩ : ∃ q, q = n0 - size := ⟨_, rfl⟩
  cbv
  rw [e1, ← hq]
  split
  case h_1 => rename_i h; exact absurd h (by rw [hH, hH]; simp; omega)
  cbv
  split
  case h_1 => rename_i h; exact absurd h (by rw [hH]; simp; omega)
  cbv
  split
  case h_1 => rename_i h; exact absurd h (by rw [hH]; simp; omega)
  cbv
  refine ⟨_, _, ⟨rfl, rfl⟩, ?_⟩
  cbv
theorem jnew_bad {base size tx L : Int} {D : DK} (hD : D.ok L) (h : ¬ jplace D.n base size tx) :
    TriS Try.prog 91 [.pt 0 0, .i .i64 base, .i .i64 size, .i .i64 tx] (D.S 0 1 2) (fun r σ => r = .tu [nilp, .i .i64 1] ∧ σ = D.S 0 1 2) := by
  refine tri_of TT_ok mixed (OR := OR0) (fn := Try.f91) (c := body Try.f91) (by kernel_rfl) (by kernel_rfl) (by kernel_rfl) (by kernel_rfl) (by simp [Try.f91]) fun H Tri hH hTri => ?_
  have hsz := size_tri D.n D.m D.k D.r D.w D.f (-1) D.pg D.wn D.ws
  have hn := hD.1.1
  obtain ⟨n0, m0, k0, r0, w0, f0, pg0, wn0, ws0⟩ := D
  simp only [jplace] at h hn hsz
  cbv
  split
  · cbv
    exact ⟨_, _, ⟨rfl, rfl⟩, by cbv⟩
  rename_i h1
  have h1 : ¬ size < 2 := by rw [hH] at h1; simpa using h1
  cbv
  split
  · cbv
    exact ⟨_, _, ⟨rfl, rfl⟩, by cbv⟩
  rename_i h2
  have h2 : ¬ 999 < size := by rw [hH] at h2; simpa using h2
  cbv
  split
  · cbv
    exact ⟨_, _, ⟨rfl, rfl⟩, by cbv⟩
  rename_i h3
  have h3 : ¬ base < 0 := by rw [hH] at h3; simpa using h3
  have e1 : IntKind.i64.wrap (n0 - size) = n0 - size := IntWalk.i64_in _ (by omega)
  cbv
  refine ⟨[0, 1, 2], ⟨⟨rfl, rfl⟩, rfl⟩, _, _, ?_, ?_, _, hTri _ _ _ _ hsz, ?_⟩
  · cbv
  · cbv
  rintro x σ ⟨rfl, rfl⟩
  obtain ⟨q, hq⟩ : ∃ q, q = n0 - size := ⟨_, rfl⟩
  cbv
  rw [e1, ← hq]
  split
  · cbv
    exact ⟨_, _, ⟨rfl, rfl⟩, by cbv⟩
  rename_i h4
  have h4 : ¬ q < base := by rw [hH, hH] at h4; simpa using h4
  cbv
  split
  · cbv
    exact ⟨_, _, ⟨rfl, rfl⟩, by cbv⟩
  rename_i h5
  have h5 : ¬ tx < 1 := by rw [hH] at h5; simpa using h5
  cbv
  split
  · cbv
    exact ⟨_, _, ⟨rfl, rfl⟩, by cbv⟩
  rename_i h6
  have h6 : ¬ 4294967295 < tx := by rw [hH] at h6; simpa using h6
  exact absurd ⟨⟨by omega, by omega⟩, ⟨by omega, by omega⟩, by omega, by omega⟩ h
end Go.Proofs.Ytilmhjojbolbeaa.AM

namespace Go.Proofs.Ytilmhjojbolbeaa.AM
open Go
set_option maxRecDepth 100000
theorem TriS.mono {P : Program} {f : FuncId} {xs : List V} {σ : Sto} {R R' : V → Sto → Prop} (h : TriS P f xs σ R) (hR : ∀ r σ', R r σ' → R' r σ') : TriS P f xs σ R' :=
  ⟨h.1, fun X g w vs hX hob hvs => (h.2 X g w vs hX hob hvs).mono (by
    rintro e w' ⟨r, σ', g', v, h1, rest⟩
    exact ⟨r, σ', g', v, hR r σ' h1, rest⟩)⟩
theorem badlen (s : Str) : TriS Try.prog 86 [.s s] [] (fun r σ => ∃ v : Bool, (v = true ↔ s.length ≠ 256) ∧ r = .b v ∧ σ = []) := by
  refine tri_of TT_ok mixed (OR := OR0) (fn := Try.f86) (c := body Try.f86) (by kernel_rfl) (by kernel_rfl) (by kernel_rfl) (by kernel_rfl) (by simp [Try.f86]) fun H Tri hH hTri => ?_
  obtain ⟨L, hL⟩ : ∃ L : Int, L = NatCast.natCast s.length := ⟨_, rfl⟩
  cbv
  rw [← hL, hH, hH]
  have h := castN hL
  refine fin_b ⟨decide ¬ L = 256, ?_, rfl, rfl⟩
  rw [decide_eq_true_iff]
  omega
theorem sindex (m : Int) (c : Ix → Str) (full : Bool) (hm : 0 ≤ m ∧ m ≤ 1000000000) : TriS Try.prog 121 [.l m [.s c] full, .fn (.func 86) []] []
    (fun r σ => ∃ v : Int, ((0 ≤ v ∧ v < m ∧ (c [v]).length ≠ 256) ∨ (v = -1 ∧ ∀ j : Int, 0 ≤ j → j < m → (c [j]).length = 256)) ∧ r = .i .i64 v ∧ σ = []) := by
  refine tri_of TT_ok mixed (OR := OR0) (fn := Try.f121) (c := body Try.f121) (by kernel_rfl) (by kernel_rfl) (by kernel_rfl) (by kernel_rfl) (by simp [Try.f121]) fun H Tri hH hTri => ?_
  cbv
  obtain ⟨Q, hQ⟩ : ∃ Q : Str → Prop, Q = fun s => s.length = 256 := ⟨_, rfl⟩
  have hst : ∀ s, Tri 86 [.s s] [] (fun r σ => ∃ v : Bool, (v = true ↔ ¬ Q s) ∧ r = .b v ∧ σ = []) := fun s => by rw [hQ]; exact hTri _ _ _ _ (badlen s)
  rw [show (fun (r : V) (σ : Sto) => ∃ v : Int, ((0 ≤ v ∧ v < m ∧ (c [v]).length ≠ 256) ∨ (v = -1 ∧ ∀ j : Int, 0 ≤ j → j < m → (c [j]).length = 256)) ∧ r = .i .i64 v ∧ σ = []) = (fun (r : V) (σ : Sto) => ∃ v : Int, ((0 ≤ v ∧ v < m ∧ ¬ Q (c [v])) ∨ (v = -1 ∧ ∀ j : Int, 0 ≤ j → j < m → Q (c [j]))) ∧ r = .i .i64 v ∧ σ = []) by rw [hQ]]
  clear hQ
  refine ⟨0, Int, fun a => ⟨[(0, .l m [.s c] full), (1, .fn (.func 86) []), (7, .i .i64 m), (8, .i .i64 a)], [], 200⟩, fun a => 0 ≤ a ∧ a ≤ m ∧ ∀ j : Int, 0 ≤ j → j < a → Q (c [j]), fun a => (m - a).toNat, ⟨0, ⟨by omega, by omega, fun j h0 h1 => by omega⟩, ?_⟩, ?_⟩
  · cbv
    cases full <;> simp
  · rintro i ⟨h0, h1, hv⟩
    cbv
    split
    · rename_i h
      simp only [hH, decide_eq_true_eq] at h
      cbv
      simp only [hH, decide_eq_true h]
      refine ⟨by simp; omega, [], ⟨⟨rfl, rfl⟩, rfl⟩, _, _, ?_, ?_, _, hst (c [i]), ?_⟩
      · cbv
      · cbv
      rintro x σ ⟨v, hv2, rfl, rfl⟩
      cases v with
      | true =>
        cbv
        exact fin_i ⟨i, .inl ⟨h0, h, hv2.1 rfl⟩, rfl, rfl⟩
      | false =>
        cbv
        have e1 : IntKind.i64.wrap (i + 1) = i + 1 := IntWalk.i64_in _ (by omega)
        obtain ⟨i2, hi2⟩ : ∃ i2, i2 = i + 1 := ⟨_, rfl⟩
        rw [e1, ← hi2]
        refine ⟨i2, ⟨by omega, by omega, fun j j0 j1 => ?_⟩, by omega, ?_⟩
        · by_cases e : j = i
          · subst e; exact Classical.byContradiction fun hn => by have := hv2.2 hn; cases this
          · exact hv j j0 (by omega)
        · cbv
          rw [hH]
          cases full <;> simp
    · rename_i h
      simp only [hH, decide_eq_false_iff_not] at h
      cbv
      exact fin_i ⟨-1, .inr ⟨rfl, fun j j0 j1 => hv j j0 (by omega)⟩, rfl, rfl⟩
theorem scontains (m : Int) (c : Ix → Str) (full : Bool) (hm : 0 ≤ m ∧ m ≤ 1000000000) : TriS Try.prog 85 [.l m [.s c] full, .fn (.func 86) []] []
    (fun r σ => ∃ v : Bool, (v = false ↔ ∀ j : Int, 0 ≤ j → j < m → (c [j]).length = 256) ∧ r = .b v ∧ σ = []) := by
  refine tri_of TT_ok mixed (OR := OR0) (fn := Try.f85) (c := body Try.f85) (by kernel_rfl) (by kernel_rfl) (by kernel_rfl) (by kernel_rfl) (by simp [Try.f85]) fun H Tri hH hTri => ?_
  have hc := sindex m c full hm
  obtain ⟨Q, hQ⟩ : ∃ Q : Int → Prop, Q = fun v => ((0 ≤ v ∧ v < m ∧ (c [v]).length ≠ 256) ∨ (v = -1 ∧ ∀ j : Int, 0 ≤ j → j < m → (c [j]).length = 256)) := ⟨_, rfl⟩
  have hc : Tri 121 [.l m [.s c] full, .fn (.func 86) []] [] (fun r σ => ∃ v : Int, Q v ∧ r = .i .i64 v ∧ σ = []) := by rw [hQ]; exact hTri _ _ _ _ hc
  obtain ⟨W, hW⟩ : ∃ W : Prop, W = ∀ j : Int, 0 ≤ j → j < m → (c [j]).length = 256 := ⟨_, rfl⟩
  have hQW : ∀ v, Q v → (¬ 0 ≤ v ↔ W) := fun v hv => by
    rw [hW]; rw [hQ] at hv
    rcases hv with ⟨h0, h1, h2⟩ | ⟨rfl, h⟩
    · exact ⟨fun h => absurd h0 h, fun h => absurd (h v h0 h1) h2⟩
    · exact ⟨fun _ => h, fun _ => by omega⟩
  rw [← hW]
  clear hQ hW
  cbv
  refine ⟨[], ⟨⟨rfl, rfl⟩, rfl⟩, _, _, ?_, ?_, _, hc, ?_⟩
  · cbv
  · cbv
  rintro x σ ⟨v, hv, rfl, rfl⟩
  cbv
  rw [hH]
  refine fin_b ⟨decide (0 ≤ v), ?_, rfl, rfl⟩
  rw [decide_eq_false_iff_not]
  exact hQW v hv
theorem sclone (m : Int) (c : Ix → Str) (hm : 1 ≤ m ∧ m ≤ 1000000000) : TriS Try.prog 87 [.l m [.s c] false] []
    (fun r σ => r = .sl 100 0 m 1 false ∧ σ = [(100, .ar m [.s c] 9)]) := by
  refine tri_of TT_ok mixed (OR := OR0) (fn := Try.f87) (c := body Try.f87) (by kernel_rfl) (by kernel_rfl) (by kernel_rfl) (by kernel_rfl) (by simp [Try.f87]) fun H Tri hH hTri => ?_
  cbv
  intro b hb
  obtain rfl : b = false := by cases b with | true => have := hb rfl; omega | false => rfl
  cbv
  refine ⟨by rw [hH]; simp, by rw [hH]; exact decide_eq_true (by show (0 + m) * 16 ≤ 140737488355328; omega), ?_⟩
  rw [Int.zero_add, hH]
  refine ⟨_, _, ⟨rfl, rfl⟩, ?_⟩
  cbv
/-- a disk as it is new -/
def DK.new (n : Int) (c : Ix → Str) : DK := ⟨n, 0, 0, 0, 0, 0, c, fun _ => 0, fun _ => []⟩
theorem DK.new_ok {n : Int} {c : Ix → Str} (h : 1 ≤ n ∧ n ≤ 1000) : (DK.new n c).ok 0 := by
  refine ⟨⟨⟨?_, ?_⟩, ?_⟩, ⟨?_, ?_, ?_⟩, fun j h0 h1 => ?_⟩ <;> simp only [DK.new] at * <;> omega
theorem DK.new_at {n : Int} {c : Ix → Str} (q : Int) : (DK.new n c).at q = c [q] := rfl
theorem disk_of (n : Int) (c : Ix → Str) (hn : 1 ≤ n ∧ n ≤ 1000) (hc : ∀ j : Int, 0 ≤ j → j < n → (c [j]).length = 256) : TriS Try.prog 56 [.l n [.s c] false] []
    (fun r σ => r = .tu [.pt 100 0, .i .i64 0] ∧ σ = (DK.new n c).S 100 101 102) := by
  refine tri_of TT_ok mixed (OR := OR0) (fn := Try.f56) (c := body Try.f56) (by kernel_rfl) (by kernel_rfl) (by kernel_rfl) (by kernel_rfl) (by simp [Try.f56]) fun H Tri hH hTri => ?_
  have hcl := sclone n c (by omega)
  have hct : Tri 85 [.l n [.s c] false, .fn (.func 86) []] [] (fun r σ => r = .b false ∧ σ = []) := by
    have h := scontains n c false (by omega)
    refine hTri _ _ _ _ ⟨h.1, fun X g w vs hX hob hvs => (h.2 X g w vs hX hob hvs).mono ?_⟩
    rintro e w' ⟨r, σ', g', v, ⟨v0, hv0, rfl, rfl⟩, rest⟩
    exact ⟨_, _, g', v, ⟨by rw [hv0.2 hc], rfl⟩, rest⟩
  cbv
  split
  case h_1 => rename_i hh; exact absurd hh (by rw [hH]; simp; try omega)
  cbv
  split
  case h_1 => rename_i hh; exact absurd hh (by rw [hH]; simp; try omega)
  cbv
  refine ⟨[], ⟨⟨rfl, rfl⟩, rfl⟩, _, _, ?_, ?_, _, hct, ?_⟩
  · cbv
  · cbv
  rintro x σ ⟨rfl, rfl⟩
  cbv
  refine ⟨[], ⟨⟨rfl, rfl⟩, rfl⟩, _, _, ?_, ?_, _, hTri _ _ _ _ hcl, ?_⟩
  · cbv
  · cbv
  rintro x σ ⟨rfl, rfl⟩
  cbv
  refine ⟨_, _, ⟨rfl, rfl⟩, ?_⟩
  cbv
theorem disk_of_bad (n : Int) (c : Ix → Str) (hn : 0 ≤ n ∧ n ≤ 1000000000) (hc : ¬ (1 ≤ n ∧ n ≤ 1000 ∧ ∀ j : Int, 0 ≤ j → j < n → (c [j]).length = 256)) : TriS Try.prog 56 [.l n [.s c] false] []
    (fun r σ => r = .tu [nilp, .i .i64 1] ∧ σ = []) := by
  refine tri_of TT_ok mixed (OR := OR0) (fn := Try.f56) (c := body Try.f56) (by kernel_rfl) (by kernel_rfl) (by kernel_rfl) (by kernel_rfl) (by simp [Try.f56]) fun H Tri hH hTri => ?_
  have hct : 1 ≤ n → n ≤ 1000 → Tri 85 [.l n [.s c] false, .fn (.func 86) []] [] (fun r σ => r = .b true ∧ σ = []) := fun a1 a2 => by
    have h := scontains n c false (by omega)
    refine hTri _ _ _ _ ⟨h.1, fun X g w vs hX hob hvs => (h.2 X g w vs hX hob hvs).mono ?_⟩
    rintro e w' ⟨r, σ', g', v, ⟨v0, hv0, rfl, rfl⟩, rest⟩
    refine ⟨_, _, g', v, ⟨?_, rfl⟩, rest⟩
    cases v0 with
    | true => rfl
    | false => exact absurd ⟨a1, a2, hv0.1 rfl⟩ hc
  clear hc
  cbv
  split
  · cbv
    exact ⟨_, _, ⟨rfl, rfl⟩, by cbv⟩
  rename_i h1
  have h1 : ¬ n < 1 := by rw [hH] at h1; simpa using h1
  cbv
  split
  · cbv
    exact ⟨_, _, ⟨rfl, rfl⟩, by cbv⟩
  rename_i h2
  have h2 : ¬ 1000 < n := by rw [hH] at h2; simpa using h2
  have hct := hct (by omega) (by omega)
  cbv
  refine ⟨[], ⟨⟨rfl, rfl⟩, rfl⟩, _, _, ?_, ?_, _, hct, ?_⟩
  · cbv
  · cbv
  rintro x σ ⟨rfl, rfl⟩
  cbv
  exact ⟨_, _, ⟨rfl, rfl⟩, by cbv⟩
def blankC : Ix → Str := fun _ => blankF
theorem blankF_length : blankF.length = 256 := by simp [blankF]
theorem disk_new (n : Int) (hn : 1 ≤ n ∧ n ≤ 1000) : TriS Try.prog 26 [.i .i64 n] []
    (fun r σ => ∃ c : Ix → Str, (∀ j : Int, 0 ≤ j → j < n → c [j] = blankF) ∧ r = .tu [.pt 100 0, .i .i64 0] ∧ σ = (DK.new n c).S 100 101 102) := by
  refine tri_of TT_ok mixed (OR := OR0) (fn := Try.f26) (c := body Try.f26) (by kernel_rfl) (by kernel_rfl) (by kernel_rfl) (by kernel_rfl) (by simp [Try.f26]) fun H Tri hH hTri => ?_
  obtain ⟨z, hz⟩ : ∃ z, z = blankF := ⟨_, rfl⟩
  have hb := blank_tri
  rw [← hz] at hb ⊢
  have hz2 : z.length = 256 := by rw [hz]; exact blankF_length
  have hrep : ∀ c : Ix → Str, c [0] = z → TriS Try.prog 57 [.l 1 [.s c] true, .i .i64 n] [] (fun r σ => ∃ c' : Ix → Str, (∀ j : Int, 0 ≤ j → j < n → c' [j] = z) ∧ r = .sl 100 0 n 1 false ∧ σ = [(100, .ar n [.s c'] 9)]) := fun c h => by
    have := repeat_list n c true hn
    rwa [h] at this
  have hof : ∀ c : Ix → Str, (∀ j : Int, 0 ≤ j → j < n → c [j] = z) → TriS Try.prog 56 [.l n [.s c] false] [] (fun r σ => ∃ c : Ix → Str, (∀ j : Int, 0 ≤ j → j < n → c [j] = z) ∧ r = .tu [.pt 100 0, .i .i64 0] ∧ σ = (DK.new n c).S 100 101 102) := fun c h => by
    refine (disk_of n c hn (fun j h0 h1 => by rw [h j h0 h1]; exact hz2)).mono ?_
    rintro r σ ⟨rfl, rfl⟩
    exact ⟨c, h, rfl, rfl⟩
  clear hz hz2
  cbv
  split
  case h_1 => rename_i hh; exact absurd hh (by rw [hH]; simp; try omega)
  cbv
  split
  case h_1 => rename_i hh; exact absurd hh (by rw [hH]; simp; try omega)
  cbv
  refine ⟨[], ⟨⟨rfl, rfl⟩, rfl⟩, _, _, ?_, ?_, _, hTri _ _ _ _ hb, ?_⟩
  · cbv
  · cbv
  rintro x σ ⟨z', rfl, rfl, rfl⟩
  cbv
  have hrep := hrep (fun _ => z') rfl
  refine ⟨[], ⟨⟨rfl, rfl⟩, rfl⟩, _, _, ?_, ?_, _, hTri _ _ _ _ hrep, ?_⟩
  · cbv
  · cbv
  rintro x σ ⟨c', hc', rfl, rfl⟩
  cbv
  have hof := hof (fun ix => c' ((hd ix + 0) :: ix.tail)) (fun j h0 h1 => by show c' [j + 0] = z'; rw [Int.add_zero]; exact hc' j h0 h1)
  refine ⟨[], ⟨⟨rfl, rfl⟩, rfl⟩, _, _, ?_, ?_, _, hTri _ _ _ _ hof, ?_⟩
  · cbv
  · cbv
  rintro x σ ⟨c2, hc2, rfl, rfl⟩
  cbv
  refine ⟨_, _, ⟨c2, hc2, rfl, rfl⟩, ?_⟩
  cbv
theorem disk_new_bad (n : Int) (hn : ¬ (1 ≤ n ∧ n ≤ 1000)) : TriS Try.prog 26 [.i .i64 n] []
    (fun r σ => r = .tu [nilp, .i .i64 1] ∧ σ = []) := by
  refine tri_of TT_ok mixed (OR := OR0) (fn := Try.f26) (c := body Try.f26) (by kernel_rfl) (by kernel_rfl) (by kernel_rfl) (by kernel_rfl) (by simp [Try.f26]) fun H Tri hH hTri => ?_
  cbv
  split
  · cbv
    exact ⟨_, _, ⟨rfl, rfl⟩, by cbv⟩
  rename_i h1
  have h1 : ¬ n < 1 := by rw [hH] at h1; simpa using h1
  cbv
  split
  · cbv
    exact ⟨_, _, ⟨rfl, rfl⟩, by cbv⟩
  rename_i h2
  have h2 : ¬ 1000 < n := by rw [hH] at h2; simpa using h2
  omega
end Go.Proofs.Ytilmhjojbolbeaa.AM

namespace Go.Proofs.Ytilmhjojbolbeaa.AM
open Go
set_option maxRecDepth 100000
theorem DK.rd {D : DK} {L : Int} (h : D.ok L) : ({ D with r := D.r + 1 } : DK).ok (L + 1) ∧ ∀ q, ({ D with r := D.r + 1 } : DK).at q = D.at q := by
  obtain ⟨⟨h1, h2⟩, ⟨h3, h4, h5⟩, h6⟩ := h
  refine ⟨⟨⟨h1, ?_⟩, ⟨?_, ?_, ?_⟩, h6⟩, fun q => rfl⟩
  · show 0 ≤ D.m ∧ D.m ≤ L + 1; omega
  · show 0 ≤ D.r + 1 ∧ D.r + 1 ≤ L + 1; omega
  · show 0 ≤ D.w ∧ D.w ≤ L + 1; omega
  · show 0 ≤ D.f ∧ D.f ≤ L + 1; omega
/-- Scan where the first page is blank -/
theorem scan_blank {D : DK} {L : Int} (hD : D.ok L) (hL : L ≤ 10000000) {base size tx : Int} (hs : 2 ≤ size ∧ size ≤ 999) (hb : 0 ≤ base ∧ base < D.n) (hc : D.at base = blankF) :
    TriS Try.prog 71 [.pt 0 0] (jouS 0 1 2 3 base size tx D) (fun r σ => ∃ D', (D'.ok (L + 1) ∧ D'.n = D.n ∧ ∀ q, D'.at q = D.at q) ∧ r = .tu [.l 0 [] true, .b false] ∧ σ = jouS 0 1 2 3 base size tx D') := by
  have hn := hD.1.1.2
  refine scan_none (E := entV 0 0 0 0 0 [] 0 0) hs ((jget_blank hD (by omega) (i := 0) (by omega) (by omega) (by omega) (by rw [Int.add_zero]; exact hc)).mono ?_) ⟨_, _, _, _, _, _, _, _, rfl⟩
  rintro r σ ⟨D', rfl, rfl, rfl⟩
  exact ⟨_, ⟨(DK.rd hD).1, rfl, fun q => rfl⟩, rfl, rfl⟩
/-- Scan where the first page is another transaction's -/
theorem scan_other {D : DK} {L : Int} (hD : D.ok L) (hL : L ≤ 10000000) {base size tx : Int} (hs : 2 ≤ size ∧ size ≤ 999) (hb : 0 ≤ base ∧ base < D.n) {bs : Str} (hbs : 0 < bs.length ∧ bs.length ≤ 244) (hc : D.at base = sealF 5 base bs) {kind tx' k n cnt sum : Int} {b : Str}
    (hdec : TriS Try.prog 109 [.s bs] [] (fun r σ => r = .tu [entV kind tx' 0 k n b cnt sum, .i .i64 0] ∧ σ = [])) (hne : tx' ≠ tx) :
    TriS Try.prog 71 [.pt 0 0] (jouS 0 1 2 3 base size tx D) (fun r σ => ∃ D', (D'.ok (L + 1) ∧ D'.n = D.n ∧ ∀ q, D'.at q = D.at q) ∧ r = .tu [.l 0 [] true, .b false] ∧ σ = jouS 0 1 2 3 base size tx D') := by
  have hn := hD.1.1.2
  refine scan_none (E := entV kind tx' 0 k n b cnt sum) hs ((jget_seal hD (by omega) (i := 0) (by omega) (by omega) (by omega) hbs (by rw [Int.add_zero]; exact hc) hdec).mono ?_) ⟨_, _, _, _, _, _, _, _, rfl⟩
  rintro r σ ⟨D', v, rfl, hv, rfl, rfl⟩
  obtain rfl : v = false := by cases v with | true => exact absurd (hv.1 rfl) hne | false => rfl
  exact ⟨_, ⟨(DK.rd hD).1, rfl, fun q => rfl⟩, rfl, rfl⟩
/-- Scan where the first page is that of an Abort of this transaction -/
theorem scan_aborted {D : DK} {L : Int} (hD : D.ok L) (hL : L ≤ 10000000) {base size tx : Int} (hs : 2 ≤ size ∧ size ≤ 999) (hb : 0 ≤ base ∧ base < D.n) (ht : 1 ≤ tx ∧ tx ≤ 4294967295) (hc : D.at base = sealF 5 base (abortF tx)) :
    TriS Try.prog 71 [.pt 0 0] (jouS 0 1 2 3 base size tx D) (fun r σ => ∃ D', (D'.ok (L + 1) ∧ D'.n = D.n ∧ ∀ q, D'.at q = D.at q) ∧ r = .tu [.l 0 [] true, .b false] ∧ σ = jouS 0 1 2 3 base size tx D') := by
  have hn := hD.1.1.2
  refine scan_abort hs ((jget_seal hD (by omega) (i := 0) (by omega) (by omega) (by omega) (by rw [abortF, bytesOf_length]; decide) (by rw [Int.add_zero]; exact hc) (decode_abort tx ht)).mono ?_)
  rintro r σ ⟨D', v, rfl, hv, rfl, rfl⟩
  obtain rfl : v = true := hv.2 rfl
  exact ⟨_, ⟨(DK.rd hD).1, rfl, fun q => rfl⟩, rfl, rfl⟩
end Go.Proofs.Ytilmhjojbolbeaa.AM

namespace Go.Proofs.Ytilmhjojbolbeaa.AM
open Go
set_option maxRecDepth 100000
end Go.Proofs.Ytilmhjojbolbeaa.AM

namespace Go.Proofs.Ytilmhjojbolbeaa.AM
open Go
set_option maxRecDepth 100000
/-- a disk of n pages that shows f -/
structure DA (n L : Int) (f : Int → Str) (D : DK) : Prop where
  ok : D.ok L
  sz : D.n = n
  get : ∀ q, 0 ≤ q → q < n → D.at q = f q
theorem DA.of {n L : Int} {f : Int → Str} {D D' : DK} (h : DA n L f D) {L' : Int} (h1 : D'.ok L') (h2 : D'.n = D.n) (h3 : ∀ q, D'.at q = D.at q) : DA n L' f D' :=
  ⟨h1, h2.trans h.sz, fun q a b => (h3 q).trans (h.get q a b)⟩
theorem newA (n : Int) (f : Int → Str) (hn : 1 ≤ n ∧ n ≤ 1000) (hf : ∀ q, 0 ≤ q → q < n → f q = blankF) : TriS Try.prog 26 [.i .i64 n] []
    (fun r σ => ∃ D : DK, DA n 0 f D ∧ r = .tu [.pt 100 0, .i .i64 0] ∧ σ = D.S 100 101 102) := by
  refine (disk_new n hn).mono ?_
  rintro r σ ⟨c, hc, rfl, rfl⟩
  exact ⟨DK.new n c, ⟨DK.new_ok hn, rfl, fun q h0 h1 => by rw [DK.new_at, hf q h0 h1]; exact hc q h0 h1⟩, rfl, rfl⟩
section
variable {n L base size tx : Int} {f : Int → Str} {D : DK}
theorem jnewA (hD : DA n L f D) (h : jplace n base size tx) :
    TriS Try.prog 91 [.pt 0 0, .i .i64 base, .i .i64 size, .i .i64 tx] (D.S 0 1 2) (fun r σ => r = .tu [.pt 100 0, .i .i64 0] ∧ σ = jouS 100 0 1 2 base size tx D) :=
  jnew hD.ok (by rw [hD.sz]; exact h)
theorem jnewA_bad (hD : DA n L f D) (h : ¬ jplace n base size tx) :
    TriS Try.prog 91 [.pt 0 0, .i .i64 base, .i .i64 size, .i .i64 tx] (D.S 0 1 2) (fun r σ => r = .tu [nilp, .i .i64 1] ∧ σ = D.S 0 1 2) :=
  jnew_bad hD.ok (by rw [hD.sz]; exact h)
theorem scanA_blank (hD : DA n L f D) (hj : jplace n base size tx) (hL : L ≤ 10000000) (L' : Int) (hL' : L' = L + 1) (hc : f base = blankF) :
    TriS Try.prog 71 [.pt 0 0] (jouS 0 1 2 3 base size tx D) (fun r σ => ∃ D', DA n L' f D' ∧ r = .tu [.l 0 [] true, .b false] ∧ σ = jouS 0 1 2 3 base size tx D') := by
  obtain ⟨h1, h2, h3, h4⟩ := hj
  have hn := hD.sz
  refine (scan_blank hD.ok hL h1 (by omega) ((hD.get base (by omega) (by omega)).trans hc)).mono ?_
  rintro r σ ⟨D', ⟨a, b, c⟩, rfl, rfl⟩
  exact ⟨D', hD.of (by rw [hL']; exact a) b c, rfl, rfl⟩
theorem scanA_other (hD : DA n L f D) (hj : jplace n base size tx) (hL : L ≤ 10000000) (L' : Int) (hL' : L' = L + 1) {bs : Str} (hbs : 0 < bs.length ∧ bs.length ≤ 244) (hc : f base = sealF 5 base bs) {kind tx' k k' cnt sum : Int} {b : Str}
    (hdec : TriS Try.prog 109 [.s bs] [] (fun r σ => r = .tu [entV kind tx' 0 k k' b cnt sum, .i .i64 0] ∧ σ = [])) (hne : tx' ≠ tx) :
    TriS Try.prog 71 [.pt 0 0] (jouS 0 1 2 3 base size tx D) (fun r σ => ∃ D', DA n L' f D' ∧ r = .tu [.l 0 [] true, .b false] ∧ σ = jouS 0 1 2 3 base size tx D') := by
  obtain ⟨h1, h2, h3, h4⟩ := hj
  have hn := hD.sz
  refine (scan_other hD.ok hL h1 (by omega) hbs ((hD.get base (by omega) (by omega)).trans hc) hdec hne).mono ?_
  rintro r σ ⟨D', ⟨a, b, c⟩, rfl, rfl⟩
  exact ⟨D', hD.of (by rw [hL']; exact a) b c, rfl, rfl⟩
theorem scanA_aborted (hD : DA n L f D) (hj : jplace n base size tx) (hL : L ≤ 10000000) (L' : Int) (hL' : L' = L + 1) (hc : f base = sealF 5 base (abortF tx)) :
    TriS Try.prog 71 [.pt 0 0] (jouS 0 1 2 3 base size tx D) (fun r σ => ∃ D', DA n L' f D' ∧ r = .tu [.l 0 [] true, .b false] ∧ σ = jouS 0 1 2 3 base size tx D') := by
  obtain ⟨h1, h2, h3, h4⟩ := hj
  have hn := hD.sz
  refine (scan_aborted hD.ok hL h1 (by omega) (by omega) ((hD.get base (by omega) (by omega)).trans hc)).mono ?_
  rintro r σ ⟨D', ⟨a, b, c⟩, rfl, rfl⟩
  exact ⟨D', hD.of (by rw [hL']; exact a) b c, rfl, rfl⟩
/-- what is to be seen behind a commit -/
def comA (f : Int → Str) (base tx m : Int) (pk pn : Ix → Int) (pb : Ix → Str) : Prop :=
  (∀ i : Int, 0 ≤ i → i < m → f (base + i) = sealF 5 (base + i) (stageF tx i (pk [i]) (pn [i]) (pb [i]))) ∧ f (base + m) = sealF 5 (base + m) (commitF tx m (esumF pk pn pb m.toNat))
theorem comA_comF {f : Int → Str} {base tx m : Int} {pk pn : Ix → Int} {pb : Ix → Str} (hm : 0 ≤ m) : comA (comF base tx m pk pn pb f) base tx m pk pn pb := by
  refine ⟨fun i h0 h1 => ?_, ?_⟩
  · rw [comF, if_pos (by omega), show base + i - base = i by omega]
  · rw [comF, if_neg (by omega), if_pos rfl]
theorem comA_first {f : Int → Str} {base tx m : Int} {pk pn : Ix → Int} {pb : Ix → Str} (h : comA f base tx m pk pn pb) (hm : 0 < m) : f base = sealF 5 base (stageF tx 0 (pk [0]) (pn [0]) (pb [0])) := by
  have := h.1 0 (by omega) hm
  rwa [Int.add_zero] at this
theorem comF_congr {f : Int → Str} {base tx m : Int} {pk pn pk' pn' : Ix → Int} {pb pb' : Ix → Str} (hm : 0 ≤ m) (h : ∀ j : Int, 0 ≤ j → j < m → pk [j] = pk' [j] ∧ pn [j] = pn' [j] ∧ pb [j] = pb' [j]) : comF base tx m pk pn pb f = comF base tx m pk' pn' pb' f := by
  funext q
  rw [comF, comF, esumF_congr (fun j h0 h1 => h j h0 (by omega))]
  split
  · rename_i hq
    obtain ⟨a, b, c⟩ := h (q - base) (by omega) (by omega)
    rw [a, b, c]
  · rfl
theorem commitA {m : Int} (pk pn : Ix → Int) (pb : Ix → Str) (full : Bool) (hD : DA n L f D) (hj : jplace n base size tx) (hL : L ≤ 10000000) (L' : Int) (hL' : L' = L + 2000) (hm : 0 < m ∧ m ≤ size - 1) (hp : ∀ j : Int, 0 ≤ j → j < m → okP (pk [j]) (pn [j]) (pb [j])) (f' : Int → Str) (hf' : f' = comF base tx m pk pn pb f) :
    TriS Try.prog 65 [.pt 0 0, .l m [.i .i64 pk, .i .i64 pn, .s pb] full] (jouS 0 1 2 3 base size tx D) (fun r σ => ∃ D', DA n L' f' D' ∧ r = .i .i64 0 ∧ σ = jouS 0 1 2 100 base size tx D') := by
  obtain ⟨h1, h2, h3, h4⟩ := hj
  have hn := hD.sz
  refine (commit_ok m pk pn pb full hD.ok hL h1 (by omega) (by omega) hm hp).mono ?_
  rintro r σ ⟨D', ⟨a, b, c⟩, rfl, rfl⟩
  refine ⟨D', ⟨by rw [hL']; exact a, b.trans hn, fun q q0 q1 => ?_⟩, rfl, rfl⟩
  rw [c, hf', comF, comF]
  split
  · rfl
  · split
    · rfl
    · exact hD.get q q0 q1
theorem scanA_some {m : Int} {pk pn : Ix → Int} {pb : Ix → Str} (hD : DA n L f D) (hj : jplace n base size tx) (hL : L ≤ 10000000) (L' : Int) (hL' : L' = L + 2000) (hm : 0 < m ∧ m ≤ size - 1) (hp : ∀ j : Int, 0 ≤ j → j < m → okP (pk [j]) (pn [j]) (pb [j])) (hc : comA f base tx m pk pn pb) :
    TriS Try.prog 71 [.pt 0 0] (jouS 0 1 2 3 base size tx D) (fun r σ => ∃ D' pk' pn' pb', DA n L' f D' ∧ (∀ j : Int, 0 ≤ j → j < m → pk' [j] = pk [j] ∧ pn' [j] = pn [j] ∧ pb' [j] = pb [j]) ∧ r = .tu [.sl 101 0 m 3 false, .b true] ∧ σ = jouS 0 1 2 3 base size tx D' ++ [(101, .ar m [.i .i64 pk', .i .i64 pn', .s pb'] 73)]) := by
  obtain ⟨h1, h2, h3, h4⟩ := hj
  have hn := hD.sz
  refine (scan_some hD.ok hL h1 (by omega) (by omega) hm hp (pk := pk) (pn := pn) (pb := pb) ⟨fun i h0 h1 => ?_, ?_⟩).mono ?_
  · exact (hD.get _ (by omega) (by omega)).trans (hc.1 i h0 h1)
  · exact (hD.get _ (by omega) (by omega)).trans hc.2
  rintro r σ ⟨D', pk', pn', pb', ⟨a, b, c⟩, h5, rfl, rfl⟩
  exact ⟨D', pk', pn', pb', hD.of (by rw [hL']; exact a) b c, h5, rfl, rfl⟩
theorem commit_nil (D : DK) : TriS Try.prog 65 [.pt 0 0, .l 0 [] true] (jouS 0 1 2 3 base size tx D) (fun r σ => r = .i .i64 1 ∧ σ = jouS 0 1 2 3 base size tx D) := by
  refine tri_of TT_ok mixed (OR := OR0) (fn := Try.f65) (c := body Try.f65) (by kernel_rfl) (by kernel_rfl) (by kernel_rfl) (by kernel_rfl) (by simp [Try.f65]) fun H Tri hH hTri => ?_
  obtain ⟨n0, m0, k0, r0, w0, f0, pg0, wn0, ws0⟩ := D
  cbv
  split
  case h_2 => rename_i hh; exact absurd hh (by rw [hH]; simp; try omega)
  cbv
  exact ⟨_, _, ⟨rfl, rfl⟩, by cbv⟩
end
end Go.Proofs.Ytilmhjojbolbeaa.AM

namespace Go.Proofs.Ytilmhjojbolbeaa.AM
open Go
set_option maxRecDepth 100000
set_option maxHeartbeats 4000000
/-! ### Commit, and how often it writes and flushes -/
section
/-- i entries are written -/
structure CI (D D2 : DK) (L base tx i : Int) (pk pn : Ix → Int) (pb : Ix → Str) : Prop where
  ok : D2.ok (L + i)
  n : D2.n = D.n
  w : D2.w = D.w + i
  f : D2.f = D.f
  get : ∀ q, D2.at q = if base ≤ q ∧ q < base + i then sealF 5 q (stageF tx (q - base) (pk [q - base]) (pn [q - base]) (pb [q - base])) else D.at q
variable {D D2 D3 : DK} {L base tx i i' k n m size : Int} {b : Str} {pk pn : Ix → Int} {pb : Ix → Str}
theorem CI.start (h : D.ok L) : CI D D L base tx 0 pk pn pb := ⟨by simpa using h, rfl, by omega, rfl, fun q => by rw [if_neg (by omega)]⟩
theorem CI.step (h : CI D D2 L base tx i pk pn pb) (e : D3 = D2.wr (base + i) (sealF 5 (base + i) (stageF tx i k n b))) (hi : 0 ≤ i) (hi' : i + 1 = i') (hq : 0 ≤ base + i ∧ base + i < D.n) (hk : pk [i] = k) (hn : pn [i] = n) (hb : pb [i] = b) : CI D D3 L base tx i' pk pn pb := by
  subst hi' e
  refine ⟨by rw [← Int.add_assoc]; exact DK.wr_ok h.ok (by rw [h.n]; exact hq) _, h.n, ?_, h.f, fun q => ?_⟩
  · show D2.w + 1 = _
    rw [h.w]; omega
  · rw [DK.wr_at _ h.ok.1.2.1, h.get]
    by_cases e1 : q = base + i
    · rw [if_pos e1, if_pos (by omega), e1, show base + i - base = i by omega, hk, hn, hb]
    · rw [if_neg e1]
      by_cases e2 : base ≤ q ∧ q < base + i
      · rw [if_pos e2, if_pos (by omega)]
      · rw [if_neg e2, if_neg (by omega)]
theorem CI.nn (h : CI D D2 L base tx i pk pn pb) (hq : 0 ≤ base + i ∧ base + i < D.n) : 0 ≤ base + i ∧ base + i < D2.n := by rw [h.n]; exact hq
theorem put_stage (hD : D.ok L) (hL : L ≤ 100000000) (hb : 0 ≤ base + i ∧ base + i < D.n) (hbb : 0 ≤ base ∧ base ≤ 1000) (hi : 0 ≤ i ∧ i ≤ 999) (ht : 1 ≤ tx ∧ tx ≤ 4294967295) (hp : okP k n b) :
    TriS Try.prog 105 [.pt 0 0, entV 1 0 i k n b 0 0] (jouS 0 1 2 3 base size tx D) (fun r σ => ∃ D', D' = D.wr (base + i) (sealF 5 (base + i) (stageF tx i k n b)) ∧ r = .tu [] ∧ σ = jouS 0 1 2 100 base size tx D') := by
  obtain ⟨-, -, hbl, -⟩ := id hp
  exact jput hD hL hb hbb hi (by rw [stage_len]; omega) (encode_stage tx i k n b ht hi hp)
theorem put_commit {s : Int} (hD : D.ok L) (hL : L ≤ 100000000) (hb : 0 ≤ base + i ∧ base + i < D.n) (hbb : 0 ≤ base ∧ base ≤ 1000) (hi : 0 < i ∧ i ≤ 999) (ht : 1 ≤ tx ∧ tx ≤ 4294967295) (hs : 0 ≤ s ∧ s < 4294967296) :
    TriS Try.prog 105 [.pt 0 0, entV 2 0 i 0 0 [] i s] (jouS 0 1 2 3 base size tx D) (fun r σ => ∃ D', D' = D.wr (base + i) (sealF 5 (base + i) (commitF tx i s)) ∧ r = .tu [] ∧ σ = jouS 0 1 2 100 base size tx D') :=
  jput hD hL hb hbb (by omega) (by rw [commitF, bytesOf_length]; decide) (encode_commit tx i s ht hi hs)
theorem all_staged (full : Bool) (hm : 0 ≤ m ∧ m ≤ 1000000000) (hp : ∀ j : Int, 0 ≤ j → j < m → okP (pk [j]) (pn [j]) (pb [j])) :
    TriS Try.prog 101 [.l m [.i .i64 pk, .i .i64 pn, .s pb] full, .fn (.func 102) []] [] (fun r σ => r = .b false ∧ σ = []) := by
  refine (jcontains m pk pn pb full hm).mono ?_
  rintro r σ ⟨v, hv, rfl, rfl⟩
  exact ⟨by rw [hv.2 hp], rfl⟩
theorem sum_staged (full : Bool) (hm : 0 ≤ m ∧ m ≤ 999) (hp : ∀ j : Int, 0 ≤ j → j < m → okP (pk [j]) (pn [j]) (pb [j])) :
    TriS Try.prog 106 [.l m [.i .i64 pk, .i .i64 pn, .s pb] full] [] (fun r σ => ∃ v, v = esumF pk pn pb m.toNat ∧ (0 ≤ v ∧ v < 4294967296) ∧ r = .i .u32 v ∧ σ = []) :=
  (entry_sum m pk pn pb full hm hp).mono (by rintro r σ ⟨v, h, rfl, rfl⟩; exact ⟨v, h, by rw [h]; exact esumF_in _ _ _ _, rfl, rfl⟩)
theorem CI.fl4 {D4 : DK} {j : Int} {s : Str} (h : CI D D2 L base tx i pk pn pb) (e1 : D2.fl D3) (e2 : D4 = D3.wr j s) (hj : 0 ≤ j ∧ j < D.n) : D4.ok (L + i + 1 + 1) := by
  rw [e2]
  exact DK.wr_ok (DK.fl_ok h.ok e1) (by rw [e1.1.1, h.n]; exact hj) _
/-- what Commit does to the disk -/
structure CO (D D' : DK) (L base tx m : Int) (pk pn : Ix → Int) (pb : Ix → Str) : Prop where
  ok : D'.ok (L + 2000)
  n : D'.n = D.n
  w : D'.w = D.w + m + 1
  f : D'.f = D.f + 2
  get : ∀ q, D'.at q = comF base tx m pk pn pb D.at q
theorem CO.of {D4 D5 : DK} {s : Int} (h : CI D D2 L base tx i pk pn pb) (hi : i = m) (hm : 0 < m ∧ m ≤ 999) (hb : 0 ≤ base ∧ base + m < D.n) (e1 : D2.fl D3) (hs : s = esumF pk pn pb m.toNat) (e2 : D4 = D3.wr (base + m) (sealF 5 (base + m) (commitF tx m s))) (e3 : D4.fl D5) (hL : L ≤ 10000000) : CO D D5 L base tx m pk pn pb := by
  subst hi e2 hs
  have g1 := DK.fl_ok h.ok e1
  have g2 := DK.wr_ok g1 (q := base + i) (by rw [e1.1.1, h.n]; omega) (sealF 5 (base + i) (commitF tx i (esumF pk pn pb i.toNat)))
  obtain ⟨⟨q1, q2⟩, ⟨q3, q4, q5⟩, q6⟩ := DK.fl_ok g2 e3
  refine ⟨⟨⟨q1, by omega⟩, ⟨by omega, by omega, by omega⟩, q6⟩, e3.1.1.trans (e1.1.1.trans h.n), ?_, ?_, fun q => ?_⟩
  · have := e3.2.1.2.1; have := e1.2.1.2.1; have := h.w
    have e4 : (D3.wr (base + i) (sealF 5 (base + i) (commitF tx i (esumF pk pn pb i.toNat)))).w = D3.w + 1 := rfl
    omega
  · have := e3.2.1.2.2; have := e1.2.1.2.2; have := h.f
    have e4 : (D3.wr (base + i) (sealF 5 (base + i) (commitF tx i (esumF pk pn pb i.toNat)))).f = D3.f := rfl
    omega
  · rw [e3.2.2, DK.wr_at _ g1.1.2.1, e1.2.2, h.get, comF]
    by_cases e4 : q = base + i
    · rw [if_pos e4, if_neg (by omega), if_pos e4, e4]
    · rw [if_neg e4, if_neg e4]
theorem flush_D (hD : D.ok L) (hL : L ≤ 100000000) : TriS Try.prog 63 [.pt 0 0] (D.S 0 1 2) (fun r σ => ∃ D' v, D.fl D' ∧ r = .i .i64 v ∧ σ = D'.S 0 1 2) :=
  (jflush hD hL).mono (by rintro r σ ⟨D', h, rfl, rfl⟩; exact ⟨D', _, h, rfl, rfl⟩)
theorem room_D (hs : 2 ≤ size ∧ size ≤ 999) : TriS Try.prog 104 [.pt 0 0] (jouS 0 1 2 3 base size tx D) (fun r σ => ∃ v, v = size - 1 ∧ r = .i .i64 v ∧ σ = jouS 0 1 2 3 base size tx D) := jroom base size tx D hs
theorem commit_cnt (full : Bool) (hD : D.ok L) (hL : L ≤ 10000000) (hs : 2 ≤ size ∧ size ≤ 999) (ht : 1 ≤ tx ∧ tx ≤ 4294967295) (hb : 0 ≤ base ∧ base + size ≤ D.n) (hm : 0 < m ∧ m ≤ size - 1) (hp : ∀ j : Int, 0 ≤ j → j < m → okP (pk [j]) (pn [j]) (pb [j])) :
    TriS Try.prog 65 [.pt 0 0, .l m [.i .i64 pk, .i .i64 pn, .s pb] full] (jouS 0 1 2 3 base size tx D) (fun r σ => ∃ D', CO D D' L base tx m pk pn pb ∧ r = .i .i64 0 ∧ σ = jouS 0 1 2 100 base size tx D') := by
  have hn1000 : D.n ≤ 1000 := hD.1.1.2
  refine trio Try.f65 ORD65 fun H Tri hH hTri => ?_
  refine nm ?_
  refine ca [] (t := (all_staged _ oS aS)) (k := ?k_1)
  rintro _ _ ⟨rfl, rfl⟩
  refine nm ?_
  refine ca [0, 1, 2, 3] (t := (room_D aS)) (k := ?k_2)
  rintro _ _ ⟨v_3, h_4, rfl, rfl⟩
  refine nm ?_
  refine' ⟨0, lp (Int × DK) [26, 25, 4, 0, 1] [] 301 (fun (i, D2) => ([(27, .i .i64 i)], [(0, .st [.pt 1 0, .i .i64 base, .i .i64 size, .i .i64 tx] 159), (1, .st [.sl 2 0 D2.n 1 false, .sl 300 0 D2.m 2 false, .i .i64 D2.r, .i .i64 D2.w, .i .i64 D2.f, .i .i64 (-1)] 128), (2, .ar D2.n [.s D2.pg] 9), (300, .ar D2.k [.i .i64 D2.wn, .s D2.ws] 155)], ((0 ≤ i ∧ i ≤ m) ∧ (CI D D2 L base tx i pk pn pb)), (m - i).toNat)) (0, D) ⟨oS, (by exact CI.start hD)⟩ ?r_5⟩
  rintro ⟨i, D2⟩ ⟨hi, hc⟩
  refine nm ?_
  refine ts ?_ ?_
  · intro e_6 v_7 e_8 v_9 e_10 s_11 e_12
    generalize e_13 : (fun ix => pk (i :: ix)) = c_14
    generalize e_15 : (fun ix => pn (i :: ix)) = c_16
    generalize e_17 : (fun ix => pb (i :: ix)) = c_18
    refine ca [0, 1, 2, 300] (t := (put_stage (by exact hc.ok) oS (by exact hc.nn (by omega)) oS oS aS gS)) (k := ?k_19)
    rintro _ _ ⟨x_20, h_21, rfl, rfl⟩
    refine nm ?_
    intro v_22 e_23
    exact rn (_, ⟨_, _, _, _, _, _, _, _, _⟩) (h := ⟨⟨oS, oS⟩, (by exact hc.step ‹_› (by omega) ‹_› (by omega) ‹_› ‹_› ‹_›)⟩)
  · intro e_24
    refine nm ?_
    refine ca [1, 2, 300] (t := (flush_D (by exact hc.ok) oS)) (k := ?k_25)
    rintro _ _ ⟨x_26, v_27, h_28, rfl, rfl⟩
    refine nm ?_
    refine ca [] (t := (sum_staged _ oS aS)) (k := ?k_29)
    rintro _ _ ⟨v_30, h_31, ⟨h_32, h_33⟩, rfl, rfl⟩
    refine nm ?_
    refine ca [0, 1, 2, 300] (t := (put_commit (by exact DK.fl_ok hc.ok ‹_›) oS (by ((have := (‹DK.fl D2 _›).1.1; have := hc.n; omega))) oS oS aS oS)) (k := ?k_34)
    rintro _ _ ⟨x_35, h_36, rfl, rfl⟩
    refine nm ?_
    refine ca [1, 2, 441] (t := (flush_D (by exact hc.fl4 ‹_› ‹_› (by omega)) oS)) (k := ?k_37)
    rintro _ _ ⟨x_38, v_39, h_40, rfl, rfl⟩
    refine nm ?_
    exact fi ⟨⟨_, _, _, _, _, _, _, _, _⟩, (by exact CO.of hc (by omega) (by omega) (by omega) ‹_› ‹_› ‹_› ‹_› hL), rfl, rfl⟩
end
end Go.Proofs.Ytilmhjojbolbeaa.AM

namespace Go.Proofs.Ytilmhjojbolbeaa.AM
open Go
set_option maxRecDepth 100000
set_option maxHeartbeats 4000000
/-! ### A disk that shows f, how often it was written and flushed -/
structure DB (n L w fl : Int) (f : Int → Str) (D : DK) : Prop where
  ok : D.ok L
  sz : D.n = n
  hw : D.w = w
  hf : D.f = fl
  get : ∀ q, 0 ≤ q → q < n → D.at q = f q
def upF (f : Int → Str) (q : Int) (s : Str) : Int → Str := fun p => if p = q then s else f p
section
variable {n L w fl q base size tx m : Int} {f : Int → Str} {D : DK} {s : Str} {pk pn : Ix → Int} {pb : Ix → Str}
theorem DB.da (h : DB n L w fl f D) : DA n L f D := ⟨h.ok, h.sz, h.get⟩
theorem DB.n1000 (h : DB n L w fl f D) : 0 ≤ n ∧ n ≤ 1000 := by rw [← h.sz]; exact h.ok.1.1
theorem newB (n : Int) (hn : 1 ≤ n ∧ n ≤ 1000) : TriS Try.prog 26 [.i .i64 n] [] (fun r σ => ∃ D : DK, DB n 0 0 0 (fun _ => blankF) D ∧ r = .tu [.pt 100 0, .i .i64 0] ∧ σ = D.S 100 101 102) := by
  refine (disk_new n hn).mono ?_
  rintro r σ ⟨c, hc, rfl, rfl⟩
  exact ⟨DK.new n c, ⟨DK.new_ok hn, rfl, rfl, rfl, fun q h0 h1 => by rw [DK.new_at]; exact hc q h0 h1⟩, rfl, rfl⟩
theorem sizeB (hD : DB n L w fl f D) : TriS Try.prog 90 [.pt 0 0] (D.S 0 1 2) (fun r σ => r = .i .i64 n ∧ σ = D.S 0 1 2) :=
  (size_tri D.n D.m D.k D.r D.w D.f (-1) D.pg D.wn D.ws).mono (by rintro r σ ⟨rfl, rfl⟩; exact ⟨by rw [hD.sz], rfl⟩)
theorem flushB (hD : DB n L w fl f D) (hL : L ≤ 100000000) : TriS Try.prog 63 [.pt 0 0] (D.S 0 1 2) (fun r σ => ∃ D' v, DB n (L + 1) w (fl + 1) f D' ∧ r = .i .i64 v ∧ σ = D'.S 0 1 2) :=
  (jflush hD.ok hL).mono (by
    rintro r σ ⟨D', h, rfl, rfl⟩
    exact ⟨D', _, ⟨DK.fl_ok hD.ok h, h.1.1.trans hD.sz, h.2.1.2.1.trans hD.hw, h.2.1.2.2.trans (by rw [hD.hf]), fun q a b => (h.2.2 q).trans (hD.get q a b)⟩, rfl, rfl⟩)
theorem readB (hD : DB n L w fl f D) (hL : L ≤ 100000000) (hq : 0 ≤ q ∧ q < n) : TriS Try.prog 72 [.pt 0 0, .i .i64 q] (D.S 0 1 2) (fun r σ => ∃ D' s, DB n (L + 1) w fl f D' ∧ s = f q ∧ r = .tu [.s s, .i .i64 0] ∧ σ = D'.S 0 1 2) :=
  (jread hD.ok hL (by rw [hD.sz]; exact hq)).mono (by
    rintro r σ ⟨D', s, rfl, hs, rfl, rfl⟩
    exact ⟨_, s, ⟨(DK.rd hD.ok).1, hD.sz, hD.hw, hD.hf, fun q a b => ((DK.rd hD.ok).2 q).trans (hD.get q a b)⟩, hs.trans (hD.get q hq.1 hq.2), rfl, rfl⟩)
theorem writeB (hD : DB n L w fl f D) (hL : L ≤ 100000000) (hq : 0 ≤ q ∧ q < n) (hs : s.length = 256) : TriS Try.prog 98 [.pt 0 0, .i .i64 q, .s s] (D.S 0 1 2) (fun r σ => ∃ D', DB n (L + 1) (w + 1) fl (upF f q s) D' ∧ r = .i .i64 0 ∧ σ = D'.S 0 1 100) := by
  obtain ⟨⟨dn, dm⟩, ⟨dr, dw, df⟩, dwn⟩ := id hD.ok
  refine (write_tri D.n D.m D.k D.r D.w D.f (-1) q s D.pg D.wn D.ws (by omega) (by rw [hD.sz]; exact hq) hs (.inr rfl) (by omega) (by omega)).mono ?_
  rintro x σ ⟨rfl, u', hu', rfl⟩
  obtain rfl : u' = -1 := by rw [hu', if_neg (by omega)]
  refine ⟨D.wr q s, ⟨DK.wr_ok hD.ok (by rw [hD.sz]; exact hq) _, hD.sz, congrArg (· + 1) hD.hw, hD.hf, fun p a b => ?_⟩, rfl, rfl⟩
  rw [DK.wr_at _ dm.1, upF]
  by_cases e : p = q
  · rw [if_pos e, if_pos e]
  · rw [if_neg e, if_neg e]; exact hD.get p a b
theorem jcommitB (full : Bool) (hD : DB n L w fl f D) (hj : jplace n base size tx) (hL : L ≤ 10000000) (hm : 0 < m ∧ m ≤ size - 1) (hp : ∀ j : Int, 0 ≤ j → j < m → okP (pk [j]) (pn [j]) (pb [j])) :
    TriS Try.prog 65 [.pt 0 0, .l m [.i .i64 pk, .i .i64 pn, .s pb] full] (jouS 0 1 2 3 base size tx D) (fun r σ => ∃ D', DB n (L + 2000) (w + m + 1) (fl + 2) (comF base tx m pk pn pb f) D' ∧ r = .i .i64 0 ∧ σ = jouS 0 1 2 100 base size tx D') := by
  obtain ⟨h1, h2, h3⟩ := hj
  refine (commit_cnt full hD.ok hL h1 h3 (by rw [hD.sz]; omega) hm hp).mono ?_
  rintro r σ ⟨D', h, rfl, rfl⟩
  refine ⟨D', ⟨h.ok, h.n.trans hD.sz, by rw [h.w, hD.hw], by rw [h.f, hD.hf], fun q a b => ?_⟩, rfl, rfl⟩
  rw [h.get, comF, comF]
  split
  · rfl
  · split
    · rfl
    · exact hD.get q a b
theorem jnewB (hD : DB n L w fl f D) (h : jplace n base size tx) :
    TriS Try.prog 91 [.pt 0 0, .i .i64 base, .i .i64 size, .i .i64 tx] (D.S 0 1 2) (fun r σ => r = .tu [.pt 100 0, .i .i64 0] ∧ σ = jouS 100 0 1 2 base size tx D) := jnewA hD.da h
end
/-! ### The pager -/
/-- the bytes of the head -/
def headC (tx c : Int) (j : Int) : Int := putF (fun ix => putF (fun _ => 0) 0 4 tx (hd ix)) 4 2 c j
def headF (tx c : Int) : Str := bytesOf 6 fun ix => headC tx c (hd ix)
/-- a pager -/
def pagS (p g j d op ow : Nat) (base log tx m : Int) (D : DK) (pk pn : Ix → Int) (pb : Ix → Str) : Sto :=
  (p, .st [.pt j 0, .pt d 0, .i .i64 base, .i .i64 log, .sl g 0 m 3 false] 115) :: (g, .ar m [.i .i64 pk, .i .i64 pn, .s pb] 73) :: jouS j d op ow base log tx D
/-- one without pages -/
def pagN (p j d op ow : Nat) (base log tx : Int) (D : DK) : Sto :=
  (p, .st [.pt j 0, .pt d 0, .i .i64 base, .i .i64 log, .l 0 [] true] 115) :: jouS j d op ow base log tx D
section
variable {n L w fl q base log tx c m k a : Int} {f : Int → Str} {D : DK} {b s : Str} {pk pn : Ix → Int} {pb : Ix → Str}
theorem begin_ok (hD : DB n L w fl f D) (hl : (2 ≤ log ∧ log ≤ 900) ∧ 2 ≤ n - log) (ht : 1 ≤ tx ∧ tx ≤ 4294967295) : TriS Try.prog 59 [.pt 0 0, .i .i64 log, .i .i64 tx] (D.S 0 1 2)
    (fun r σ => ∃ base, base = n - log ∧ r = .tu [.pt 100 0, .i .i64 0] ∧ σ = pagN 100 101 0 1 2 base log tx D) := by
  have := hD.n1000
  refine trio Try.f59 ORD59 fun H Tri hH hTri => ?_
  refine nm ?_
  refine ca [0, 1, 2] (t := (sizeB aS)) (k := ?k_1)
  rintro _ _ ⟨rfl, rfl⟩
  refine nm ?_
  intro v_2 e_3
  refine ca [0, 1, 2] (t := (sizeB aS)) (k := ?k_4)
  rintro _ _ ⟨rfl, rfl⟩
  refine nm ?_
  refine ca [0, 1, 2] (t := (jnewB aS eS)) (k := ?k_5)
  rintro _ _ ⟨rfl, rfl⟩
  refine nm ?_
  refine' ⟨_, _, ⟨_, ?p_6, rfl, rfl⟩, ?c_7, ?s_8⟩
  case s_8 => cbv <;> repeat' first | exact rfl | exact trivial | apply And.intro
  case c_7 => rfl
  case p_6 => omega
theorem begin_bad (hD : DB n L w fl f D) (hl : ¬ ((2 ≤ log ∧ log ≤ 900) ∧ 2 ≤ n - log)) : TriS Try.prog 59 [.pt 0 0, .i .i64 log, .i .i64 tx] (D.S 0 1 2)
    (fun r σ => r = .tu [nilp, .i .i64 1] ∧ σ = D.S 0 1 2) := by
  have := hD.n1000
  refine trio Try.f59 ORD59 fun H Tri hH hTri => ?_
  refine nm ?_
  refine ts ?_ ?_
  · intro e_1
    refine nm ?_
    exact fi ⟨rfl, rfl⟩
  · intro e_2
    refine nm ?_
    refine ts ?_ ?_
    · intro e_3
      refine nm ?_
      exact fi ⟨rfl, rfl⟩
    · intro e_4
      refine nm ?_
      refine ca [0, 1, 2] (t := (sizeB aS)) (k := ?k_5)
      rintro _ _ ⟨rfl, rfl⟩
      refine nm ?_
      intro v_6 e_7
      exact fi ⟨rfl, rfl⟩
theorem begin_nil : TriS Try.prog 59 [nilp, .i .i64 log, .i .i64 tx] [] (fun r σ => r = .tu [nilp, .i .i64 1] ∧ σ = []) := by
  refine trio Try.f59 ORD59 fun H Tri hH hTri => ?_
  refine nm ?_
  exact fi ⟨rfl, rfl⟩
end
end Go.Proofs.Ytilmhjojbolbeaa.AM

namespace Go.Proofs.Ytilmhjojbolbeaa.AM
open Go
set_option maxRecDepth 100000
set_option maxHeartbeats 4000000
section
variable {n L w fl q base log tx tx0 c m k a i v u : Int} {f : Int → Str} {D : DK} {b s S B : Str} {pk pn F f0 f1 f2 : Ix → Int} {pb : Ix → Str}
theorem headC_in (tx c j : Int) : 0 ≤ headC tx c j ∧ headC tx c j < 256 := putF_in (putF_in (by decide))
theorem head_len (tx c : Int) : (headF tx c).length = 6 := by rw [headF, bytesOf_length]; rfl
theorem headC_cols (tx c : Int) : (headC tx c 0 = IntKind.u8.wrap (shrF .u32 tx 24) ∧ headC tx c 1 = IntKind.u8.wrap (shrF .u32 tx 16) ∧ headC tx c 2 = IntKind.u8.wrap (shrF .u32 tx 8) ∧ headC tx c 3 = IntKind.u8.wrap (shrF .u32 tx 0)) ∧
    headC tx c 4 = IntKind.u8.wrap (shrF .u32 c 8) ∧ headC tx c 5 = IntKind.u8.wrap (shrF .u32 c 0) := by
  refine ⟨⟨?_, ?_, ?_, ?_⟩, ?_, ?_⟩ <;> simp [headC, putF, AM.hd]
theorem head_get (hB : B = headF tx c) (ht : 0 ≤ tx ∧ tx < 4294967296) (hc : 0 ≤ c ∧ c < 65536) (hF : ∀ j : Int, F [j] = ((B.getD j.toNat 0).toNat : Int)) : getF F 0 4 = tx ∧ getF F 4 2 = c := by
  subst hB
  obtain ⟨⟨c0, c1, c2, c3⟩, c4, c5⟩ := headC_cols tx c
  have e := fun j => entry_at (M := 6) (headC_in tx c) (f := F) hF j
  exact ⟨getF_4 ht ((e 0 (by omega) (by omega)).trans c0) ((e 1 (by omega) (by omega)).trans c1) ((e 2 (by omega) (by omega)).trans c2) ((e 3 (by omega) (by omega)).trans c3), getF_2 hc ((e 4 (by omega) (by omega)).trans c4) ((e 5 (by omega) (by omega)).trans c5)⟩
theorem get_tx (hB : B = headF tx c) (hF : ∀ j : Int, F [j] = ((B.getD j.toNat 0).toNat : Int)) (hL : L = (B.length : Int)) (ht : 0 ≤ tx ∧ tx < 4294967296) (hc : 0 ≤ c ∧ c < 65536) : TriS Try.prog 108 [.pt 0 0, .i .i64 0, .i .i64 4] (textS 0 L F) (fun r σ => r = .tu [.i .u32 tx, .i .i64 0] ∧ σ = textS 0 L F) := by
  have hl : B.length = 6 := by rw [hB]; exact head_len _ _
  refine (area_get L 0 4 F (by omega) (.inr (.inr rfl))).mono ?_
  rintro r σ ⟨v, hv, rfl, rfl⟩
  exact ⟨by rw [hv, show ((4 : Int).toNat) = 4 from rfl, (head_get hB ht hc hF).1], rfl⟩
theorem get_cnt (hB : B = headF tx c) (hF : ∀ j : Int, F [j] = ((B.getD j.toNat 0).toNat : Int)) (hL : L = (B.length : Int)) (ht : 0 ≤ tx ∧ tx < 4294967296) (hc : 0 ≤ c ∧ c < 65536) : TriS Try.prog 108 [.pt 0 0, .i .i64 4, .i .i64 2] (textS 0 L F) (fun r σ => r = .tu [.i .u32 c, .i .i64 0] ∧ σ = textS 0 L F) := by
  have hl : B.length = 6 := by rw [hB]; exact head_len _ _
  refine (area_get L 4 2 F (by omega) (.inr (.inl rfl))).mono ?_
  rintro r σ ⟨v, hv, rfl, rfl⟩
  exact ⟨by rw [hv, show ((2 : Int).toNat) = 2 from rfl, (head_get hB ht hc hF).2], rfl⟩
theorem small_put (hv : 0 ≤ v) (hw : (w = 1 ∧ v < 256) ∨ (w = 2 ∧ v < 65536) ∨ (w = 4 ∧ v < 4294967296)) : shrF .u64 (IntKind.u64.wrap v) (8 * w) = 0 := by
  have h := small_shr hv hw
  rwa [u32_id (by omega)] at h
theorem head_end (h0 : f0 = fun _ => 0) (h1 : ∀ j, f1 [j] = putF f0 0 4 tx j) (h2 : ∀ j, f2 [j] = putF f1 4 2 c j) (hs : s = bytesOf 6 f2) : s = headF tx c := by
  rw [hs, headF]
  refine bytesOf_congr fun j a b => ?_
  rw [h2]
  show _ = headC tx c j
  have e : ∀ j, f1 [j] = putF (fun _ => 0) 0 4 tx j := fun j => by rw [h1, h0]
  unfold headC putF
  split
  · rfl
  · exact e j
theorem head_tri (ht : 0 ≤ tx ∧ tx ≤ 4294967295) (hc : 0 ≤ c ∧ c < 65536) : TriS Try.prog 62 [.i .i64 tx, .i .i64 c] [] (fun r σ => ∃ s, s = headF tx c ∧ r = .ag [.i .i64 1, .i .i64 0, .s s] ∧ σ = []) := by
  refine trio Try.f62 ORD62 fun H Tri hH hTri => ?_
  refine nm ?_
  refine ca [] (t := (area_new _ oS)) (k := ?k_1)
  rintro _ _ ⟨x_2, h_3, rfl, rfl⟩
  refine nm ?_
  refine ca [201, 202] (t := (area_put _ _ _ _ _ oS oS (by exact small_put (by omega) (by omega)))) (k := ?k_4)
  rintro _ _ ⟨x_5, h_6, rfl, rfl⟩
  refine nm ?_
  refine ca [201, 202] (t := (area_put _ _ _ _ _ oS oS (by exact small_put (by omega) (by omega)))) (k := ?k_7)
  rintro _ _ ⟨x_8, h_9, rfl, rfl⟩
  refine nm ?_
  refine ca [201, 202] (t := (area_bytes _ _)) (k := ?k_10)
  rintro _ _ ⟨x_11, h_12, rfl, rfl⟩
  refine nm ?_
  exact fi ⟨_, (by exact head_end ‹_› ‹_› ‹_› ‹_›), rfl, rfl⟩
theorem openS (hs : S = sealF k n b) (hk : 1 ≤ k ∧ k ≤ 5) (hn : 0 ≤ n ∧ n < 1000) (hb : b.length ≤ 244) : TriS Try.prog 73 [.s S] [] (fun r σ => r = .tu [.ag [.i .i64 k, .i .i64 n, .s b], .i .i64 0] ∧ σ = []) := by
  subst hs
  exact open_sealA k n b hk hn hb
theorem readS (hD : DB n L w fl f D) (h : f q = S) (hL : L ≤ 100000000) (hq : 0 ≤ q ∧ q < n) : TriS Try.prog 72 [.pt 0 0, .i .i64 q] (D.S 0 1 2) (fun r σ => ∃ D', DB n (L + 1) w fl f D' ∧ r = .tu [.s S, .i .i64 0] ∧ σ = D'.S 0 1 2) :=
  (readB hD hL hq).mono (by rintro r σ ⟨D', s, hD', hs, rfl, rfl⟩; exact ⟨D', hD', by rw [hs, h], rfl⟩)
theorem sealS (hk : 1 ≤ k ∧ k ≤ 5) (hn : 0 ≤ n ∧ n < 1000) (hb : b.length ≤ 244) : TriS Try.prog 97 [.ag [.i .i64 k, .i .i64 n, .s b]] [] (fun r σ => ∃ s, (s = sealF k n b ∧ s.length = 256) ∧ r = .tu [.s s, .i .i64 0] ∧ σ = []) :=
  (page_seal k n b hk hn hb).mono (by rintro r σ ⟨s, h, rfl, rfl⟩; exact ⟨s, ⟨h, by rw [h]; exact seal_len _ _ _⟩, rfl, rfl⟩)
theorem up_eq2 {f g : Int → Str} (h : DB n L w fl (upF f q s) D) (hs : s = S) : DB n L w fl (upF f q S) D := hs ▸ h
theorem putN (hD : DB n L w fl f D) (hL : L ≤ 10000000) (hk : 1 ≤ k ∧ k ≤ 5) (hq : 0 ≤ q ∧ q < n) (hb : b.length ≤ 244) : TriS Try.prog 61 [.pt 0 0, .ag [.i .i64 k, .i .i64 q, .s b]] (pagN 0 1 2 3 4 base log tx D)
    (fun r σ => ∃ D', DB n (L + 1) (w + 1) fl (upF f q (sealF k q b)) D' ∧ r = .b true ∧ σ = pagN 0 1 2 3 100 base log tx D') := by
  have hn := hD.n1000
  refine trio Try.f61 ORD61 fun H Tri hH hTri => ?_
  refine nm ?_
  refine ca [] (t := (sealS aS oS aS)) (k := ?k_1)
  rintro _ _ ⟨x_2, ⟨h_3, h_4⟩, rfl, rfl⟩
  refine nm ?_
  refine ca [2, 3, 4] (t := (writeB aS oS aS aS)) (k := ?k_5)
  rintro _ _ ⟨x_6, h_7, rfl, rfl⟩
  refine nm ?_
  refine' ⟨_, _, ⟨⟨_, _, _, _, _, _, _, _, _⟩, ?p_8, rfl, rfl⟩, ?c_9, ?s_10⟩
  case s_10 => cbv <;> repeat' first | exact rfl | exact trivial | apply And.intro
  case c_9 => rfl
  case p_8 => simp_all; done
theorem putS (hD : DB n L w fl f D) (hL : L ≤ 10000000) (hk : 1 ≤ k ∧ k ≤ 5) (hq : 0 ≤ q ∧ q < n) (hb : b.length ≤ 244) : TriS Try.prog 61 [.pt 0 0, .ag [.i .i64 k, .i .i64 q, .s b]] (pagS 0 1 2 3 4 5 base log tx m D pk pn pb)
    (fun r σ => ∃ D', DB n (L + 1) (w + 1) fl (upF f q (sealF k q b)) D' ∧ r = .b true ∧ σ = pagS 0 1 2 3 4 100 base log tx m D' pk pn pb) := by
  have hn := hD.n1000
  refine trio Try.f61 ORD61 fun H Tri hH hTri => ?_
  refine nm ?_
  refine ca [] (t := (sealS aS oS aS)) (k := ?k_1)
  rintro _ _ ⟨x_2, ⟨h_3, h_4⟩, rfl, rfl⟩
  refine nm ?_
  refine ca [3, 4, 5] (t := (writeB aS oS aS aS)) (k := ?k_5)
  rintro _ _ ⟨x_6, h_7, rfl, rfl⟩
  refine nm ?_
  refine' ⟨_, _, ⟨⟨_, _, _, _, _, _, _, _, _⟩, ?p_8, rfl, rfl⟩, ?c_9, ?s_10⟩
  case s_10 => cbv <;> repeat' first | exact rfl | exact trivial | apply And.intro
  case c_9 => rfl
  case p_8 => simp_all; done
theorem roomN (hb : 1 ≤ base ∧ base ≤ 1000) : TriS Try.prog 34 [.pt 0 0] (pagN 0 1 2 3 4 base log tx D) (fun r σ => ∃ v, v = base - 1 ∧ r = .i .i64 v ∧ σ = pagN 0 1 2 3 4 base log tx D) := by
  refine trio Try.f34 ORD34 fun H Tri hH hTri => ?_
  refine nm ?_
  intro v_1 e_2
  refine' ⟨_, _, ⟨_, ?p_3, rfl, rfl⟩, ?c_4, ?s_5⟩
  case s_5 => cbv <;> repeat' first | exact rfl | exact trivial | apply And.intro
  case c_4 => rfl
  case p_3 => omega
theorem roomS (hb : 1 ≤ base ∧ base ≤ 1000) : TriS Try.prog 34 [.pt 0 0] (pagS 0 1 2 3 4 5 base log tx m D pk pn pb) (fun r σ => ∃ v, v = base - 1 ∧ r = .i .i64 v ∧ σ = pagS 0 1 2 3 4 5 base log tx m D pk pn pb) := by
  refine trio Try.f34 ORD34 fun H Tri hH hTri => ?_
  refine nm ?_
  intro v_1 e_2
  refine' ⟨_, _, ⟨_, ?p_3, rfl, rfl⟩, ?c_4, ?s_5⟩
  case s_5 => cbv <;> repeat' first | exact rfl | exact trivial | apply And.intro
  case c_4 => rfl
  case p_3 => omega
theorem told_ok (hD : DB n L w fl f D) (hL : L ≤ 10000000) (hS : S = sealF 1 0 B) (hB : B = headF tx c) (h0 : f 0 = S) (hn : 0 < n) (hb : 1 ≤ base ∧ base ≤ 1000) (ht : 1 ≤ tx ∧ tx ≤ 4294967295) (hc : 0 ≤ c ∧ c ≤ base - 1) :
    TriS Try.prog 69 [.pt 0 0] (pagN 0 1 2 3 4 base log tx0 D) (fun r σ => ∃ D', DB n (L + 1) w fl f D' ∧ r = .tu [.i .i64 tx, .i .i64 c, .b true] ∧ σ = pagN 0 1 2 3 4 base log tx0 D') := by
  have hl : B.length = 6 := by rw [hB]; exact head_len _ _
  refine trio Try.f69 ORD69 fun H Tri hH hTri => ?_
  refine nm ?_
  refine ca [2, 3, 4] (t := (readS aS aS oS oS)) (k := ?k_1)
  rintro _ _ ⟨x_2, h_3, rfl, rfl⟩
  refine nm ?_
  refine ca [] (t := (openS aS oS oS oS)) (k := ?k_4)
  rintro _ _ ⟨rfl, rfl⟩
  refine nm ?_
  intro v_5 e_6 e_7 e_8
  refine ca [] (t := (area_of _ oS)) (k := ?k_9)
  rintro _ _ ⟨x_10, h_11, rfl, v_12, h_13, rfl⟩
  refine nm ?_
  refine ca [241] (t := (get_tx aS aS aS oS oS)) (k := ?k_14)
  rintro _ _ ⟨rfl, rfl⟩
  refine nm ?_
  refine ca [241] (t := (get_cnt aS aS aS oS oS)) (k := ?k_15)
  rintro _ _ ⟨rfl, rfl⟩
  refine nm ?_
  refine ca [0, 1, 2, 3, 4] (t := (roomN aS)) (k := ?k_16)
  rintro _ _ ⟨v_17, h_18, rfl, rfl⟩
  refine nm ?_
  exact fi ⟨⟨_, _, _, _, _, _, _, _, _⟩, aS, rfl, rfl⟩
end
end Go.Proofs.Ytilmhjojbolbeaa.AM

namespace Go.Proofs.Ytilmhjojbolbeaa.AM
open Go
set_option maxRecDepth 100000
set_option maxHeartbeats 4000000
/-! ### What stands on a pager's disk -/
/-- the journal's first page is not of the transaction -/
def NoTx (f : Int → Str) (base tx : Int) : Prop :=
  f base = sealF 5 base (abortF tx) ∨ ∃ (tx' k n : Int) (b : Str), (tx' ≠ tx ∧ 1 ≤ tx' ∧ tx' ≤ 4294967295) ∧ okP k n b ∧ f base = sealF 5 base (stageF tx' 0 k n b)
structure Lay (f : Int → Str) (base tx m : Int) (pk pn : Ix → Int) (pb : Ix → Str) : Prop where
  hm : 0 ≤ m ∧ m ≤ base - 1
  head : f 0 = sealF 1 0 (headF tx m)
  pages : ∀ i : Int, 0 ≤ i → i < m → f (i + 1) = sealF (pk [i]) (i + 1) (pb [i])
  ok : ∀ i : Int, 0 ≤ i → i < m → 1 ≤ pk [i] ∧ pn [i] = i ∧ okP (pk [i]) i (pb [i])
  no : NoTx f base tx
section
variable {n L w fl q base log tx tx0 c m m' k a i i' j v u : Int} {f f' f1 : Int → Str} {D : DK} {b s S B : Str} {pk pn lk ln ck cn ck' cn' : Ix → Int} {pb lb cb cb' : Ix → Str} {fu : Bool}
theorem DB.cast {L' w' fl' : Int} (h : DB n L w fl f D) (e1 : L = L') (e2 : w = w') (e3 : fl = fl') : DB n L' w' fl' f D := by
  subst e1 e2 e3; exact h
theorem encA (ht : 1 ≤ tx ∧ tx ≤ 4294967295) : TriS Try.prog 60 [entV 3 tx 0 0 0 [] 0 0] [] (fun r σ => ∃ s, (s = abortF tx ∧ s.length = 7) ∧ r = .tu [.s s, .i .i64 0] ∧ σ = []) :=
  (encode_abort tx ht).mono (by rintro r σ ⟨s, h, rfl, rfl⟩; exact ⟨s, ⟨h, by rw [h, abortF, bytesOf_length]; rfl⟩, rfl, rfl⟩)
theorem head_any (ht : 0 ≤ tx ∧ tx ≤ 4294967295) (hc : 0 ≤ c ∧ c < 65536) : TriS Try.prog 62 [.i .i64 tx, .i .i64 c] [] (fun r σ => ∃ s, (s = headF tx c ∧ s.length = 6) ∧ r = .ag [.i .i64 1, .i .i64 0, .s s] ∧ σ = []) :=
  (head_tri ht hc).mono (by rintro r σ ⟨s, h, rfl, rfl⟩; exact ⟨s, ⟨h, by rw [h]; exact head_len _ _⟩, rfl, rfl⟩)
theorem lay_new (hb : 1 ≤ base) (hs : s = headF 1 0) (hS : S = abortF 1) : Lay (upF (upF f 0 (sealF 1 0 s)) base (sealF 5 base S)) base 1 0 pk pn pb := by
  subst hs hS
  refine ⟨⟨by omega, by omega⟩, ?_, fun i h0 h1 => by omega, fun i h0 h1 => by omega, .inl (by simp [upF])⟩
  simp only [upF]
  rw [if_neg (by omega)]
  simp
theorem format_ok (hD : DB n L w fl f D) (hL : L ≤ 1000000) (hl : (2 ≤ log ∧ log ≤ 900) ∧ 2 ≤ n - log) : TriS Try.prog 27 [.pt 0 0, .i .i64 log] (D.S 0 1 2)
    (fun r σ => ∃ (D' : DK) (f' : Int → Str) (base : Int) (pk pn : Ix → Int) (pb : Ix → Str), DB n (L + 3) (w + 2) (fl + 1) f' D' ∧ base = n - log ∧ Lay f' base 1 0 pk pn pb ∧ r = .tu [.pt 100 0, .i .i64 0] ∧ σ = pagS 100 101 102 0 1 103 base log 1 0 D' pk pn pb) := by
  have hn := hD.n1000
  refine trio Try.f27 ORD27 fun H Tri hH hTri => ?_
  refine nm ?_
  refine ca [0, 1, 2] (t := (begin_ok aS aS oS)) (k := ?k_1)
  rintro _ _ ⟨v_2, h_3, rfl, rfl⟩
  refine nm ?_
  refine ca [] (t := (encA oS)) (k := ?k_4)
  rintro _ _ ⟨x_5, ⟨h_6, h_7⟩, rfl, rfl⟩
  refine nm ?_
  refine ca [] (t := (head_any oS oS)) (k := ?k_8)
  rintro _ _ ⟨x_9, ⟨h_10, h_11⟩, rfl, rfl⟩
  refine nm ?_
  refine ca [200, 201, 0, 1, 2] (t := (putN aS oS oS oS oS)) (k := ?k_12)
  rintro _ _ ⟨x_13, h_14, rfl, rfl⟩
  refine nm ?_
  refine ca [200, 201, 0, 1, 260] (t := (putN aS oS oS oS oS)) (k := ?k_15)
  rintro _ _ ⟨x_16, h_17, rfl, rfl⟩
  refine nm ?_
  refine ca [0, 1, 280] (t := (flushB aS oS)) (k := ?k_18)
  rintro _ _ ⟨x_19, v_20, h_21, rfl, rfl⟩
  refine nm ?_
  refine' ⟨_, _, ⟨⟨_, _, _, _, _, _, _, _, _⟩, _, _, _, _, _, ?p_22, ?p_23, ?p_24, rfl, rfl⟩, ?c_25, ?s_26⟩
  case s_26 => cbv <;> repeat' first | exact rfl | exact trivial | apply And.intro
  case c_25 => rfl
  case p_22 => (exact DB.cast ‹_› (by omega) (by omega) (by omega))
  case p_23 => assumption
  case p_24 => (exact lay_new (by omega) ‹_› ‹_›)
  exact fun _ => 0
  exact fun _ => 0
  exact fun _ => []
theorem format_bad (hD : DB n L w fl f D) (hl : ¬ ((2 ≤ log ∧ log ≤ 900) ∧ 2 ≤ n - log)) : TriS Try.prog 27 [.pt 0 0, .i .i64 log] (D.S 0 1 2) (fun r σ => r = .tu [nilp, .i .i64 1] ∧ σ = D.S 0 1 2) := by
  refine trio Try.f27 ORD27 fun H Tri hH hTri => ?_
  refine nm ?_
  refine ca [0, 1, 2] (t := (begin_bad aS aS)) (k := ?k_1)
  rintro _ _ ⟨rfl, rfl⟩
  refine nm ?_
  exact fi ⟨rfl, rfl⟩
theorem format_nil : TriS Try.prog 27 [nilp, .i .i64 log] [] (fun r σ => r = .tu [nilp, .i .i64 1] ∧ σ = []) := by
  refine trio Try.f27 ORD27 fun H Tri hH hTri => ?_
  refine nm ?_
  refine ca [] (t := begin_nil) (k := ?k_1)
  rintro _ _ ⟨rfl, rfl⟩
  refine nm ?_
  exact fi ⟨rfl, rfl⟩
theorem ispage_tri : TriS Try.prog 64 [.ag [.i .i64 k, .i .i64 q, .s b], .i .i64 n] [] (fun r σ => ∃ v : Bool, (v = true ↔ k ≠ 0 ∧ q = n ∧ okP k q b) ∧ r = .b v ∧ σ = []) := by
  have hc := fun k n b => check_stage 1 0 k n b (by omega) (by omega)
  refine trio Try.f64 ORD64 fun H Tri hH hTri => ?_
  refine nm ?_
  refine ts ?_ ?_
  · intro e_1
    refine ts ?_ ?_
    · intro e_2
      refine ca [] (t := (hc _ _ _)) (k := ?k_3)
      rintro _ _ ⟨v_4, h_5, rfl, rfl⟩
      refine nm ?_
      refine' ⟨_, _, ⟨_, ?p_6, rfl, rfl⟩, ?c_7, ?s_8⟩
      case s_8 => cbv <;> repeat' first | exact rfl | exact trivial | apply And.intro
      case c_7 => rfl
      case p_6 => simp_all; done
    · intro e_9
      refine' ⟨_, _, ⟨_, ?p_10, rfl, rfl⟩, ?c_11, ?s_12⟩
      case s_12 => cbv <;> repeat' first | exact rfl | exact trivial | apply And.intro
      case c_11 => rfl
      case p_10 => simp; omega
  · intro e_13
    refine' ⟨_, _, ⟨_, ?p_14, rfl, rfl⟩, ?c_15, ?s_16⟩
    case s_16 => cbv <;> repeat' first | exact rfl | exact trivial | apply And.intro
    case c_15 => rfl
    case p_14 => simp; omega
/-! ### Commit -/
/-- is a page another one -/
def Chg (m : Int) (pk pn : Ix → Int) (pb : Ix → Str) (lk ln : Ix → Int) (lb : Ix → Str) (i : Int) : Prop := ¬ (i < m ∧ pk [i] = lk [i] ∧ pn [i] = ln [i] ∧ pb [i] = lb [i])
open Classical in
noncomputable def chN (m : Int) (pk pn : Ix → Int) (pb : Ix → Str) (lk ln : Ix → Int) (lb : Ix → Str) : Nat → Int
  | 0 => 0
  | i + 1 => chN m pk pn pb lk ln lb i + if Chg m pk pn pb lk ln lb (i : Int) then 1 else 0
theorem chN_le : ∀ i, 0 ≤ chN m pk pn pb lk ln lb i ∧ chN m pk pn pb lk ln lb i ≤ i
  | 0 => by simp [chN]
  | i + 1 => by
    have := chN_le i
    rw [chN]
    split <;> omega
/-- what is to be written when i pages were looked at -/
structure Chs (m : Int) (pk pn : Ix → Int) (pb : Ix → Str) (lk ln : Ix → Int) (lb : Ix → Str) (H : Str) (i c : Int) (ck cn : Ix → Int) (cb : Ix → Str) : Prop where
  num : c = 1 + chN m pk pn pb lk ln lb i.toNat
  head : ck [0] = 1 ∧ cn [0] = 0 ∧ cb [0] = H
  src : ∀ j : Int, 1 ≤ j → j < c → ∃ q, (0 ≤ q ∧ q < i) ∧ ck [j] = lk [q] ∧ cn [j] = q + 1 ∧ cb [j] = lb [q]
  all : ∀ q : Int, 0 ≤ q → q < i → Chg m pk pn pb lk ln lb q → ∃ j, (1 ≤ j ∧ j < c) ∧ cn [j] = q + 1
theorem Chs.start (h : ck [0] = 1 ∧ cn [0] = 0 ∧ cb [0] = B) : Chs m pk pn pb lk ln lb B 0 1 ck cn cb :=
  ⟨by simp [chN], h, fun j a b => by omega, fun q a b => by omega⟩
theorem Chs.bd (h : Chs m pk pn pb lk ln lb B i c ck cn cb) (hi : 0 ≤ i) : 1 ≤ c ∧ c ≤ i + 1 := by
  have := chN_le (m := m) (pk := pk) (pn := pn) (pb := pb) (lk := lk) (ln := ln) (lb := lb) i.toNat
  have := h.num
  omega
theorem Chs.same (h : Chs m pk pn pb lk ln lb B i c ck cn cb) (h0 : 0 ≤ i) (hi : i + 1 = i') (hn : ¬ Chg m pk pn pb lk ln lb i) : Chs m pk pn pb lk ln lb B i' c ck cn cb := by
  subst hi
  refine ⟨?_, h.head, fun j a b => ?_, fun q a b hq => ?_⟩
  · rw [show (i + 1).toNat = i.toNat + 1 by omega, chN, Int.toNat_of_nonneg h0, if_neg hn, Int.add_zero]; exact h.num
  · obtain ⟨q, hq, r⟩ := h.src j a b
    exact ⟨q, by omega, r⟩
  · by_cases e : q = i
    · subst e; exact absurd hq hn
    · exact h.all q a (by omega) hq
theorem Chs.more {c' : Int} (h : Chs m pk pn pb lk ln lb B i c ck cn cb) (h0 : 0 ≤ i) (hi : i + 1 = i') (hn : Chg m pk pn pb lk ln lb i) (hc : c + 1 = c')
    (e1 : ∀ j : Int, 0 ≤ j → j < c → ck' [j] = ck [j] ∧ cn' [j] = cn [j] ∧ cb' [j] = cb [j]) (e2 : ck' [c] = lk [i] ∧ cn' [c] = i + 1 ∧ cb' [c] = lb [i]) : Chs m pk pn pb lk ln lb B i' c' ck' cn' cb' := by
  subst hi hc
  have hb := h.bd h0
  refine ⟨?_, ?_, fun j a b => ?_, fun q a b hq => ?_⟩
  · rw [show (i + 1).toNat = i.toNat + 1 by omega, chN, Int.toNat_of_nonneg h0, if_pos hn, h.num]; omega
  · obtain ⟨g1, g2, g3⟩ := e1 0 (by omega) (by omega)
    rw [g1, g2, g3]; exact h.head
  · by_cases e : j = c
    · subst e; exact ⟨i, by omega, e2⟩
    · obtain ⟨q, hq, r⟩ := h.src j a (by omega)
      obtain ⟨g1, g2, g3⟩ := e1 j (by omega) (by omega)
      rw [g1, g2, g3]
      exact ⟨q, by omega, r⟩
  · by_cases e : q = i
    · subst e; exact ⟨c, by omega, e2.2.1⟩
    · obtain ⟨j, hj, hjn⟩ := h.all q a (by omega) hq
      exact ⟨j, by omega, (e1 j (by omega) (by omega)).2.1.trans hjn⟩
/-- the pages behind the first one, at their places -/
def putsF (f : Int → Str) (ck cn : Ix → Int) (cb : Ix → Str) : Nat → Int → Str
  | 0 => f
  | j + 1 => upF (putsF f ck cn cb j) (cn [(j : Int) + 1]) (sealF (ck [(j : Int) + 1]) (cn [(j : Int) + 1]) (cb [(j : Int) + 1]))
theorem putsF_out {p : Int} : ∀ k : Nat, (∀ j : Int, 1 ≤ j → j ≤ k → cn [j] ≠ p) → putsF f ck cn cb k p = f p
  | 0, _ => rfl
  | k + 1, h => by
    rw [putsF, upF, if_neg (fun e => h ((k : Int) + 1) (by omega) (by omega) e.symm)]
    exact putsF_out k fun j a b => h j a (by omega)
theorem putsF_in {p : Int} : ∀ k : Nat, (∃ j : Int, 1 ≤ j ∧ j ≤ k ∧ cn [j] = p) → ∃ j : Int, (1 ≤ j ∧ j ≤ k) ∧ cn [j] = p ∧ putsF f ck cn cb k p = sealF (ck [j]) p (cb [j])
  | 0, ⟨j, a, b, _⟩ => by omega
  | k + 1, ⟨j, a, b, hj⟩ => by
    rw [putsF, upF]
    by_cases e : p = cn [(k : Int) + 1]
    · rw [if_pos e]
      exact ⟨(k : Int) + 1, by omega, e.symm, by rw [e]⟩
    · rw [if_neg e]
      have : j ≠ (k : Int) + 1 := fun e' => e (by rw [← e', hj])
      obtain ⟨j', h1, h2, h3⟩ := putsF_in (p := p) k ⟨j, a, by omega, hj⟩
      exact ⟨j', by omega, h2, h3⟩
/-- the disk behind a Commit -/
theorem lay_next (h : Lay f base tx m pk pn pb) (hc : Chs m pk pn pb lk ln lb B m' c ck cn cb) (hB : B = headF (tx + 1) m') (hm : 0 ≤ m' ∧ m' ≤ base - 1) (ht : 1 ≤ tx ∧ tx ≤ 4294967294)
    (hl : ∀ i : Int, 0 ≤ i → i < m' → 1 ≤ lk [i] ∧ ln [i] = i ∧ okP (lk [i]) i (lb [i])) (hok : ∀ j : Int, 0 ≤ j → j < c → okP (ck [j]) (cn [j]) (cb [j])) (hf : f' = upF (putsF (comF base tx c ck cn cb f) ck cn cb (c - 1).toNat) 0 (sealF 1 0 B)) : Lay f' base (tx + 1) m' lk ln lb := by
  have hb := hc.bd hm.1
  have hcn : ∀ j : Int, 1 ≤ j → j < c → 1 ≤ cn [j] ∧ cn [j] ≤ base - 1 := fun j a b => by
    obtain ⟨q, hq, -, h2, -⟩ := hc.src j a b
    omega
  subst hf
  refine ⟨hm, by rw [upF, if_pos rfl, hB], fun i h0 h1 => ?_, hl, .inr ⟨tx, 1, 0, B, by omega, ?_, ?_⟩⟩
  · rw [upF, if_neg (by omega)]
    by_cases e : ∃ j : Int, 1 ≤ j ∧ j ≤ ((c - 1).toNat : Int) ∧ cn [j] = i + 1
    · obtain ⟨j, g1, g2, g3⟩ := putsF_in (f := comF base tx c ck cn cb f) (ck := ck) (cb := cb) _ e
      obtain ⟨q, hq, r1, r2, r3⟩ := hc.src j (by omega) (by omega)
      obtain rfl : q = i := by omega
      rw [g3, r1, r3]
    · have e' : ∀ j : Int, 1 ≤ j → j ≤ ((c - 1).toNat : Int) → cn [j] ≠ i + 1 := fun j a b q => e ⟨j, a, b, q⟩
      rw [putsF_out _ e', comF, if_neg (by omega), if_neg (by omega)]
      by_cases hch : Chg m pk pn pb lk ln lb i
      · obtain ⟨j, hj, hjn⟩ := hc.all i h0 h1 hch
        exact absurd hjn (e' j (by omega) (by omega))
      · have hch' := Classical.not_not.1 hch
        rw [h.pages i h0 hch'.1, hch'.2.1, hch'.2.2.2]
  · have := hok 0 (by omega) (by omega)
    rwa [hc.head.1, hc.head.2.1, hc.head.2.2] at this
  · rw [upF, if_neg (by omega), putsF_out _ (fun j a b q => by have := hcn j a (by omega); omega), comF, if_pos (by omega), show base - base = 0 by omega, hc.head.1, hc.head.2.1, hc.head.2.2]
end
end Go.Proofs.Ytilmhjojbolbeaa.AM

namespace Go.Proofs.Ytilmhjojbolbeaa.AM
open Go
set_option maxRecDepth 100000
set_option maxHeartbeats 4000000
section
variable {n L w fl q base log tx tx0 c m m' k a i i' j v u : Int} {f f' f1 : Int → Str} {D D2 : DK} {b s S B : Str} {pk pn lk ln ck cn ck' cn' : Ix → Int} {pb lb cb cb' : Ix → Str} {fu : Bool}
/-- j pages are at their places -/
structure Hm (n L w fl j : Int) (f : Int → Str) (ck cn : Ix → Int) (cb : Ix → Str) (D2 : DK) : Prop where
  db : DB n (L + j) (w + j) fl (putsF f ck cn cb j.toNat) D2
theorem Hm.start (h : DB n L w fl f D) : Hm n L w fl 0 f ck cn cb D := ⟨by simpa [putsF] using h⟩
theorem Hm.step {j' : Int} {g1 g2 : Ix → Int} {g3 : Ix → Str} (h : DB n (L + j + 1) (w + j + 1) fl (upF (putsF f ck cn cb j.toNat) q (sealF k q b)) D2) (h0 : 0 ≤ j) (hj : j + 1 = j') (e1 : ∀ j : Int, ck [j + 1] = g1 [j]) (k1 : g1 [j] = k) (e2 : ∀ j : Int, cn [j + 1] = g2 [j]) (k2 : g2 [j] = q) (e3 : ∀ j : Int, cb [j + 1] = g3 [j]) (k3 : g3 [j] = b) : Hm n L w fl j' f ck cn cb D2 := by
  have hk := (e1 j).trans k1; have hq := (e2 j).trans k2; have hb := (e3 j).trans k3
  subst hj
  refine ⟨?_⟩
  rw [show (j + 1).toNat = j.toNat + 1 by omega, putsF, Int.toNat_of_nonneg h0, hk, hq, hb]
  exact h.cast (by omega) (by omega) rfl
abbrev HP (n c : Int) (ck cn : Ix → Int) (cb : Ix → Str) : Prop := ∀ j : Int, 1 ≤ j → j < c → (1 ≤ ck [j] ∧ ck [j] ≤ 5) ∧ (0 ≤ cn [j] ∧ cn [j] < n) ∧ (cb [j]).length ≤ 244
theorem hp_k (hp : HP n c ck cn cb) {g : Ix → Int} (e : ∀ j : Int, ck [j + 1] = g [j]) (e' : g [j] = k) (h0 : 0 ≤ j) (h1 : j + 1 < c) : 1 ≤ k ∧ k ≤ 5 := by rw [← e', ← e]; exact (hp (j + 1) (by omega) h1).1
theorem hp_n (hp : HP n c ck cn cb) {g : Ix → Int} (e : ∀ j : Int, cn [j + 1] = g [j]) (e' : g [j] = k) (h0 : 0 ≤ j) (h1 : j + 1 < c) : 0 ≤ k ∧ k < n := by rw [← e', ← e]; exact (hp (j + 1) (by omega) h1).2.1
theorem hp_b (hp : HP n c ck cn cb) {g : Ix → Str} (e : ∀ j : Int, cb [j + 1] = g [j]) (e' : g [j] = s) (h0 : 0 ≤ j) (h1 : j + 1 < c) : s.length ≤ 244 := by rw [← e', ← e]; exact (hp (j + 1) (by omega) h1).2.2
theorem home_end (h : DB n (L + j + 1 + 1 + 1) (w + j + 1) (fl + 1 + 1) (upF (putsF f ck cn cb j.toNat) q (sealF k q b)) D2) (hj : j = c - 1) (h0 : ck [0] = 1 ∧ cn [0] = 0 ∧ cb [0] = B) (e1 : ck [0] = k) (e2 : cn [0] = q) (e3 : cb [0] = b) : DB n (L + c + 2) (w + c) (fl + 2) (upF (putsF f ck cn cb (c - 1).toNat) 0 (sealF 1 0 B)) D2 := by
  obtain rfl : k = 1 := by omega
  obtain rfl : q = 0 := by omega
  obtain rfl : b = B := e3.symm.trans h0.2.2
  subst hj
  exact h.cast (by omega) (by omega) (by omega)
theorem home_ok (hD : DB n L w fl f D) (hL : L ≤ 1000000) (hc : 1 ≤ c ∧ c ≤ 1000) (h0 : ck [0] = 1 ∧ cn [0] = 0 ∧ cb [0] = B) (hB : B.length ≤ 244) (hn : 0 < n) (hp : HP n c ck cn cb) :
    TriS Try.prog 66 [.pt 0 0, .l c [.i .i64 ck, .i .i64 cn, .s cb] fu] (pagS 0 1 2 3 4 5 base log tx m D pk pn pb)
      (fun r σ => ∃ D', DB n (L + c + 2) (w + c) (fl + 2) (upF (putsF f ck cn cb (c - 1).toNat) 0 (sealF 1 0 B)) D' ∧ r = .b true ∧ σ = pagS 0 1 2 3 4 100 base log tx m D' pk pn pb) := by
  have hn' := hD.n1000
  refine trio Try.f66 ORD66 fun H Tri hH hTri => ?_
  refine nm ?_
  intro v_1 e_2
  generalize e_3 : (fun ix => ck ((hd ix + 1) :: ix.tail)) = c_4
  have f_5 := fun (j : Int) => congrFun e_3 [j]
  simp only [AM.hd, List.tail_cons, Int.add_zero] at f_5
  generalize e_6 : (fun ix => cn ((hd ix + 1) :: ix.tail)) = c_7
  have f_8 := fun (j : Int) => congrFun e_6 [j]
  simp only [AM.hd, List.tail_cons, Int.add_zero] at f_8
  generalize e_9 : (fun ix => cb ((hd ix + 1) :: ix.tail)) = c_10
  have f_11 := fun (j : Int) => congrFun e_9 [j]
  simp only [AM.hd, List.tail_cons, Int.add_zero] at f_11
  refine ⟨by rw [hH]; simp [o0]; omega, ?_⟩
  refine nm ?_
  refine' ⟨0, lp (Int × DK) [9, 8, 0, 1, 4] [] 301 (fun (j, D2) => ([(10, .i .i64 j)], [(0, .st [.pt 2 0, .pt 3 0, .i .i64 base, .i .i64 log, .sl 1 0 m 3 false] 115), (1, .ar m [.i .i64 pk, .i .i64 pn, .s pb] 73), (2, .st [.pt 3 0, .i .i64 base, .i .i64 log, .i .i64 tx] 159), (3, .st [.sl 4 0 D2.n 1 false, .sl 300 0 D2.m 2 false, .i .i64 D2.r, .i .i64 D2.w, .i .i64 D2.f, .i .i64 (-1)] 128), (4, .ar D2.n [.s D2.pg] 9), (300, .ar D2.k [.i .i64 D2.wn, .s D2.ws] 155)], ((0 ≤ j ∧ j ≤ c - 1) ∧ (Hm n L w fl j f ck cn cb D2)), (c - j).toNat)) (0, D) ⟨oS, (by exact Hm.start hD)⟩ ?r_12⟩
  rintro ⟨j, D2⟩ ⟨hj, hm⟩
  refine nm ?_
  refine ts ?_ ?_
  · intro e_13 v_14 e_15 v_16 e_17 s_18 e_19
    generalize e_20 : (fun ix => c_4 (j :: ix)) = c_21
    generalize e_22 : (fun ix => c_7 (j :: ix)) = c_23
    generalize e_24 : (fun ix => c_10 (j :: ix)) = c_25
    refine ca [0, 1, 2, 3, 4, 300] (t := (putS (by exact hm.db) oS gS gS gS)) (k := ?k_26)
    rintro _ _ ⟨x_27, h_28, rfl, rfl⟩
    refine nm ?_
    intro v_29 e_30
    exact rn (_, ⟨_, _, _, _, _, _, _, _, _⟩) (h := ⟨⟨oS, oS⟩, (by exact Hm.step ‹_› hj.1 ‹_› ‹_› ‹_› ‹_› ‹_› ‹_› ‹_›)⟩)
  · intro e_31
    refine nm ?_
    refine ca [3, 4, 300] (t := (flushB (by exact hm.db) oS)) (k := ?k_32)
    rintro _ _ ⟨x_33, v_34, h_35, rfl, rfl⟩
    refine nm ?_
    intro v_36 e_37 v_38 e_39 s_40 e_41
    generalize e_42 : (fun ix => ck (0 :: ix)) = c_43
    generalize e_44 : (fun ix => cn (0 :: ix)) = c_45
    generalize e_46 : (fun ix => cb (0 :: ix)) = c_47
    refine ca [0, 1, 2, 3, 4, 300] (t := (putS aS oS oS oS iA)) (k := ?k_48)
    rintro _ _ ⟨x_49, h_50, rfl, rfl⟩
    refine nm ?_
    refine ca [3, 4, 421] (t := (flushB aS oS)) (k := ?k_51)
    rintro _ _ ⟨x_52, v_53, h_54, rfl, rfl⟩
    refine nm ?_
    exact fi ⟨⟨_, _, _, _, _, _, _, _, _⟩, (by exact home_end ‹_› (by omega) h0 ‹_› ‹_› ‹_›), rfl, rfl⟩
end
end Go.Proofs.Ytilmhjojbolbeaa.AM

namespace Go.Proofs.Ytilmhjojbolbeaa.AM
open Go
set_option maxRecDepth 100000
set_option maxHeartbeats 4000000
section
variable {n L w fl q base log tx tx0 c m m' k a i i' j v u : Int} {f f' f1 : Int → Str} {D D2 : DK} {b s S B : Str} {pk pn lk ln ck cn ck' cn' : Ix → Int} {pb lb cb cb' : Ix → Str} {fu : Bool}
theorem pclone_tri (hn : 0 ≤ m ∧ m ≤ 1000000) : TriS Try.prog 68 [.l m [.i .i64 lk, .i .i64 ln, .s lb] fu] [] (fun r σ => ∃ (ck cn : Ix → Int) (cb : Ix → Str), (∀ j : Int, 0 ≤ j → j < m → ck [j] = lk [j] ∧ cn [j] = ln [j] ∧ cb [j] = lb [j]) ∧ r = .sl 100 0 m 3 false ∧ σ = [(100, .ar m [.i .i64 ck, .i .i64 cn, .s cb] 73)]) := by
  refine trio Try.f68 ORD68 fun H Tri hH hTri => ?_
  refine nm ?_
  intro b_1 h_2
  rcases b_1 with _ | _
  · simp only [boolS] at h_2
    refine nm ?_
    refine' ⟨_, _, ⟨_, _, _, ?p_3, rfl, rfl⟩, ?c_4, ?s_5⟩
    case s_5 => cbv <;> repeat' first | exact rfl | exact trivial | apply And.intro
    case c_4 => rfl
    case p_3 => intros; subst_vars; simp [AM.hd]; done
  · simp only [boolS] at h_2
    refine nm ?_
    refine' ⟨_, _, ⟨_, _, _, ?p_6, rfl, rfl⟩, ?c_7, ?s_8⟩
    case s_8 => cbv <;> repeat' first | exact rfl | exact trivial | apply And.intro | omega
    case c_7 => rfl
    case p_6 => omega
    exact fun _ => 0
    exact fun _ => 0
    exact fun _ => []
theorem jtxS : TriS Try.prog 74 [.pt 0 0] (jouS 0 1 2 3 base log tx D) (fun r σ => r = .i .i64 tx ∧ σ = jouS 0 1 2 3 base log tx D) :=
  (jtx base log tx D).mono (by rintro r σ ⟨v, rfl, rfl, rfl⟩; exact ⟨rfl, rfl⟩)
theorem txS : TriS Try.prog 33 [.pt 0 0] (pagS 0 1 2 3 4 5 base log tx m D pk pn pb) (fun r σ => r = .i .i64 tx ∧ σ = pagS 0 1 2 3 4 5 base log tx m D pk pn pb) := by
  refine trio Try.f33 ORD33 fun H Tri hH hTri => ?_
  refine nm ?_
  refine ca [2, 3, 4, 5] (t := jtxS) (k := ?k_1)
  rintro _ _ ⟨rfl, rfl⟩
  refine nm ?_
  exact fi ⟨rfl, rfl⟩
theorem jnextS (ht : 1 ≤ tx ∧ tx < 4294967295) : TriS Try.prog 67 [.pt 0 0] (jouS 0 1 2 3 base log tx D) (fun r σ => ∃ t, t = tx + 1 ∧ r = .i .i64 0 ∧ σ = jouS 0 1 2 3 base log t D) := jnext base log tx D ht
/-- pages that may be -/
def Good (base m : Int) (lk ln : Ix → Int) (lb : Ix → Str) : Prop := ∀ i : Int, 0 ≤ i → i < m → lk [i] ≠ 0 ∧ ln [i] = i ∧ okP (lk [i]) (ln [i]) (lb [i])
theorem good_next (h : ∀ j : Int, 0 ≤ j → j < i → lk [j] ≠ 0 ∧ ln [j] = j ∧ okP (lk [j]) (ln [j]) (lb [j])) (hi : i + 1 = i') (hk : lk [i] = k) (hq : ln [i] = q) (hb : lb [i] = b) (e : k ≠ 0 ∧ q = i ∧ okP k q b) : ∀ j : Int, 0 ≤ j → j < i' → lk [j] ≠ 0 ∧ ln [j] = j ∧ okP (lk [j]) (ln [j]) (lb [j]) := fun j h0 h1 => by
  by_cases e1 : j = i
  · subst e1; rw [hk, hq, hb]; exact e
  · exact h j h0 (by omega)
theorem Chs.fr (h : Chs m pk pn pb lk ln lb B i c ck cn cb) : Chs m pk pn pb lk ln lb B i c (fun ix => ck ((AM.hd ix + 0) :: ix.tail)) (fun ix => cn ((AM.hd ix + 0) :: ix.tail)) (fun ix => cb ((AM.hd ix + 0) :: ix.tail)) := by
  have e1 : ∀ j : Int, ck ((AM.hd [j] + 0) :: [j].tail) = ck [j] := fun j => by simp [AM.hd]
  have e2 : ∀ j : Int, cn ((AM.hd [j] + 0) :: [j].tail) = cn [j] := fun j => by simp [AM.hd]
  have e3 : ∀ j : Int, cb ((AM.hd [j] + 0) :: [j].tail) = cb [j] := fun j => by simp [AM.hd]
  refine ⟨h.num, ?_, fun j a b => ?_, fun q a b hq => ?_⟩
  · show ck ((AM.hd [(0 : Int)] + 0) :: [(0 : Int)].tail) = 1 ∧ cn ((AM.hd [(0 : Int)] + 0) :: [(0 : Int)].tail) = 0 ∧ cb ((AM.hd [(0 : Int)] + 0) :: [(0 : Int)].tail) = B
    rw [e1, e2, e3]; exact h.head
  · obtain ⟨q, r⟩ := h.src j a b
    refine ⟨q, ?_⟩
    show _ ∧ ck ((AM.hd [j] + 0) :: [j].tail) = _ ∧ cn ((AM.hd [j] + 0) :: [j].tail) = _ ∧ cb ((AM.hd [j] + 0) :: [j].tail) = _
    rw [e1, e2, e3]; exact r
  · obtain ⟨j, hj, hjn⟩ := h.all q a b hq
    exact ⟨j, hj, (e2 j).trans hjn⟩
theorem Chs.okp (h : Chs m pk pn pb lk ln lb B i c ck cn cb) (hi : i = m') (hg : Good base m' lk ln lb) (hm : 0 ≤ m' ∧ m' ≤ 998) (hB : B.length = 6) : ∀ j : Int, 0 ≤ j → j < c → okP (ck [j]) (cn [j]) (cb [j]) := fun j h0 h1 => by
  subst hi
  by_cases e : j = 0
  · subst e
    rw [h.head.1, h.head.2.1, h.head.2.2]
    exact ⟨by omega, by omega, by omega, fun h => by omega⟩
  · obtain ⟨q, hq, r1, r2, r3⟩ := h.src j (by omega) h1
    obtain ⟨g1, g2, g3⟩ := hg q hq.1 hq.2
    rw [r1, r2, r3]
    obtain ⟨a, b, c, d⟩ := g3
    exact ⟨a, by omega, c, d⟩
theorem Chs.hp (h : Chs m pk pn pb lk ln lb B i c ck cn cb) (hi : i = m') (hg : Good base m' lk ln lb) (hm : 0 ≤ m' ∧ m' + 1 < n) (hB : B.length = 6) : HP n c ck cn cb := fun j h0 h1 => by
  subst hi
  obtain ⟨q, hq, r1, r2, r3⟩ := h.src j (by omega) h1
  obtain ⟨g1, g2, g3⟩ := hg q hq.1 hq.2
  rw [r1, r2, r3]
  obtain ⟨a, b, c, d⟩ := g3
  exact ⟨by omega, by omega, by omega⟩
theorem Lay.congr (h : Lay f base tx m pk pn pb) (e : ∀ j : Int, 0 ≤ j → j < m → lk [j] = pk [j] ∧ ln [j] = pn [j] ∧ lb [j] = pb [j]) : Lay f base tx m lk ln lb :=
  ⟨h.hm, h.head, fun i a b => by obtain ⟨e1, e2, e3⟩ := e i a b; rw [e1, e3]; exact h.pages i a b, fun i a b => by obtain ⟨e1, e2, e3⟩ := e i a b; rw [e1, e2, e3]; exact h.ok i a b, h.no⟩
theorem DB.up {L' w' fl' : Int} (h : DB n L w fl f D) (hL : L ≤ L') (e2 : w = w') (e3 : fl = fl') : DB n L' w' fl' f D := by
  subst e2 e3
  exact ⟨DK.ok_mono h.ok hL, h.sz, h.hw, h.hf, h.get⟩
theorem jcommit_bad (fu : Bool) (hs : 2 ≤ log ∧ log ≤ 999) (hm0 : 0 ≤ c ∧ c ≤ 1000000000) (hm : ¬ c ≤ log - 1) (hp : ∀ j : Int, 0 ≤ j → j < c → okP (ck [j]) (cn [j]) (cb [j])) :
    TriS Try.prog 65 [.pt 0 0, .l c [.i .i64 ck, .i .i64 cn, .s cb] fu] (jouS 0 1 2 3 base log tx D) (fun r σ => r = .i .i64 3 ∧ σ = jouS 0 1 2 3 base log tx D) :=
  (commit_bad c ck cn cb fu hm0 D hs (.inr (.inl (by omega)))).mono (by rintro r σ ⟨e, h, rfl, rfl⟩; exact ⟨by rw [h.2.2 (by omega) hp], rfl⟩)
theorem good_end {base m' : Int} {lk ln : Ix → Int} {lb : Ix → Str} (h : Good base m' lk ln lb) : ∀ i : Int, 0 ≤ i → i < m' → 1 ≤ lk [i] ∧ ln [i] = i ∧ okP (lk [i]) i (lb [i]) := fun i a b => by
  obtain ⟨g1, g2, g3⟩ := h i a b
  rw [g2] at g3
  exact ⟨by have := g3.1; omega, g2, g3⟩
theorem not_chg {q' k' : Int} {s' : Str} (h : i < m) (p1 : pk [i] = k) (p2 : pn [i] = q) (p3 : pb [i] = s) (l1 : lk [i] = k') (l2 : ln [i] = q') (l3 : lb [i] = s') (e : (decide (k = k') && (decide (q = q') && (decide (s = s') && true))) = true) : ¬ Chg m pk pn pb lk ln lb i := by
  simp only [Bool.and_true, Bool.and_eq_true, decide_eq_true_eq] at e
  exact fun hn => hn ⟨h, by rw [p1, l1]; exact e.1, by rw [p2, l2]; exact e.2.1, by rw [p3, l3]; exact e.2.2⟩
theorem chg_ne {q' k' : Int} {s' : Str} (p1 : pk [i] = k) (p2 : pn [i] = q) (p3 : pb [i] = s) (l1 : lk [i] = k') (l2 : ln [i] = q') (l3 : lb [i] = s') (e : (decide (k = k') && (decide (q = q') && (decide (s = s') && true))) = false) : Chg m pk pn pb lk ln lb i := fun h => by
  obtain ⟨_, h1, h2, h3⟩ := h
  rw [p1, l1] at h1; rw [p2, l2] at h2; rw [p3, l3] at h3
  simp [h1, h2, h3] at e
theorem chg_out (h : m ≤ i) : Chg m pk pn pb lk ln lb i := fun h' => by have := h'.1; omega
theorem Chs.add {c' : Int} {g1 g2 : Ix → Int} {g3 : Ix → Str} (h : Chs m pk pn pb lk ln lb B i c ck cn cb) (h0 : 0 ≤ i) (hi : i + 1 = i') (hc : c + 1 = c') (e1 : (fun ix => bif decide (AM.hd ix < c) then ck ix else k) = g1) (e2 : (fun ix => bif decide (AM.hd ix < c) then cn ix else q) = g2) (e3 : (fun ix => bif decide (AM.hd ix < c) then cb ix else s) = g3)
    (l1 : lk [i] = k) (l3 : lb [i] = s) (hq : q = i + 1) (hn : Chg m pk pn pb lk ln lb i) : Chs m pk pn pb lk ln lb B i' c' g1 g2 g3 := by
  subst e1 e2 e3 l1 l3 hq
  refine h.more h0 hi hn hc (fun j a b => ?_) ?_
  · simp [AM.hd, b]
  · simp [AM.hd]
theorem ispage_ok {k q i : Int} {b : Str} (h : k ≠ 0 ∧ q = i ∧ okP k q b) : TriS Try.prog 64 [.ag [.i .i64 k, .i .i64 q, .s b], .i .i64 i] [] (fun r σ => r = .b true ∧ σ = []) :=
  ispage_tri.mono (by rintro r σ ⟨v, h1, rfl, rfl⟩; exact ⟨by rw [h1.2 h], rfl⟩)
theorem good_at {base m i k q : Int} {lk ln : Ix → Int} {lb : Ix → Str} {b : Str} (hg : Good base m lk ln lb) (h0 : 0 ≤ i) (h1 : i < m) (e1 : lk [i] = k) (e2 : ln [i] = q) (e3 : lb [i] = b) : k ≠ 0 ∧ q = i ∧ okP k q b := by
  subst e1 e2 e3; exact hg i h0 h1
end
section
variable (n L w fl base log tx m m' : Int) (f : Int → Str) (D : DK) (pk pn lk ln : Ix → Int) (pb lb : Ix → Str) (fu : Bool)
theorem pcommit_bad1 (hD : DB n L w fl f D) (hL : L ≤ 100000) (hb : base = n - log ∧ 2 ≤ log ∧ log ≤ 900 ∧ 2 ≤ base) (hl : Lay f base tx m pk pn pb) (ht : 1 ≤ tx ∧ tx ≤ 1000000) (hm : 0 ≤ m' ∧ m' ≤ 1000) (hg : ¬ Good base m' lk ln lb) :
    TriS Try.prog 29 [.pt 0 0, .l m' [.i .i64 lk, .i .i64 ln, .s lb] fu] (pagS 0 1 2 3 4 5 base log tx m D pk pn pb) (fun r σ => r = .i .i64 1 ∧ σ = pagS 0 1 2 3 4 5 base log tx m D pk pn pb) := by
  have hn := hD.n1000
  refine trio Try.f29 ORD29 fun H Tri hH hTri => ?_
  refine nm ?_
  refine' ⟨0, lp Int [14, 13, 0, 1, 4] [0, 1, 2, 3, 4, 5] 100 (fun i => ([(15, .i .i64 i)], [], ((0 ≤ i ∧ i ≤ m') ∧ (∀ j : Int, 0 ≤ j → j < i → lk [j] ≠ 0 ∧ ln [j] = j ∧ okP (lk [j]) (ln [j]) (lb [j]))), (m' - i).toNat)) 0 ⟨oS, oS⟩ ?r_1⟩
  rintro i ⟨hi, hgj⟩
  refine nm ?_
  split
  case h_2 => rename_i hh; exact absurd hh (by simp only [hH]; ((intro h9; have h9 := of_decide_eq_false h9; exact hg fun j a b => hgj j a (by omega))))
  refine nm ?_
  intro v_2 e_3 v_4 e_5 s_6 e_7
  generalize e_8 : (fun ix => lk (i :: ix)) = c_9
  generalize e_10 : (fun ix => ln (i :: ix)) = c_11
  generalize e_12 : (fun ix => lb (i :: ix)) = c_13
  refine ⟨?q_14, ?_⟩
  case q_14 => simp_all; done
  refine nm ?_
  generalize e_15 : H Bool _ = b_16
  simp only [hH] at e_15
  replace e_15 := boolN e_15
  refine ca [] (t := ispage_tri) (k := ?k_17)
  rintro _ _ ⟨b_18, h_19, rfl, rfl⟩
  refine nm ?_
  rcases b_18 with _ | _
  · simp only [boolS] at h_19
    refine nm ?_
    exact fi ⟨rfl, rfl⟩
  · simp only [boolS] at h_19
    refine nm ?_
    intro v_20 e_21
    exact rn _ (h := ⟨⟨oS, gS⟩, gS⟩) (m := by grind)
theorem pcommit_bad2 (hD : DB n L w fl f D) (hL : L ≤ 100000) (hb : base = n - log ∧ 2 ≤ log ∧ log ≤ 900 ∧ 2 ≤ base) (hl : Lay f base tx m pk pn pb) (ht : 1 ≤ tx ∧ tx ≤ 1000000) (hm : 0 ≤ m' ∧ m' ≤ 1000) (hg : Good base m' lk ln lb) (hm2 : ¬ m' ≤ base - 1) :
    TriS Try.prog 29 [.pt 0 0, .l m' [.i .i64 lk, .i .i64 ln, .s lb] fu] (pagS 0 1 2 3 4 5 base log tx m D pk pn pb) (fun r σ => r = .i .i64 2 ∧ σ = pagS 0 1 2 3 4 5 base log tx m D pk pn pb) := by
  have hn := hD.n1000
  refine trio Try.f29 ORD29 fun H Tri hH hTri => ?_
  refine nm ?_
  refine' ⟨0, lp Int [14, 13, 0, 1, 4] [0, 1, 2, 3, 4, 5] 100 (fun i => ([(15, .i .i64 i)], [], ((0 ≤ i ∧ i ≤ m')), (m' - i).toNat)) 0 oS ?r_1⟩
  rintro i hi
  simp only [] at hi
  refine nm ?_
  refine ts ?_ ?_
  · intro e_2 v_3 e_4 v_5 e_6 s_7 e_8
    generalize e_9 : (fun ix => lk (i :: ix)) = c_10
    generalize e_11 : (fun ix => ln (i :: ix)) = c_12
    generalize e_13 : (fun ix => lb (i :: ix)) = c_14
    refine ca [] (t := (ispage_ok (by exact good_at hg hi.1 ‹_› ‹_› ‹_› ‹_›))) (k := ?k_15)
    rintro _ _ ⟨rfl, rfl⟩
    refine nm ?_
    intro v_16 e_17
    exact rn _ (h := ⟨oS, oS⟩)
  · intro e_18
    refine nm ?_
    refine ca [0, 1, 2, 3, 4, 5] (t := (roomS oS)) (k := ?k_19)
    rintro _ _ ⟨v_20, h_21, rfl, rfl⟩
    refine nm ?_
    exact fi ⟨rfl, rfl⟩
end
end Go.Proofs.Ytilmhjojbolbeaa.AM

namespace Go.Proofs.Ytilmhjojbolbeaa.AM
open Go
set_option maxRecDepth 100000
set_option maxHeartbeats 4000000
section
variable (n L w fl base log tx m m' : Int) (f : Int → Str) (D : DK) (pk pn lk ln : Ix → Int) (pb lb : Ix → Str) (fu : Bool)
theorem lay_fin {t i c v : Int} {B : Str} {ck cn pk' pn' : Ix → Int} {cb pb' : Ix → Str} {base tx m m' : Int} {f : Int → Str} {pk pn lk ln : Ix → Int} {pb lb : Ix → Str} (h : Lay f base tx m pk pn pb) (hc : Chs m pk pn pb lk ln lb B i c ck cn cb) (hi : i = m') (hB : B = headF v m') (hv : tx + 1 = v) (hB6 : B.length = 6) (ht' : t = tx + 1) (hm : 0 ≤ m' ∧ m' ≤ base - 1 ∧ m' ≤ 998) (ht : 1 ≤ tx ∧ tx ≤ 1000000)
    (hg : Good base m' lk ln lb) (e : ∀ j : Int, 0 ≤ j → j < m' → pk' [j] = lk [j] ∧ pn' [j] = ln [j] ∧ pb' [j] = lb [j]) : Lay (upF (putsF (comF base tx c ck cn cb f) ck cn cb (c - 1).toNat) 0 (sealF 1 0 B)) base t m' pk' pn' pb' := by
  subst hi hv ht'
  exact (lay_next h hc hB ⟨hm.1, hm.2.1⟩ (by omega) (good_end hg) (hc.okp rfl hg ⟨hm.1, hm.2.2⟩ hB6) rfl).congr e
theorem pcommit_ok (hD : DB n L w fl f D) (hL : L ≤ 100000) (hb : base = n - log ∧ 2 ≤ log ∧ log ≤ 900 ∧ 2 ≤ base) (hl : Lay f base tx m pk pn pb) (ht : 1 ≤ tx ∧ tx ≤ 1000000) (hm : 0 ≤ m' ∧ m' ≤ 1000) (hg : Good base m' lk ln lb) (hm2 : m' ≤ base - 1) (hf : 1 + chN m pk pn pb lk ln lb m'.toNat ≤ log - 1) :
    TriS Try.prog 29 [.pt 0 0, .l m' [.i .i64 lk, .i .i64 ln, .s lb] fu] (pagS 0 1 2 3 4 5 base log tx m D pk pn pb) (fun r σ => ∃ (D' : DK) (f' : Int → Str) (t : Int) (pk' pn' : Ix → Int) (pb' : Ix → Str), DB n (L + 5000) (w + 2 * chN m pk pn pb lk ln lb m'.toNat + 3) (fl + 4) f' D' ∧ t = tx + 1 ∧ Lay f' base t m' pk' pn' pb' ∧ (∀ j : Int, 0 ≤ j → j < m' → pk' [j] = lk [j] ∧ pn' [j] = ln [j] ∧ pb' [j] = lb [j]) ∧ r = .i .i64 0 ∧ σ = pagS 0 100 2 3 4 101 base log t m' D' pk' pn' pb') := by
  have hn := hD.n1000
  refine trio Try.f29 ORD29 fun H Tri hH hTri => ?_
  refine nm ?_
  refine' ⟨0, lp Int [14, 13, 0, 1, 4] [0, 1, 2, 3, 4, 5] 100 (fun i => ([(15, .i .i64 i)], [], ((0 ≤ i ∧ i ≤ m')), (m' - i).toNat)) 0 oS ?r_1⟩
  rintro i hi
  simp only [] at hi
  refine nm ?_
  refine ts ?_ ?_
  · intro e_2 v_3 e_4 v_5 e_6 s_7 e_8
    generalize e_9 : (fun ix => lk (i :: ix)) = c_10
    generalize e_11 : (fun ix => ln (i :: ix)) = c_12
    generalize e_13 : (fun ix => lb (i :: ix)) = c_14
    refine ca [] (t := (ispage_ok (by exact good_at hg hi.1 ‹_› ‹_› ‹_› ‹_›))) (k := ?k_15)
    rintro _ _ ⟨rfl, rfl⟩
    refine nm ?_
    intro v_16 e_17
    exact rn _ (h := ⟨oS, oS⟩)
  · intro e_18
    refine nm ?_
    refine ca [0, 1, 2, 3, 4, 5] (t := (roomS oS)) (k := ?k_19)
    rintro _ _ ⟨v_20, h_21, rfl, rfl⟩
    refine nm ?_
    refine ca [0, 1, 2, 3, 4, 5] (t := txS) (k := ?k_22)
    rintro _ _ ⟨rfl, rfl⟩
    refine nm ?_
    intro v_23 e_24
    refine ca [] (t := (head_any oS oS)) (k := ?k_25)
    rintro _ _ ⟨x_26, ⟨h_27, h_28⟩, rfl, rfl⟩
    refine nm ?_
    refine' ⟨0, lp (Bool × Int × Int × (Ix → Int) × (Ix → Int) × (Ix → Str)) [38, 37, 0, 1, 4] [0, 1, 2, 3, 4, 5] 311 (fun (z, i, c, ck, cn, cb) => ([(39, .i .i64 i), (7, bif z then .l c [.i .i64 ck, .i .i64 cn, .s cb] true else .sl 310 0 c 3 false)], [] ++ (bif z then [] else [(310, .ar c [.i .i64 ck, .i .i64 cn, .s cb] 73)]), ((0 ≤ i ∧ i ≤ m') ∧ (Chs m pk pn pb lk ln lb ‹Str› i c ck cn cb)), (m' - i).toNat)) (true, 0, 1, _, _, _) ⟨?p_29, ?p_30⟩ ?r_31 ?s_32⟩
    case s_32 => cbv <;> repeat' first | exact rfl | exact trivial | exact Or.inr trivial | exact Or.inl rfl | apply And.intro | omega | (split <;> first | exact trivial | (exfalso; simp_all; done)) | (subst_vars; simp [o0]; done) | refine Or.inr ?_
    case p_29 => omega
    case p_30 => (exact Chs.start ⟨rfl, rfl, rfl⟩)
    rintro ⟨z, i, c, ck, cn, cb⟩ ⟨hi, hch⟩
    obtain rfl | rfl := (Bool.eq_false_or_eq_true z)
    · refine nm ?_
      refine ts ?_ ?_
      · intro e_33 v_34 e_35 v_36 e_37 s_38 e_39
        generalize e_40 : (fun ix => lk (i :: ix)) = c_41
        generalize e_42 : (fun ix => ln (i :: ix)) = c_43
        generalize e_44 : (fun ix => lb (i :: ix)) = c_45
        refine ts ?_ ?_
        · intro e_46 v_47 e_48 v_49 e_50 s_51 e_52
          refine ts ?_ ?_
          · intro e_53 v_54 e_55
            refine nm ?_
            exact rn (true, (_, (_, (_, (_, _))))) (h := ⟨⟨oS, oS⟩, (by exact hch.same hi.1 ‹_› (not_chg ‹i < m› ‹pk [i] = _› ‹pn [i] = _› ‹pb [i] = _› ‹lk [i] = _› ‹ln [i] = _› ‹lb [i] = _› (by have e9 := ‹(_ : Bool) = true›; exact e9)))⟩)
          · intro e_56 v_57 e_58 v_59 e_60
            generalize e_61 : H Int _ = v_62
            simp only [hH, zeroS] at e_61
            replace e_61 := (IntWalk.i64_in _ (by ((have := (hg i (by omega) (by omega)).2.1; omega)))).symm.trans e_61
            generalize e_63 : (fun ix => bif decide (hd ix < c) then ck ix else v_34) = c_64
            generalize e_65 : (fun ix => bif decide (hd ix < c) then cn ix else v_62) = c_66
            generalize e_67 : (fun ix => bif decide (hd ix < c) then cb ix else s_38) = c_68
            refine ⟨?q_69, ?_⟩
            case q_69 => ((rw [hH]; have := hch.bd hi.1; exact decide_eq_true (by show (c + 1) * 32 ≤ _; omega)))
            exact rn (false, (_, (_, (_, (_, _))))) (h := ⟨⟨oS, oS⟩, (by exact hch.add hi.1 ‹_› ‹c + 1 = _› ‹_› ‹_› ‹_› ‹_› ‹_› (by have := (hg i hi.1 (by omega)).2.1; omega) (chg_ne ‹pk [i] = _› ‹pn [i] = _› ‹pb [i] = _› ‹lk [i] = _› ‹ln [i] = _› ‹lb [i] = _› (by have e9 := ‹(_ : Bool) = false›; exact e9)))⟩)
        · intro e_70 v_71 e_72 v_73 e_74
          generalize e_75 : H Int _ = v_76
          simp only [hH, zeroS] at e_75
          replace e_75 := (IntWalk.i64_in _ (by ((have := (hg i (by omega) (by omega)).2.1; omega)))).symm.trans e_75
          generalize e_77 : (fun ix => bif decide (hd ix < c) then ck ix else v_34) = c_78
          generalize e_79 : (fun ix => bif decide (hd ix < c) then cn ix else v_76) = c_80
          generalize e_81 : (fun ix => bif decide (hd ix < c) then cb ix else s_38) = c_82
          refine ⟨?q_83, ?_⟩
          case q_83 => ((rw [hH]; have := hch.bd hi.1; exact decide_eq_true (by show (c + 1) * 32 ≤ _; omega)))
          exact rn (false, (_, (_, (_, (_, _))))) (h := ⟨⟨oS, oS⟩, (by exact hch.add hi.1 ‹_› ‹c + 1 = _› ‹_› ‹_› ‹_› ‹_› ‹_› (by have := (hg i hi.1 (by omega)).2.1; omega) (chg_out (by omega)))⟩)
      · intro e_84
        refine nm ?_
        refine ca [0, 1, 2, 3, 4, 5] (t := txS) (k := ?k_85)
        rintro _ _ ⟨rfl, rfl⟩
        refine nm ?_
        refine ca [2, 3, 4, 5] (t := (jcommitB _ aS eS oS (by ((have e9 := hch.num; rw [show i = m' by omega] at e9; have := hch.bd hi.1; omega))) (by exact hch.okp (by omega) hg (by omega) ‹_›))) (k := ?k_86)
        rintro _ _ ⟨x_87, h_88, rfl, rfl⟩
        refine nm ?_
        refine ca [0, 1, 2, 3, 4, 431] (t := (home_ok aS oS (by ((have e9 := hch.num; rw [show i = m' by omega] at e9; have := hch.bd hi.1; omega))) (by exact hch.head) oS oS (by exact hch.hp (by omega) hg (by omega) ‹_›))) (k := ?k_89)
        rintro _ _ ⟨x_90, h_91, rfl, rfl⟩
        refine nm ?_
        refine ca [2, 3, 4, 451] (t := (jnextS oS)) (k := ?k_92)
        rintro _ _ ⟨v_93, h_94, rfl, rfl⟩
        refine nm ?_
        refine ca [] (t := (pclone_tri oS)) (k := ?k_95)
        rintro _ _ ⟨x_96, x_97, x_98, h_99, rfl, rfl⟩
        refine nm ?_
        exact fi ⟨⟨_, _, _, _, _, _, _, _, _⟩, _, _, _, _, _, (by exact DB.up ‹_› (by have := hch.bd hi.1; omega) (by have e9 := hch.num; rw [show i = m' by omega] at e9; omega) (by omega)), aS, (by exact lay_fin hl hch (by omega) ‹_› ‹_› ‹_› ‹_› (by omega) ht hg ‹_›), aS, rfl, rfl⟩
    · refine nm ?_
      refine ts ?_ ?_
      · intro e_100 v_101 e_102 v_103 e_104 s_105 e_106
        generalize e_107 : (fun ix => lk (i :: ix)) = c_108
        generalize e_109 : (fun ix => ln (i :: ix)) = c_110
        generalize e_111 : (fun ix => lb (i :: ix)) = c_112
        refine ts ?_ ?_
        · intro e_113 v_114 e_115 v_116 e_117 s_118 e_119
          refine ts ?_ ?_
          · intro e_120 v_121 e_122
            refine nm ?_
            exact rn (false, (_, (_, (_, (_, _))))) (h := ⟨⟨oS, oS⟩, (by exact hch.same hi.1 ‹_› (not_chg ‹i < m› ‹pk [i] = _› ‹pn [i] = _› ‹pb [i] = _› ‹lk [i] = _› ‹ln [i] = _› ‹lb [i] = _› (by have e9 := ‹(_ : Bool) = true›; exact e9)))⟩)
          · intro e_123 v_124 e_125 v_126 e_127
            generalize e_128 : H Int _ = v_129
            simp only [hH, zeroS] at e_128
            replace e_128 := (IntWalk.i64_in _ (by ((have := (hg i (by omega) (by omega)).2.1; omega)))).symm.trans e_128
            generalize e_130 : (fun ix => bif decide (hd ix < c) then ck ix else v_101) = c_131
            generalize e_132 : (fun ix => bif decide (hd ix < c) then cn ix else v_129) = c_133
            generalize e_134 : (fun ix => bif decide (hd ix < c) then cb ix else s_105) = c_135
            refine ⟨?q_136, ?_⟩
            case q_136 => ((rw [hH]; have := hch.bd hi.1; exact decide_eq_true (by show (c + 1) * 32 ≤ _; omega)))
            exact rn (false, (_, (_, (_, (_, _))))) (h := ⟨⟨oS, oS⟩, (by exact hch.add hi.1 ‹_› ‹c + 1 = _› ‹_› ‹_› ‹_› ‹_› ‹_› (by have := (hg i hi.1 (by omega)).2.1; omega) (chg_ne ‹pk [i] = _› ‹pn [i] = _› ‹pb [i] = _› ‹lk [i] = _› ‹ln [i] = _› ‹lb [i] = _› (by have e9 := ‹(_ : Bool) = false›; exact e9)))⟩)
        · intro e_137 v_138 e_139 v_140 e_141
          generalize e_142 : H Int _ = v_143
          simp only [hH, zeroS] at e_142
          replace e_142 := (IntWalk.i64_in _ (by ((have := (hg i (by omega) (by omega)).2.1; omega)))).symm.trans e_142
          generalize e_144 : (fun ix => bif decide (hd ix < c) then ck ix else v_101) = c_145
          generalize e_146 : (fun ix => bif decide (hd ix < c) then cn ix else v_143) = c_147
          generalize e_148 : (fun ix => bif decide (hd ix < c) then cb ix else s_105) = c_149
          refine ⟨?q_150, ?_⟩
          case q_150 => ((rw [hH]; have := hch.bd hi.1; exact decide_eq_true (by show (c + 1) * 32 ≤ _; omega)))
          exact rn (false, (_, (_, (_, (_, _))))) (h := ⟨⟨oS, oS⟩, (by exact hch.add hi.1 ‹_› ‹c + 1 = _› ‹_› ‹_› ‹_› ‹_› ‹_› (by have := (hg i hi.1 (by omega)).2.1; omega) (chg_out (by omega)))⟩)
      · intro e_151
        refine nm ?_
        refine ca [0, 1, 2, 3, 4, 5] (t := txS) (k := ?k_152)
        rintro _ _ ⟨rfl, rfl⟩
        refine nm ?_
        refine ca [2, 3, 4, 5] (t := (jcommitB _ aS eS oS (by ((have e9 := hch.num; rw [show i = m' by omega] at e9; have := hch.bd hi.1; omega))) (by exact hch.fr.okp (by omega) hg (by omega) ‹_›))) (k := ?k_153)
        rintro _ _ ⟨x_154, h_155, rfl, rfl⟩
        refine nm ?_
        refine ca [0, 1, 2, 3, 4, 431] (t := (home_ok aS oS (by ((have e9 := hch.num; rw [show i = m' by omega] at e9; have := hch.bd hi.1; omega))) (by exact hch.head) oS oS (by exact hch.fr.hp (by omega) hg (by omega) ‹_›))) (k := ?k_156)
        rintro _ _ ⟨x_157, h_158, rfl, rfl⟩
        refine nm ?_
        refine ca [2, 3, 4, 451] (t := (jnextS oS)) (k := ?k_159)
        rintro _ _ ⟨v_160, h_161, rfl, rfl⟩
        refine nm ?_
        refine ca [] (t := (pclone_tri oS)) (k := ?k_162)
        rintro _ _ ⟨x_163, x_164, x_165, h_166, rfl, rfl⟩
        refine nm ?_
        exact fi ⟨⟨_, _, _, _, _, _, _, _, _⟩, _, _, _, _, _, (by exact DB.up ‹_› (by have := hch.bd hi.1; omega) (by have e9 := hch.num; rw [show i = m' by omega] at e9; omega) (by omega)), aS, (by exact lay_fin hl hch.fr (by omega) ‹_› ‹_› ‹_› ‹_› (by omega) ht hg ‹_›), aS, rfl, rfl⟩
end
end Go.Proofs.Ytilmhjojbolbeaa.AM

namespace Go.Proofs.Ytilmhjojbolbeaa.AM
open Go
set_option maxRecDepth 100000
set_option maxHeartbeats 4000000
section
variable (n L w fl base log tx m m' : Int) (f : Int → Str) (D : DK) (pk pn lk ln : Ix → Int) (pb lb : Ix → Str) (fu : Bool)
theorem pcommit_full (hD : DB n L w fl f D) (hL : L ≤ 100000) (hb : base = n - log ∧ 2 ≤ log ∧ log ≤ 900 ∧ 2 ≤ base) (hl : Lay f base tx m pk pn pb) (ht : 1 ≤ tx ∧ tx ≤ 1000000) (hm : 0 ≤ m' ∧ m' ≤ 1000) (hg : Good base m' lk ln lb) (hm2 : m' ≤ base - 1) (hf : ¬ 1 + chN m pk pn pb lk ln lb m'.toNat ≤ log - 1) :
    TriS Try.prog 29 [.pt 0 0, .l m' [.i .i64 lk, .i .i64 ln, .s lb] fu] (pagS 0 1 2 3 4 5 base log tx m D pk pn pb) (fun r σ => r = .i .i64 3 ∧ σ = pagS 0 1 2 3 4 5 base log tx m D pk pn pb) := by
  have hn := hD.n1000
  refine trio Try.f29 ORD29 fun H Tri hH hTri => ?_
  refine nm ?_
  refine' ⟨0, lp Int [14, 13, 0, 1, 4] [0, 1, 2, 3, 4, 5] 100 (fun i => ([(15, .i .i64 i)], [], ((0 ≤ i ∧ i ≤ m')), (m' - i).toNat)) 0 oS ?r_1⟩
  rintro i hi
  simp only [] at hi
  refine nm ?_
  refine ts ?_ ?_
  · intro e_2 v_3 e_4 v_5 e_6 s_7 e_8
    generalize e_9 : (fun ix => lk (i :: ix)) = c_10
    generalize e_11 : (fun ix => ln (i :: ix)) = c_12
    generalize e_13 : (fun ix => lb (i :: ix)) = c_14
    refine ca [] (t := (ispage_ok (by exact good_at hg hi.1 ‹_› ‹_› ‹_› ‹_›))) (k := ?k_15)
    rintro _ _ ⟨rfl, rfl⟩
    refine nm ?_
    intro v_16 e_17
    exact rn _ (h := ⟨oS, oS⟩)
  · intro e_18
    refine nm ?_
    refine ca [0, 1, 2, 3, 4, 5] (t := (roomS oS)) (k := ?k_19)
    rintro _ _ ⟨v_20, h_21, rfl, rfl⟩
    refine nm ?_
    refine ca [0, 1, 2, 3, 4, 5] (t := txS) (k := ?k_22)
    rintro _ _ ⟨rfl, rfl⟩
    refine nm ?_
    intro v_23 e_24
    refine ca [] (t := (head_any oS oS)) (k := ?k_25)
    rintro _ _ ⟨x_26, ⟨h_27, h_28⟩, rfl, rfl⟩
    refine nm ?_
    refine' ⟨0, lp (Bool × Int × Int × (Ix → Int) × (Ix → Int) × (Ix → Str)) [38, 37, 0, 1, 4] [0, 1, 2, 3, 4, 5] 311 (fun (z, i, c, ck, cn, cb) => ([(39, .i .i64 i), (7, bif z then .l c [.i .i64 ck, .i .i64 cn, .s cb] true else .sl 310 0 c 3 false)], [] ++ (bif z then [] else [(310, .ar c [.i .i64 ck, .i .i64 cn, .s cb] 73)]), ((0 ≤ i ∧ i ≤ m') ∧ (Chs m pk pn pb lk ln lb ‹Str› i c ck cn cb)), (m' - i).toNat)) (true, 0, 1, _, _, _) ⟨?p_29, ?p_30⟩ ?r_31 ?s_32⟩
    case s_32 => cbv <;> repeat' first | exact rfl | exact trivial | exact Or.inr trivial | exact Or.inl rfl | apply And.intro | omega | (split <;> first | exact trivial | (exfalso; simp_all; done)) | (subst_vars; simp [o0]; done) | refine Or.inr ?_
    case p_29 => omega
    case p_30 => (exact Chs.start ⟨rfl, rfl, rfl⟩)
    rintro ⟨z, i, c, ck, cn, cb⟩ ⟨hi, hch⟩
    obtain rfl | rfl := (Bool.eq_false_or_eq_true z)
    · refine nm ?_
      refine ts ?_ ?_
      · intro e_33 v_34 e_35 v_36 e_37 s_38 e_39
        generalize e_40 : (fun ix => lk (i :: ix)) = c_41
        generalize e_42 : (fun ix => ln (i :: ix)) = c_43
        generalize e_44 : (fun ix => lb (i :: ix)) = c_45
        refine ts ?_ ?_
        · intro e_46 v_47 e_48 v_49 e_50 s_51 e_52
          refine ts ?_ ?_
          · intro e_53 v_54 e_55
            refine nm ?_
            exact rn (true, (_, (_, (_, (_, _))))) (h := ⟨⟨oS, oS⟩, (by exact hch.same hi.1 ‹_› (not_chg ‹i < m› ‹pk [i] = _› ‹pn [i] = _› ‹pb [i] = _› ‹lk [i] = _› ‹ln [i] = _› ‹lb [i] = _› (by have e9 := ‹(_ : Bool) = true›; exact e9)))⟩)
          · intro e_56 v_57 e_58 v_59 e_60
            generalize e_61 : H Int _ = v_62
            simp only [hH, zeroS] at e_61
            replace e_61 := (IntWalk.i64_in _ (by ((have := (hg i (by omega) (by omega)).2.1; omega)))).symm.trans e_61
            generalize e_63 : (fun ix => bif decide (hd ix < c) then ck ix else v_34) = c_64
            generalize e_65 : (fun ix => bif decide (hd ix < c) then cn ix else v_62) = c_66
            generalize e_67 : (fun ix => bif decide (hd ix < c) then cb ix else s_38) = c_68
            refine ⟨?q_69, ?_⟩
            case q_69 => ((rw [hH]; have := hch.bd hi.1; exact decide_eq_true (by show (c + 1) * 32 ≤ _; omega)))
            exact rn (false, (_, (_, (_, (_, _))))) (h := ⟨⟨oS, oS⟩, (by exact hch.add hi.1 ‹_› ‹c + 1 = _› ‹_› ‹_› ‹_› ‹_› ‹_› (by have := (hg i hi.1 (by omega)).2.1; omega) (chg_ne ‹pk [i] = _› ‹pn [i] = _› ‹pb [i] = _› ‹lk [i] = _› ‹ln [i] = _› ‹lb [i] = _› (by have e9 := ‹(_ : Bool) = false›; exact e9)))⟩)
        · intro e_70 v_71 e_72 v_73 e_74
          generalize e_75 : H Int _ = v_76
          simp only [hH, zeroS] at e_75
          replace e_75 := (IntWalk.i64_in _ (by ((have := (hg i (by omega) (by omega)).2.1; omega)))).symm.trans e_75
          generalize e_77 : (fun ix => bif decide (hd ix < c) then ck ix else v_34) = c_78
          generalize e_79 : (fun ix => bif decide (hd ix < c) then cn ix else v_76) = c_80
          generalize e_81 : (fun ix => bif decide (hd ix < c) then cb ix else s_38) = c_82
          refine ⟨?q_83, ?_⟩
          case q_83 => ((rw [hH]; have := hch.bd hi.1; exact decide_eq_true (by show (c + 1) * 32 ≤ _; omega)))
          exact rn (false, (_, (_, (_, (_, _))))) (h := ⟨⟨oS, oS⟩, (by exact hch.add hi.1 ‹_› ‹c + 1 = _› ‹_› ‹_› ‹_› ‹_› ‹_› (by have := (hg i hi.1 (by omega)).2.1; omega) (chg_out (by omega)))⟩)
      · intro e_84
        refine nm ?_
        refine ca [0, 1, 2, 3, 4, 5] (t := txS) (k := ?k_85)
        rintro _ _ ⟨rfl, rfl⟩
        refine nm ?_
        refine ca [2, 3, 4, 5] (t := (jcommit_bad _ oS (by ((have e9 := hch.num; rw [show i = m' by omega] at e9; have := hch.bd hi.1; omega))) (by ((have e9 := hch.num; rw [show i = m' by omega] at e9; have := hch.bd hi.1; omega))) (by exact hch.okp (by omega) hg (by omega) ‹_›))) (k := ?k_86)
        rintro _ _ ⟨rfl, rfl⟩
        refine nm ?_
        exact fi ⟨rfl, rfl⟩
    · refine nm ?_
      refine ts ?_ ?_
      · intro e_87 v_88 e_89 v_90 e_91 s_92 e_93
        generalize e_94 : (fun ix => lk (i :: ix)) = c_95
        generalize e_96 : (fun ix => ln (i :: ix)) = c_97
        generalize e_98 : (fun ix => lb (i :: ix)) = c_99
        refine ts ?_ ?_
        · intro e_100 v_101 e_102 v_103 e_104 s_105 e_106
          refine ts ?_ ?_
          · intro e_107 v_108 e_109
            refine nm ?_
            exact rn (false, (_, (_, (_, (_, _))))) (h := ⟨⟨oS, oS⟩, (by exact hch.same hi.1 ‹_› (not_chg ‹i < m› ‹pk [i] = _› ‹pn [i] = _› ‹pb [i] = _› ‹lk [i] = _› ‹ln [i] = _› ‹lb [i] = _› (by have e9 := ‹(_ : Bool) = true›; exact e9)))⟩)
          · intro e_110 v_111 e_112 v_113 e_114
            generalize e_115 : H Int _ = v_116
            simp only [hH, zeroS] at e_115
            replace e_115 := (IntWalk.i64_in _ (by ((have := (hg i (by omega) (by omega)).2.1; omega)))).symm.trans e_115
            generalize e_117 : (fun ix => bif decide (hd ix < c) then ck ix else v_88) = c_118
            generalize e_119 : (fun ix => bif decide (hd ix < c) then cn ix else v_116) = c_120
            generalize e_121 : (fun ix => bif decide (hd ix < c) then cb ix else s_92) = c_122
            refine ⟨?q_123, ?_⟩
            case q_123 => ((rw [hH]; have := hch.bd hi.1; exact decide_eq_true (by show (c + 1) * 32 ≤ _; omega)))
            exact rn (false, (_, (_, (_, (_, _))))) (h := ⟨⟨oS, oS⟩, (by exact hch.add hi.1 ‹_› ‹c + 1 = _› ‹_› ‹_› ‹_› ‹_› ‹_› (by have := (hg i hi.1 (by omega)).2.1; omega) (chg_ne ‹pk [i] = _› ‹pn [i] = _› ‹pb [i] = _› ‹lk [i] = _› ‹ln [i] = _› ‹lb [i] = _› (by have e9 := ‹(_ : Bool) = false›; exact e9)))⟩)
        · intro e_124 v_125 e_126 v_127 e_128
          generalize e_129 : H Int _ = v_130
          simp only [hH, zeroS] at e_129
          replace e_129 := (IntWalk.i64_in _ (by ((have := (hg i (by omega) (by omega)).2.1; omega)))).symm.trans e_129
          generalize e_131 : (fun ix => bif decide (hd ix < c) then ck ix else v_88) = c_132
          generalize e_133 : (fun ix => bif decide (hd ix < c) then cn ix else v_130) = c_134
          generalize e_135 : (fun ix => bif decide (hd ix < c) then cb ix else s_92) = c_136
          refine ⟨?q_137, ?_⟩
          case q_137 => ((rw [hH]; have := hch.bd hi.1; exact decide_eq_true (by show (c + 1) * 32 ≤ _; omega)))
          exact rn (false, (_, (_, (_, (_, _))))) (h := ⟨⟨oS, oS⟩, (by exact hch.add hi.1 ‹_› ‹c + 1 = _› ‹_› ‹_› ‹_› ‹_› ‹_› (by have := (hg i hi.1 (by omega)).2.1; omega) (chg_out (by omega)))⟩)
      · intro e_138
        refine nm ?_
        refine ca [0, 1, 2, 3, 4, 5] (t := txS) (k := ?k_139)
        rintro _ _ ⟨rfl, rfl⟩
        refine nm ?_
        refine ca [2, 3, 4, 5] (t := (jcommit_bad _ oS (by ((have e9 := hch.num; rw [show i = m' by omega] at e9; have := hch.bd hi.1; omega))) (by ((have e9 := hch.num; rw [show i = m' by omega] at e9; have := hch.bd hi.1; omega))) (by exact hch.fr.okp (by omega) hg (by omega) ‹_›))) (k := ?k_140)
        rintro _ _ ⟨rfl, rfl⟩
        refine nm ?_
        exact fi ⟨rfl, rfl⟩
end
end Go.Proofs.Ytilmhjojbolbeaa.AM

namespace Go.Proofs.Ytilmhjojbolbeaa.AM
open Go
set_option maxRecDepth 100000
set_option maxHeartbeats 4000000
section
variable {n L w fl q base log tx tx0 c m m' k a i i' j v u : Int} {f f' f1 : Int → Str} {D D2 : DK} {b s S B : Str} {pk pn lk ln ck cn ck' cn' : Ix → Int} {pb lb cb cb' : Ix → Str} {fu : Bool}
theorem DB.any (h : DB n L w fl f D) {D' : DK} {L' : Int} (a : D'.ok L') (b : D'.n = D.n) (c : ∀ q, D'.at q = D.at q) : DB n L' D'.w D'.f f D' :=
  ⟨a, b.trans h.sz, rfl, rfl, fun q h0 h1 => (c q).trans (h.get q h0 h1)⟩
theorem scanB_no (hD : DB n L w fl f D) (hj : jplace n base log tx) (hN : NoTx f base tx) (hL : L ≤ 10000000) :
    TriS Try.prog 71 [.pt 0 0] (jouS 0 1 2 3 base log tx D) (fun r σ => ∃ D' w' fl', DB n (L + 1) w' fl' f D' ∧ r = .tu [.l 0 [] true, .b false] ∧ σ = jouS 0 1 2 3 base log tx D') := by
  obtain ⟨h1, h2, h3, h4⟩ := hj
  have hn := hD.sz
  have hg := hD.get base (by omega) (by omega)
  rcases hN with hN | ⟨tx', k, q, b, ⟨ht1, ht2, ht3⟩, hp, hN⟩
  · refine (scan_aborted hD.ok hL h1 (by omega) (by omega) (hg.trans hN)).mono ?_
    rintro r σ ⟨D', ⟨a, b, c⟩, rfl, rfl⟩
    exact ⟨D', _, _, hD.any a b c, rfl, rfl⟩
  · refine (scan_other hD.ok hL h1 (by omega) (by rw [stage_len]; have := hp.2.2.1; omega) (hg.trans hN) (decode_stage tx' 0 k q b (by omega) (by omega) hp) ht1).mono ?_
    rintro r σ ⟨D', ⟨a, b, c⟩, rfl, rfl⟩
    exact ⟨D', _, _, hD.any a b c, rfl, rfl⟩
theorem begin_b (hD : DB n L w fl f D) (hb : base = n - log) (hl : (2 ≤ log ∧ log ≤ 900) ∧ 2 ≤ base) (ht : 1 ≤ tx ∧ tx ≤ 4294967295) : TriS Try.prog 59 [.pt 0 0, .i .i64 log, .i .i64 tx] (D.S 0 1 2)
    (fun r σ => r = .tu [.pt 100 0, .i .i64 0] ∧ σ = pagN 100 101 0 1 2 base log tx D) :=
  (begin_ok hD (by omega) ht).mono (by rintro r σ ⟨b, h, rfl, rfl⟩; rw [← hb] at h; subst h; exact ⟨rfl, rfl⟩)
theorem readA (hD : DA n L f D) (hL : L ≤ 100000000) (hq : 0 ≤ q ∧ q < n) : TriS Try.prog 72 [.pt 0 0, .i .i64 q] (D.S 0 1 2) (fun r σ => ∃ D' s, DA n (L + 1) f D' ∧ s = f q ∧ r = .tu [.s s, .i .i64 0] ∧ σ = D'.S 0 1 2) :=
  (readB (w := D.w) (fl := D.f) ⟨hD.ok, hD.sz, rfl, rfl, hD.get⟩ hL hq).mono (by rintro r σ ⟨D', s, hD', hs, rfl, rfl⟩; exact ⟨D', s, hD'.da, hs, rfl, rfl⟩)
theorem DA.of_da' {L' : Int} (h : DA n L f D) (hL : L ≤ L') : DB n L' D.w D.f f D := ⟨DK.ok_mono h.ok hL, h.sz, rfl, rfl, h.get⟩
theorem DB.of_da2 {L' w' fl' : Int} (h : DA n L f D) (hL : L ≤ L') (e1 : D.w = w') (e2 : D.f = fl') : DB n L' w' fl' f D := by
  subst e1 e2; exact h.of_da' hL
theorem DA.mono {L' : Int} (h : DA n L f D) (hL : L ≤ L') : DA n L' f D := ⟨DK.ok_mono h.ok hL, h.sz, h.get⟩
theorem DA.up {L' : Int} (h : DA n L f D) (hL : L = L') : DA n L' f D := hL ▸ h
theorem pg_read (hl : Lay f base tx m pk pn pb) (h0 : 0 ≤ i) (h1 : i < m) (hv : i + 1 = v) (hs : s = f v) : s = sealF (pk [i]) v (pb [i]) := by
  subst hv; rw [hs]; exact hl.pages i h0 h1
theorem pg_at (hl : Lay f base tx m pk pn pb) (h0 : 0 ≤ i) (h1 : i < m) (hv : v = i) : pk [i] ≠ 0 ∧ v = i ∧ okP (pk [i]) v (pb [i]) := by
  subst hv
  obtain ⟨a, b, c⟩ := hl.ok v h0 h1
  exact ⟨by omega, rfl, c⟩
theorem rows_next {qk qn g1 g2 : Ix → Int} {qb g3 : Ix → Str} (hl : Lay f base tx m pk pn pb) (h : ∀ j : Int, 0 ≤ j → j < i → qk [j] = pk [j] ∧ qn [j] = pn [j] ∧ qb [j] = pb [j]) (h0 : 0 ≤ i) (h1 : i < m) (hi : i + 1 = i')
    (e1 : (fun ix => bif decide (AM.hd ix < i) then qk ix else pk [i]) = g1) (e2 : (fun ix => bif decide (AM.hd ix < i) then qn ix else v) = g2) (e3 : (fun ix => bif decide (AM.hd ix < i) then qb ix else pb [i]) = g3) (hv : v = i) : ∀ j : Int, 0 ≤ j → j < i' → g1 [j] = pk [j] ∧ g2 [j] = pn [j] ∧ g3 [j] = pb [j] := fun j a b => by
  subst e1 e2 e3 hi hv
  by_cases e : j = v
  · subst e
    simp [AM.hd, (hl.ok j a h1).2.1]
  · have hj : j < v := by omega
    simp [AM.hd, hj, h j a hj]
theorem open_ok (hD : DB n L w fl f D) (hL : L ≤ 1000000) (hb : base = n - log) (hb2 : (2 ≤ log ∧ log ≤ 900) ∧ 2 ≤ base) (hl : Lay f base tx m pk pn pb) (ht : 1 ≤ tx ∧ tx ≤ 1000000) (hS : S = sealF 1 0 B) (hB : B = headF tx m) (h0 : f 0 = S) :
    TriS Try.prog 30 [.pt 0 0, .i .i64 log] (D.S 0 1 2) (fun r σ => ∃ (D' : DK) (pk' pn' : Ix → Int) (pb' : Ix → Str), DA n (L + 3000) f D' ∧ (∀ j : Int, 0 ≤ j → j < m → pk' [j] = pk [j] ∧ pn' [j] = pn [j] ∧ pb' [j] = pb [j]) ∧ r = .tu [.pt 100 0, .i .i64 0] ∧ σ = pagS 100 103 101 0 1 2 base log tx m D' pk' pn' pb') := by
  have hn := hD.n1000
  have hm := hl.hm
  refine trio Try.f30 ORD30 fun H Tri hH hTri => ?_
  refine nm ?_
  refine ca [0, 1, 2] (t := (begin_b aS aS aS oS)) (k := ?k_1)
  rintro _ _ ⟨rfl, rfl⟩
  refine nm ?_
  refine ca [200, 201, 0, 1, 2] (t := (told_ok aS oS aS aS aS oS oS oS aS)) (k := ?k_2)
  rintro _ _ ⟨x_3, h_4, rfl, rfl⟩
  refine nm ?_
  refine ca [0, 1, 2] (t := (begin_b aS aS aS oS)) (k := ?k_5)
  rintro _ _ ⟨rfl, rfl⟩
  refine nm ?_
  refine ca [241, 0, 1, 2] (t := (scanB_no aS eS (by exact hl.no) oS)) (k := ?k_6)
  rintro _ _ ⟨x_7, v_8, v_9, h_10, rfl, rfl⟩
  refine nm ?_
  refine ca [240, 241, 0, 1, 2] (t := (told_ok aS oS aS aS aS oS oS oS aS)) (k := ?k_11)
  rintro _ _ ⟨x_12, h_13, rfl, rfl⟩
  refine nm ?_
  refine ca [0, 1, 2] (t := (begin_b aS aS aS oS)) (k := ?k_14)
  rintro _ _ ⟨rfl, rfl⟩
  refine nm ?_
  refine' ⟨0, lp (Int × DK × (Ix → Int) × (Ix → Int) × (Ix → Str)) [74, 6, 0, 5, 4] [] 311 (fun (i, D2, qk, qn, qb) => ([(75, .i .i64 i)], [(300, .st [.pt 301 0, .pt 0 0, .i .i64 base, .i .i64 log, .sl 310 0 i 3 false] 115), (301, .st [.pt 0 0, .i .i64 base, .i .i64 log, .i .i64 tx] 159), (310, .ar i [.i .i64 qk, .i .i64 qn, .s qb] 73), (0, .st [.sl 1 0 D2.n 1 false, .sl 2 0 D2.m 2 false, .i .i64 D2.r, .i .i64 D2.w, .i .i64 D2.f, .i .i64 (-1)] 128), (1, .ar D2.n [.s D2.pg] 9), (2, .ar D2.k [.i .i64 D2.wn, .s D2.ws] 155)], ((0 ≤ i ∧ i ≤ m) ∧ (DA n (L + 3 + i) f D2) ∧ (∀ j : Int, 0 ≤ j → j < i → qk [j] = pk [j] ∧ qn [j] = pn [j] ∧ qb [j] = pb [j])), (m - i).toNat)) (0, _, fun _ => 0, fun _ => 0, fun _ => []) ⟨oS, (by exact DA.up (DB.da ‹DB n (L + 1 + 1 + 1) _ _ f _›) (by omega)), oS⟩ ?r_15⟩
  rintro ⟨i, D2, qk, qn, qb⟩ ⟨hi, hda, hq⟩
  refine nm ?_
  refine ts ?_ ?_
  · intro e_16 v_17 e_18
    refine nm ?_
    refine ca [0, 1, 2] (t := (readA aS oS oS)) (k := ?k_19)
    rintro _ _ ⟨x_20, x_21, h_22, h_23, rfl, rfl⟩
    refine nm ?_
    refine ca [] (t := (openS (by exact pg_read hl hi.1 ‹_› ‹_› ‹_›) (by ((have := (hl.ok i hi.1 (by omega)).2.2; have h7 := this.1; have h8 := (hl.ok i hi.1 (by omega)).1; omega))) oS (by ((have := (hl.ok i hi.1 (by omega)).2.2.2.2.1; omega))))) (k := ?k_24)
    rintro _ _ ⟨rfl, rfl⟩
    refine nm ?_
    intro v_25 e_26
    refine ca [] (t := (ispage_ok (by exact pg_at hl hi.1 (by omega) (by omega)))) (k := ?k_27)
    rintro _ _ ⟨rfl, rfl⟩
    refine nm ?_
    generalize e_28 : (fun ix => bif decide (hd ix < i) then qk ix else pk [i]) = c_29
    generalize e_30 : (fun ix => bif decide (hd ix < i) then qn ix else v_25) = c_31
    generalize e_32 : (fun ix => bif decide (hd ix < i) then qb ix else pb [i]) = c_33
    exact rn (_, (⟨_, _, _, _, _, _, _, _, _⟩, (_, (_, _)))) (h := ⟨⟨oS, oS⟩, (by exact DA.up ‹DA _ _ _ _› (by omega)), (by exact rows_next hl hq hi.1 (by omega) ‹i + 1 = _› ‹_› ‹_› ‹_› (by omega))⟩)
  · intro e_34
    refine nm ?_
    refine' ⟨_, _, ⟨⟨_, _, _, _, _, _, _, _, _⟩, _, _, _, ?p_35, ?p_36, rfl, rfl⟩, ?c_37, ?s_38⟩
    case s_38 => cbv <;> repeat' first | exact rfl | exact trivial | apply And.intro | omega
    case c_37 => rfl
    case p_35 => (exact DA.mono hda (by omega))
    case p_36 => grind
theorem open_bad (hD : DB n L w fl f D) (hl : ¬ ((2 ≤ log ∧ log ≤ 900) ∧ 2 ≤ n - log)) : TriS Try.prog 30 [.pt 0 0, .i .i64 log] (D.S 0 1 2) (fun r σ => r = .tu [nilp, .i .i64 1] ∧ σ = D.S 0 1 2) := by
  refine trio Try.f30 ORD30 fun H Tri hH hTri => ?_
  refine nm ?_
  refine ca [0, 1, 2] (t := (begin_bad aS aS)) (k := ?k_1)
  rintro _ _ ⟨rfl, rfl⟩
  refine nm ?_
  exact fi ⟨rfl, rfl⟩
theorem open_nil : TriS Try.prog 30 [nilp, .i .i64 log] [] (fun r σ => r = .tu [nilp, .i .i64 1] ∧ σ = []) := by
  refine trio Try.f30 ORD30 fun H Tri hH hTri => ?_
  refine nm ?_
  refine ca [] (t := begin_nil) (k := ?k_1)
  rintro _ _ ⟨rfl, rfl⟩
  refine nm ?_
  exact fi ⟨rfl, rfl⟩
/-- what is told of it -/
theorem pagesS (hm : 0 ≤ m ∧ m ≤ 1000) : TriS Try.prog 32 [.pt 0 0] (pagS 0 1 2 3 4 5 base log tx m D pk pn pb) (fun r σ => ∃ (ck cn : Ix → Int) (cb : Ix → Str), (∀ j : Int, 0 ≤ j → j < m → ck [j] = pk [j] ∧ cn [j] = pn [j] ∧ cb [j] = pb [j]) ∧ r = .sl 100 0 m 3 false ∧ σ = pagS 0 1 2 3 4 5 base log tx m D pk pn pb ++ [(100, .ar m [.i .i64 ck, .i .i64 cn, .s cb] 73)]) := by
  refine trio Try.f32 ORD32 fun H Tri hH hTri => ?_
  refine nm ?_
  refine ca [] (t := (pclone_tri oS)) (k := ?k_1)
  rintro _ _ ⟨x_2, x_3, x_4, h_5, rfl, rfl⟩
  simp only [AM.hd, Int.add_zero, List.tail_cons] at h_5
  refine nm ?_
  exact fi ⟨_, _, _, aS, rfl, rfl⟩
end
end Go.Proofs.Ytilmhjojbolbeaa.AM

namespace Go.Proofs.Ytilmhjojbolbeaa.AM
open Go
set_option maxRecDepth 100000
set_option maxHeartbeats 4000000
section
variable {n L w fl q base log tx c m m' k a i i' v u : Int} {f f' f1 : Int → Str} {D D2 : DK} {b s S B : Str} {pk pn qk qn lk ln ck cn : Ix → Int} {pb qb lb cb : Ix → Str} {fu fv : Bool}
theorem few23 (hm : 0 ≤ m) : TriS Try.prog 28 [.l m [.i .i64 pk, .i .i64 pn, .s pb] fu] [] (fun r σ => ∃ t : Bool, (t = true → m ≤ 30) ∧ r = .b t ∧ σ = []) := by
  refine trio Try.f28 ORD28 fun H Tri hH hTri => ?_
  refine nm ?_
  refine ts ?_ ?_
  · intro e_1
    refine' ⟨_, _, ⟨_, ?p_2, rfl, rfl⟩, ?c_3, ?s_4⟩
    case s_4 => cbv <;> repeat' first | exact rfl | exact trivial | apply And.intro
    case c_3 => rfl
    case p_2 => simp; done
  · intro e_5
    refine' ⟨0, lp Int [0, 2] [] 100 (fun i => ([(3, .i .i64 i)], [], ((0 ≤ i ∧ i ≤ m)), (m - i).toNat)) 0 oS ?r_6⟩
    rintro i hi
    simp only [] at hi
    refine nm ?_
    refine ts ?_ ?_
    · intro e_7 v_8 e_9 e_10 e_11 s_12 e_13
      generalize e_14 : (fun ix => pb (i :: ix)) = c_15
      generalize e_16 : (fun ix => pk (i :: ix)) = c_17
      generalize e_18 : (fun ix => pn (i :: ix)) = c_19
      refine ts ?_ ?_
      · intro e_20
        exact fi ⟨_, oS, rfl, rfl⟩
      · intro e_21 v_22 e_23
        exact rn _ (h := ⟨oS, oS⟩)
    · intro e_24
      exact fi ⟨_, oS, rfl, rfl⟩
/-- what came of a Commit, with counts -/
abbrev comR (n L w fl base log tx m m' : Int) (f : Int → Str) (D : DK) (pk pn lk ln : Ix → Int) (pb lb : Ix → Str) (r : V) (σ : Sto) : Prop :=
  (∃ (D' : DK) (f' : Int → Str) (t : Int) (pk' pn' : Ix → Int) (pb' : Ix → Str), DB n (L + 5000) (w + 2 * chN m pk pn pb lk ln lb m'.toNat + 3) (fl + 4) f' D' ∧ t = tx + 1 ∧ Lay f' base t m' pk' pn' pb' ∧ (∀ j : Int, 0 ≤ j → j < m' → pk' [j] = lk [j] ∧ pn' [j] = ln [j] ∧ pb' [j] = lb [j]) ∧ r = .i .i64 0 ∧ σ = pagS 0 100 2 3 4 101 base log t m' D' pk' pn' pb') ∨
  (∃ e : Int, e ≠ 0 ∧ r = .i .i64 e ∧ σ = pagS 0 1 2 3 4 5 base log tx m D pk pn pb)
theorem pcommit_any (hD : DB n L w fl f D) (hL : L ≤ 100000) (hb : base = n - log) (hb2 : (2 ≤ log ∧ log ≤ 900) ∧ 2 ≤ base) (hl : Lay f base tx m pk pn pb) (ht : 1 ≤ tx ∧ tx ≤ 1000000) (hm : 0 ≤ m' ∧ m' ≤ 1000) :
    TriS Try.prog 29 [.pt 0 0, .l m' [.i .i64 lk, .i .i64 ln, .s lb] fu] (pagS 0 1 2 3 4 5 base log tx m D pk pn pb) (comR n L w fl base log tx m m' f D pk pn lk ln pb lb) := by
  have hb' : base = n - log ∧ 2 ≤ log ∧ log ≤ 900 ∧ 2 ≤ base := by omega
  by_cases hg : Good base m' lk ln lb
  · by_cases h2 : m' ≤ base - 1
    · by_cases h3 : 1 + chN m pk pn pb lk ln lb m'.toNat ≤ log - 1
      · exact (pcommit_ok n L w fl base log tx m m' f D pk pn lk ln pb lb fu hD hL hb' hl ht hm hg h2 h3).mono (fun _ _ h => .inl h)
      · exact (pcommit_full n L w fl base log tx m m' f D pk pn lk ln pb lb fu hD hL hb' hl ht hm hg h2 h3).mono (by rintro r σ ⟨rfl, rfl⟩; exact .inr ⟨3, by omega, rfl, rfl⟩)
    · exact (pcommit_bad2 n L w fl base log tx m m' f D pk pn lk ln pb lb fu hD hL hb' hl ht hm hg h2).mono (by rintro r σ ⟨rfl, rfl⟩; exact .inr ⟨2, by omega, rfl, rfl⟩)
  · exact (pcommit_bad1 n L w fl base log tx m m' f D pk pn lk ln pb lb fu hD hL hb' hl ht hm hg).mono (by rintro r σ ⟨rfl, rfl⟩; exact .inr ⟨1, by omega, rfl, rfl⟩)
theorem DA.db (h : DA n L f D) : DB n L D.w D.f f D := ⟨h.ok, h.sz, rfl, rfl, h.get⟩
theorem pcommit_da (hD : DA n L f D) (hL : L ≤ 100000) (hb : base = n - log) (hb2 : (2 ≤ log ∧ log ≤ 900) ∧ 2 ≤ base) (hl : Lay f base tx m pk pn pb) (ht : 1 ≤ tx ∧ tx ≤ 1000000) (hm : 0 ≤ m' ∧ m' ≤ 1000) :
    TriS Try.prog 29 [.pt 0 0, .l m' [.i .i64 lk, .i .i64 ln, .s lb] fu] (pagS 0 1 2 3 4 5 base log tx m D pk pn pb) (fun r σ =>
  (∃ (D' : DK) (f' : Int → Str) (t : Int) (pk' pn' : Ix → Int) (pb' : Ix → Str), DA n (L + 5000) f' D' ∧ t = tx + 1 ∧ Lay f' base t m' pk' pn' pb' ∧ (∀ j : Int, 0 ≤ j → j < m' → pk' [j] = lk [j] ∧ pn' [j] = ln [j] ∧ pb' [j] = lb [j]) ∧ r = .i .i64 0 ∧ σ = pagS 0 100 2 3 4 101 base log t m' D' pk' pn' pb') ∨
  (∃ e : Int, e ≠ 0 ∧ r = .i .i64 e ∧ σ = pagS 0 1 2 3 4 5 base log tx m D pk pn pb)) :=
  (pcommit_any hD.db hL hb hb2 hl ht hm).mono (fun r σ h => by
    rcases h with ⟨D', f', t, a, b, c, h1, h⟩ | h
    · exact .inl ⟨D', f', t, a, b, c, h1.da, h⟩
    · exact .inr h)
theorem format_b (hD : DB n L w fl f D) (hL : L ≤ 1000000) (hb : base = n - log) (hb2 : (2 ≤ log ∧ log ≤ 900) ∧ 2 ≤ base) : TriS Try.prog 27 [.pt 0 0, .i .i64 log] (D.S 0 1 2)
    (fun r σ => ∃ (D' : DK) (f' : Int → Str) (pk pn : Ix → Int) (pb : Ix → Str), DB n (L + 3) (w + 2) (fl + 1) f' D' ∧ Lay f' base 1 0 pk pn pb ∧ r = .tu [.pt 100 0, .i .i64 0] ∧ σ = pagS 100 101 102 0 1 103 base log 1 0 D' pk pn pb) :=
  (format_ok hD hL (by omega)).mono (by rintro r σ ⟨D', f', base', a, b, c, h1, h2, h3, rfl, rfl⟩; rw [← hb] at h2; subst h2; exact ⟨D', f', a, b, c, h1, h3, rfl, rfl⟩)
theorem open_b (hD : DA n L f D) (hL : L ≤ 1000000) (hb : base = n - log) (hb2 : (2 ≤ log ∧ log ≤ 900) ∧ 2 ≤ base) (hl : Lay f base tx m pk pn pb) (ht : 1 ≤ tx ∧ tx ≤ 1000000) :
    TriS Try.prog 30 [.pt 0 0, .i .i64 log] (D.S 0 1 2) (fun r σ => ∃ (D' : DK) (pk' pn' : Ix → Int) (pb' : Ix → Str), DA n (L + 3000) f D' ∧ (∀ j : Int, 0 ≤ j → j < m → pk' [j] = pk [j] ∧ pn' [j] = pn [j] ∧ pb' [j] = pb [j]) ∧ r = .tu [.pt 100 0, .i .i64 0] ∧ σ = pagS 100 103 101 0 1 2 base log tx m D' pk' pn' pb') :=
  open_ok hD.db hL hb hb2 hl ht rfl rfl hl.head
theorem pages_p (hm : 0 ≤ m ∧ m ≤ 1000) (e1 : ∀ j : Int, 0 ≤ j → j < m → ck [j] = pk [j] ∧ cn [j] = pn [j] ∧ cb [j] = pb [j]) (e2 : ∀ j : Int, 0 ≤ j → j < m → pk [j] = lk [j] ∧ pn [j] = ln [j] ∧ pb [j] = lb [j]) :
    TriS Try.prog 31 [.l m [.i .i64 fun ix => ck ((AM.hd ix + 0) :: ix.tail), .i .i64 fun ix => cn ((AM.hd ix + 0) :: ix.tail), .s fun ix => cb ((AM.hd ix + 0) :: ix.tail)] fu, .l m [.i .i64 lk, .i .i64 ln, .s lb] fv] [] (fun r σ => r = .b true ∧ σ = []) := by
  refine (pages_tri m m _ _ _ lk ln lb fu fv (by omega) hm.1).mono ?_
  rintro r σ ⟨t, ht, rfl, rfl⟩
  have h : t = true := ht.2 ⟨rfl, fun j a b => by
    obtain ⟨h1, h2, h3⟩ := e1 j a b
    obtain ⟨g1, g2, g3⟩ := e2 j a b
    simp [AM.hd, h1, h2, h3, g1, g2, g3]⟩
  exact ⟨by rw [h], rfl⟩
theorem pages_q (hm : 0 ≤ m ∧ m ≤ 1000) (e1 : ∀ j : Int, 0 ≤ j → j < m → ck [j] = qk [j] ∧ cn [j] = qn [j] ∧ cb [j] = qb [j]) (e3 : ∀ j : Int, 0 ≤ j → j < m → qk [j] = pk [j] ∧ qn [j] = pn [j] ∧ qb [j] = pb [j]) (e2 : ∀ j : Int, 0 ≤ j → j < m → pk [j] = lk [j] ∧ pn [j] = ln [j] ∧ pb [j] = lb [j]) :
    TriS Try.prog 31 [.l m [.i .i64 fun ix => ck ((AM.hd ix + 0) :: ix.tail), .i .i64 fun ix => cn ((AM.hd ix + 0) :: ix.tail), .s fun ix => cb ((AM.hd ix + 0) :: ix.tail)] fu, .l m [.i .i64 lk, .i .i64 ln, .s lb] fv] [] (fun r σ => r = .b true ∧ σ = []) :=
  pages_p hm e1 (fun j a b => ⟨(e3 j a b).1.trans (e2 j a b).1, (e3 j a b).2.1.trans (e2 j a b).2.1, (e3 j a b).2.2.trans (e2 j a b).2.2⟩)
theorem countsB (hD : DB n L w fl f D) : TriS Try.prog 35 [.pt 0 0] (D.S 0 1 2) (fun r σ => ∃ rr : Int, r = .tu [.i .i64 rr, .i .i64 w, .i .i64 fl] ∧ σ = D.S 0 1 2) :=
  (counts_tri D.n D.m D.k D.r D.w D.f (-1) D.pg D.wn D.ws).mono (by rintro r σ ⟨rfl, rfl⟩; exact ⟨D.r, by rw [hD.hw, hD.hf], rfl⟩)
/-! nothing -/
theorem pcommit_nil (fu : Bool) : TriS Try.prog 29 [nilp, .l m [.i .i64 lk, .i .i64 ln, .s lb] fu] [] (fun r σ => r = .i .i64 1 ∧ σ = []) := by
  refine trio Try.f29 ORD29 fun H Tri hH hTri => ?_
  refine nm ?_
  exact fi ⟨rfl, rfl⟩
theorem pages_nil : TriS Try.prog 32 [nilp] [] (fun r σ => r = .l 0 [] true ∧ σ = []) := by
  refine trio Try.f32 ORD32 fun H Tri hH hTri => ?_
  refine nm ?_
  exact fi ⟨rfl, rfl⟩
theorem room_nil : TriS Try.prog 34 [nilp] [] (fun r σ => r = .i .i64 0 ∧ σ = []) := by
  refine trio Try.f34 ORD34 fun H Tri hH hTri => ?_
  refine nm ?_
  exact fi ⟨rfl, rfl⟩
theorem tx_nil : TriS Try.prog 33 [nilp] [] (fun r σ => r = .i .i64 0 ∧ σ = []) := by
  refine trio Try.f33 ORD33 fun H Tri hH hTri => ?_
  refine nm ?_
  exact fi ⟨rfl, rfl⟩
end
end Go.Proofs.Ytilmhjojbolbeaa.AM

