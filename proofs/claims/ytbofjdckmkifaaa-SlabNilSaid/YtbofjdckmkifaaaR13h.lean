/-
  The walks of the slab's reference: Grow, where it grows. Conditions: the slab is one that may be.
-/
import Derived.Test.YtbofjdckmkifaaaR13g
namespace Go.Proofs.Ytbofjdckmkifaaa
open Go.RowKit

set_option maxHeartbeats 4000000 in
theorem grow13_ok (F : Nat → Prop) (w : World) (b : Nat) (sz cs : List Int) (a : Nat) (i : Int) (hwf : Wf sz cs) (h : Two 32 F w b sz cs) (hb : growBad sz a i = false) (hN : (growN sz cs a : Int) ≤ 4096) :
    Calls Try.prog 18 #[.pointer (some ⟨b, 0, none⟩), .int .i64 (a : Int), .int .i64 i] w fun e w' => e = .returned (.int .i64 0) ∧
      Two 32 (fun k => F k ∨ w.heap.size ≤ k) w' b (growS sz a) (growC sz cs a i) ∧ Kp F w w' := by
  have hF := h
  obtain ⟨vs, vc, ht, hFb, -⟩ := h
  obtain ⟨az, zc, rfl, hzc, hzm, hz, -⟩ := own_IR ht.2.1
  obtain ⟨bz, oz, rfl, hz'⟩ := IR_some hz (by have := hwf.lo; omega)
  obtain ⟨ac, cc, rfl, hcc, hcm, -, -⟩ := own_IR ht.2.2.1
  have h6 := hwf.hi; have hlo := hwf.lo; have hmost := hwf.most
  have p0 := ht.c0; have p1 := ht.c1
  simp only [growBad, Bool.or_eq_false_iff, decide_eq_false_iff_not, Int.toNat_natCast] at hb
  have ha : a < sz.length := by omega
  have g := hz' a ha
  have gs := hwf.size_le ha
  have gN := growN_eq hwf ha
  have gq := (grow_pr hwf ha).2
  have gp := growN_pos hwf ha
  have gq1 : (cs.length : Int) / rd sz a ≤ cs.length := Int.ediv_le_self _ (by omega)
  have q1 : decide ((a : Int) < 0) = false := by simp
  have q3 : decide ((a : Int) ≥ (sz.length : Int)) = false := by simp; omega
  have q5 : decide (i < 0) = false := by simp; omega
  have q6 : decide (i ≥ rd sz a) = false := by simp; omega
  have hwf' : Wf (growS sz a) (growC sz cs a i) := grow_wf hwf ha hN (by simp [growC])
  have hpd := grow_prod hwf ha hN
  obtain ⟨N, hNe⟩ : ∃ N, N = growN sz cs a := ⟨_, rfl⟩
  rw [← hNe] at gN hN gp hpd
  have m1 : (cs.length : Int) / rd sz a * (rd sz a + 1) ≤ 4096 := by omega
  have m0 : 0 ≤ (cs.length : Int) / rd sz a * (rd sz a + 1) := by omega
  have q7 : decide ((cs.length : Int) / rd sz a * (rd sz a + 1) > 4096) = false := by simp; omega
  have HC0 := Lib.hid ht.2.2.1
  have HP := Lib.hid hpd; have HT := Lib.hid ht; have HW := Lib.hid hwf; have HW' := Lib.hid hwf'; have HFB := Lib.hid hFb; have HF := Lib.hid hF; have HNE := Lib.hid hNe; have GN := Lib.hid gN; have HZ := Lib.hid hz
  clear hz' hb gN hwf hpd ht hwf' hFb hF hNe hz
  go_enter Try.func18, Try.ntmps18
  go_wp2
  go_quiet (fail)
  go_wp2_with (at_builtin; refine appI rfl (.const (.slice none 0 0)) (.tmp 66) 30 3 .i64 8 rfl Try.underlying30 infoI (by omega) _ _ [] sz bz oz zc rfl rfl (HZ.out.nw (nw_drewN _ _)) (World.ownsRow_nil _ _ _ _) (by simp; omega) (by simp; omega) ?_)
  intro g1 k1 w1 ho1 hc1 hk1 hat1
  have n1 : Nw w w1 := nw_trans (nw_drewN _ _) ((hk1.mono (T := fun _ => False) (fun b hb _ => by cases hb)).nw)
  have g1n : w.heap.size ≤ g1 := by rcases hat1 with h | h; cases h; exact h
  have t1 := HT.out.nw n1
  have hv1 : w1.cell? ⟨g1, a, none⟩ = some (.int .i64 (rd sz a)) := own_cell ho1 ha
  have hf1 := own_frozen ho1 a
  have hst := own_store ho1 a (.int .i64 (rd sz a + 1))
  have l1 := own_lt ho1 (b := g1) rfl
  have HST := Lib.hid hst; have N1 := Lib.hid n1
  clear hst ho1 hk1 hat1 t1 n1 q1 q3 q5 q6 q7 m0 m1 gq gq1 g p0 p1
  go_wp2_with fail
  generalize hw3 : w1.setCell ⟨g1, a, none⟩ (.int .i64 (rd sz a + 1)) = w3
  have hs3 : w3.heap.size = w1.heap.size := by rw [← hw3]; simp [World.setCell]
  have n3 : Nw w w3 := by rw [← hw3]; exact N1.out.setCell g1n _
  have hst := HST.out
  rw [hw3] at hst
  have ho3 : w3.ownsRow 0 3 1 (.slice (some ⟨g1, 0, none⟩) sz.length k1) (growS sz a).length (iv .i64 (growS sz a)) := by simpa [iv, growS, List.map_set] using hst
  have hprod := Lib.hid (product13 w3 (growS sz a) (some ⟨g1, 0, none⟩) k1 (by simp; omega) (own_rd ho3))
  rw [HP.out, growS_length] at hprod
  have t3 := HT.out.nw n3
  have l3 : g1 < w3.heap.size := by omega
  have HO3 := Lib.hid ho3; have N3 := Lib.hid n3
  clear HST hst ho3 n3 hw3 hs3 N1 HT hv1 hf1 l1 HP
  refine hprod.out.mono ?_; rintro e w' ⟨rfl, rfl⟩
  clear hprod
  have T3 := Lib.hid t3; clear t3
  go_wp2
  go_loopw [9, 10] (fun v i' wr => ∃ (k : Nat) (av : Option Addr) (cv : Nat), k ≤ N ∧ i' = .int .i64 k ∧ v = .slice av k cv ∧ wr.ownsRow 0 3 1 (.slice av k cv) (growT sz cs a i k).length (iv .i64 (growT sz cs a i k)) ∧
    (∀ d, av = some d → w3.heap.size ≤ d.block) ∧ Nw w3 wr) (fun _ i' _ => N - (intOf i').toNat)
  case atStart => exact ⟨0, none, 0, Nat.zero_le _, rfl, rfl, World.ownsRow_nil _ _ _ _, fun d hd => by (cases hd), Below.refl _ _⟩
  case round =>
    obtain ⟨k, av, cv, hk, rfl, rfl, ho, had, hnw⟩ := hrel
    by_cases hlt : k < N
    · have hir : IR .i64 wr (some ⟨g1, 0, none⟩) (growS sz a) := own_rd (nw_own hnw HO3.out)
      have hcell := Lib.hid (cell13 wr (growS sz a) (some ⟨g1, 0, none⟩) k1 k (by omega) (by omega) (by simpa using hlo) (by simpa using h6) (fun j hj => HW'.out.size_le hj) hir)
      rw [growS_length] at hcell
      have HO := Lib.hid ho; have HA := Lib.hid had; have HK := Lib.hid hnw
      clear hir ho had hnw
      go_wp2_with fail
      refine hcell.out.mono ?_; rintro e w4 ⟨g4, rfl, hg4, hblk, hnw4⟩
      clear hcell
      have hcv : w4.cell? ⟨g4, a, none⟩ = some (.int .i64 (rd (cellL (growS sz a) k) a)) := by
        rw [blk_cell hblk]; simpa using iv_get .i64 (cellL (growS sz a) k) (j := a) (by simpa using ha)
      have hcf := blk_frozen hblk a
      have hr0 : 0 ≤ rd (cellL (growS sz a) k) a ∧ rd (cellL (growS sz a) k) a ≤ 4096 := by
        rw [rd_cellL _ _ (by simpa using ha)]
        have := HW'.out.size_le (k := a) (by simpa using ha)
        unfold dig
        have h1 := Int.emod_nonneg (↑k / suf (growS sz a) (a + 1)) (show rd (growS sz a) a ≠ 0 by omega)
        have h2 := Int.emod_lt_of_pos (↑k / suf (growS sz a) (a + 1)) (show 0 < rd (growS sz a) a by omega)
        omega
      have hr1 := hr0.1; have hr2 := hr0.2
      have hn34 := nw_trans HK.out hnw4
      have hset : (w4.setCell ⟨g4, a, none⟩ (.int .i64 (rd (cellL (growS sz a) k) a - 1))).heap[g4]? = some (.cells (iv .i64 ((cellL (growS sz a) k).set a (rd (cellL (growS sz a) k) a - 1))).toArray 3 (0, 0)) := by rw [blk_set hblk, iv_set]
      have hnset : Nw wr (w4.setCell ⟨g4, a, none⟩ (.int .i64 (rd (cellL (growS sz a) k) a - 1))) := hnw4.setCell hg4 _
      have HB := Lib.hid hblk; have HN4 := Lib.hid hnw4; have HS := Lib.hid hset; have HNS := Lib.hid hnset
      clear hblk hnw4 hr0 hn34 hset hnset
      have rest : ∀ (W : World) (n : Nat), Nw wr W → W.heap[g4]? = some (.cells (iv .i64 (lower a i (cellL (growS sz a) k))).toArray 3 (0, 0)) →
          Calls Try.prog 24 #[.pointer (some ⟨b, 0, none⟩), .slice (some ⟨g4, 0, none⟩) sz.length sz.length] W fun e w' => e = .returned (.tuple #[.int .i64 (getV sz cs (lower a i (cellL (growS sz a) k))), .int .i64 (placeE sz (lower a i (cellL (growS sz a) k)))]) ∧ ∃ n, w' = W.drewN n := by
        intro W n hN hB
        have hl : (lower a i (cellL (growS sz a) k)).length = sz.length := by unfold lower; split <;> simp
        have := get13 F W b sz cs (lower a i (cellL (growS sz a) k)) (some ⟨g4, 0, none⟩) sz.length HW.out (HF.out.nw (nw_trans N3.out (nw_trans HK.out hN))) (IR_of_blk hB)
        rw [hl] at this
        exact this
      have REST := Lib.hid rest; clear rest
      by_cases hlow : i < rd (cellL (growS sz a) k) a
      · have q8 : decide (rd (cellL (growS sz a) k) a > i) = true := by simp; omega
        have elow : lower a i (cellL (growS sz a) k) = (cellL (growS sz a) k).set a (rd (cellL (growS sz a) k) a - 1) := by simp [lower, hlow]
        have HE := Lib.hid elow; clear elow
        go_wp2_with fail
        refine (REST.out _ 0 HNS.out (by rw [HE.out]; exact HS.out)).mono ?_; rintro e w5 ⟨rfl, n5, rfl⟩
        have nw5 : Nw wr ((w4.setCell ⟨g4, a, none⟩ (.int .i64 (rd (cellL (growS sz a) k) a - 1))).drewN n5) := nw_trans HNS.out (nw_drewN _ _)
        generalize (w4.setCell ⟨g4, a, none⟩ (.int .i64 (rd (cellL (growS sz a) k) a - 1))).drewN n5 = W5 at nw5 ⊢
        have ho5 := nw_own nw5 HO.out
        have hn35 := nw_trans HK.out nw5
        have hz5 := hn35.size
        clear HB HN4 HS HNS REST hcv hcf q8 HE
        generalize hV : getV sz cs (lower a i (cellL (growS sz a) k)) = V
        generalize placeE sz (lower a i (cellL (growS sz a) k)) = E
        have HV := Lib.hid hV; clear hV
        obtain ⟨T, hT⟩ : ∃ T, T = growT sz cs a i k := ⟨_, rfl⟩
        have hTl : T.length = k := by rw [hT]; simp
        rw [← hT] at ho5
        have ho6 : W5.ownsRow 0 3 1 (.slice av T.length cv) T.length (iv .i64 T) := by rw [← hTl] at ho5; exact ho5
        have HO5 := Lib.hid ho6; have HTT := Lib.hid hT; have HTL := Lib.hid hTl; have HN5 := Lib.hid nw5; have HN35 := Lib.hid hn35
        clear ho5 ho6 hT nw5 hn35 HO
        have hkT : T.length ≤ 4096 := by omega
        clear hTl
        go_wp2_with (at_builtin; refine app1 rfl (.tmp 102) (.tmp 104) 30 3 .i64 8 rfl Try.underlying30 infoI (by omega) _ (.slice av k cv) T _ rfl rfl (by have := HO5.out; rw [HTL.out] at this ⊢; exact this) (by omega) ?_)
        intro g6 c6 w6 ho6 hc6 hk6 hat6
        have hL : T.length = k := HTL.out
        rw [hL]
        have HO6 := Lib.hid ho6; have HK6 := Lib.hid hk6; have HAT := Lib.hid hat6
        clear ho6 hk6 hat6 hL
        go_wp2
        go_roundw
        case rel =>
          have e : growT sz cs a i (k + 1) = T ++ [V] := by rw [growT_succ, ← HTT.out, HV.out]
          refine ⟨k + 1, some ⟨g6, 0, none⟩, c6, by omega, by go_num, by go_num, ?_, ?_, ?_⟩
          · have := HO6.out; rw [HTL.out] at this; rw [e]; simpa [HTL.out] using this
          · intro d hd; cases hd
            rcases HAT.out with h | h
            · cases av with
              | none => cases h
              | some d' => have := HA.out d' rfl; have h' : some d'.block = some g6 := h; injection h' with h'; show w3.heap.size ≤ g6; omega
            · show w3.heap.size ≤ g6; omega
          · refine ((kp_of_nw HN35.out (fun _ => False)).trans HK6.out ?_).nw
            intro b hb hlt
            cases av with
            | none => cases hb
            | some d' => have := HA.out d' rfl; have h' : some d'.block = some b := hb; injection h' with h'; omega
        case measure => simp [intOf]; try omega
      · have q8 : decide (rd (cellL (growS sz a) k) a > i) = false := by simp; omega
        have elow : lower a i (cellL (growS sz a) k) = cellL (growS sz a) k := by simp [lower, hlow]
        have HE := Lib.hid elow; clear elow
        go_wp2_with fail
        refine (REST.out _ 0 HN4.out (by rw [HE.out]; exact HB.out)).mono ?_; rintro e w5 ⟨rfl, n5, rfl⟩
        have nw5 : Nw wr (w4.drewN n5) := nw_trans HN4.out (nw_drewN _ _)
        generalize w4.drewN n5 = W5 at nw5 ⊢
        have ho5 := nw_own nw5 HO.out
        have hn35 := nw_trans HK.out nw5
        have hz5 := hn35.size
        clear HB HN4 HS HNS REST hcv hcf q8 HE
        generalize hV : getV sz cs (lower a i (cellL (growS sz a) k)) = V
        generalize placeE sz (lower a i (cellL (growS sz a) k)) = E
        have HV := Lib.hid hV; clear hV
        obtain ⟨T, hT⟩ : ∃ T, T = growT sz cs a i k := ⟨_, rfl⟩
        have hTl : T.length = k := by rw [hT]; simp
        rw [← hT] at ho5
        have ho6 : W5.ownsRow 0 3 1 (.slice av T.length cv) T.length (iv .i64 T) := by rw [← hTl] at ho5; exact ho5
        have HO5 := Lib.hid ho6; have HTT := Lib.hid hT; have HTL := Lib.hid hTl; have HN5 := Lib.hid nw5; have HN35 := Lib.hid hn35
        clear ho5 ho6 hT nw5 hn35 HO
        have hkT : T.length ≤ 4096 := by omega
        clear hTl
        go_wp2_with (at_builtin; refine app1 rfl (.tmp 102) (.tmp 104) 30 3 .i64 8 rfl Try.underlying30 infoI (by omega) _ (.slice av k cv) T _ rfl rfl (by have := HO5.out; rw [HTL.out] at this ⊢; exact this) (by omega) ?_)
        intro g6 c6 w6 ho6 hc6 hk6 hat6
        have hL : T.length = k := HTL.out
        rw [hL]
        have HO6 := Lib.hid ho6; have HK6 := Lib.hid hk6; have HAT := Lib.hid hat6
        clear ho6 hk6 hat6 hL
        go_wp2
        go_roundw
        case rel =>
          have e : growT sz cs a i (k + 1) = T ++ [V] := by rw [growT_succ, ← HTT.out, HV.out]
          refine ⟨k + 1, some ⟨g6, 0, none⟩, c6, by omega, by go_num, by go_num, ?_, ?_, ?_⟩
          · have := HO6.out; rw [HTL.out] at this; rw [e]; simpa [HTL.out] using this
          · intro d hd; cases hd
            rcases HAT.out with h | h
            · cases av with
              | none => cases h
              | some d' => have := HA.out d' rfl; have h' : some d'.block = some g6 := h; injection h' with h'; show w3.heap.size ≤ g6; omega
            · show w3.heap.size ≤ g6; omega
          · refine ((kp_of_nw HN35.out (fun _ => False)).trans HK6.out ?_).nw
            intro b hb hlt
            cases av with
            | none => cases hb
            | some d' => have := HA.out d' rfl; have h' : some d'.block = some b := hb; injection h' with h'; omega
        case measure => simp [intOf]; try omega
    · obtain rfl : k = N := by omega
      have t5 := T3.out.nw hnw
      have ho3 := nw_own hnw HO3.out
      have p0 := t5.c0; have p1 := t5.c1
      have f0 := t5.fr 0; have f1 := t5.fr 1
      have hbl : b < wr.heap.size := blk_lt t5.1
      have hb3 : b < w.heap.size := HF.out.lt
      have hg1s : w.heap.size ≤ g1 := g1n
      have s0 : TwoV 32 (wr.setCell ⟨b, 0, none⟩ (.slice (some ⟨g1, 0, none⟩) sz.length k1)) b (growS sz a) cs (.slice (some ⟨g1, 0, none⟩) sz.length k1) (.slice ac cs.length cc) :=
        t5.put0 (by decide) ho3 (fun q h1 h2 => by
          have e1 : g1 = q := by injection h1
          have := own_lt HC0.out (b := q) h2
          omega)
      have ho : (wr.setCell ⟨b, 0, none⟩ (.slice (some ⟨g1, 0, none⟩) sz.length k1)).ownsRow 0 3 1 (.slice av k cv) (growT sz cs a i k).length (iv .i64 (growT sz cs a i k)) := own_set ho (own_ne_blk ho t5.1 (by decide)) _
      have s1 := s0.put1 (by decide) ho (fun q h1 h2 => by
          have e1 : g1 = q := by injection h1
          cases av with
          | none => cases h2
          | some d' => have := had d' rfl; have h' : some d'.block = some q := h2; injection h' with h'; omega)
      have p2 := s0.c1; have f2 := s0.fr 1
      have HS1 := Lib.hid s1; have HA := Lib.hid had; have HK := Lib.hid hnw
      clear s0 s1 ho ho3 t5 had hnw T3 HO3
      go_wp2
      go_ret
      have hlen := HNE.out
      refine ⟨rfl, ⟨_, _, by have := HS1.out; rw [hlen] at this; rw [hlen]; exact this, .inl HFB.out, fun q hq => ?_, fun q hq => ?_⟩, ?_⟩
      · have e1 : g1 = q := by injection hq
        exact .inr (by omega)
      · cases av with
        | none => cases hq
        | some d' => have := HA.out d' rfl; have h' : some d'.block = some q := hq; injection h' with h'; have := N3.out.size; exact .inr (by omega)
      · exact (((kp_of_nw (nw_trans N3.out HK.out) F).setCell (p := ⟨b, 0, none⟩) (fun _ => HFB.out) _).setCell (p := ⟨b, 1, none⟩) (fun _ => HFB.out) _)
end Go.Proofs.Ytbofjdckmkifaaa
