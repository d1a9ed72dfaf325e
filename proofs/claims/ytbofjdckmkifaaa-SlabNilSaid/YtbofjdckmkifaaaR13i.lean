/-
  The walks of the slab's reference: Shrink. Conditions: the slab is one that may be.
-/
import Derived.Test.YtbofjdckmkifaaaR13e
import Derived.Test.YtbofjdckmkifaaaR13f
namespace Go.Proofs.Ytbofjdckmkifaaa
open Go.RowKit

set_option maxHeartbeats 1000000 in
theorem shrink13_bad (F : Nat → Prop) (w : World) (b : Nat) (sz cs : List Int) (at_ i : Int) (hwf : Wf sz cs) (h : Two 32 F w b sz cs) (hb : shrBad sz at_ i = true) :
    Calls Try.prog 20 #[.pointer (some ⟨b, 0, none⟩), .int .i64 at_, .int .i64 i] w fun e w' => e = .returned (.int .i64 1) ∧ w = w' := by
  obtain ⟨vs, vc, ht, -⟩ := h
  obtain ⟨az, zc, rfl, hzc, hzm, hz, -⟩ := own_IR ht.2.1
  obtain ⟨bz, oz, rfl, hz'⟩ := IR_some hz (by have := hwf.lo; omega)
  have h6 := hwf.hi
  have p0 := ht.c0
  clear ht hz
  have HZ := Lib.hid hz'; clear hz'
  simp only [shrBad, Bool.or_eq_true, decide_eq_true_eq] at hb
  by_cases q0 : at_ < 0
  · have q1 : decide (at_ < 0) = true := by simp; omega
    clear hb
    go_enter Try.func20, Try.ntmps20
    go_wp2
    go_ret
    exact ⟨rfl, rfl⟩
  have q1 : decide (at_ < 0) = false := by simp; omega
  obtain ⟨a, rfl⟩ := Int.eq_ofNat_of_zero_le (show 0 ≤ at_ by omega)
  by_cases q2 : sz.length ≤ a
  · have q3 : decide ((a : Int) ≥ (sz.length : Int)) = true := by simp; omega
    clear hb
    go_enter Try.func20, Try.ntmps20
    go_wp2
    go_ret
    exact ⟨rfl, rfl⟩
  have q3 : decide ((a : Int) ≥ (sz.length : Int)) = false := by simp; omega
  have q3' : decide (sz.length ≤ a) = false := by simp; omega
  by_cases q4 : i < 0
  · have q5 : decide (i < 0) = true := by simp; omega
    clear hb
    go_enter Try.func20, Try.ntmps20
    go_wp2
    go_ret
    exact ⟨rfl, rfl⟩
  have q5 : decide (i < 0) = false := by simp; omega
  have gs := hwf.size_le (k := a) (by omega)
  have q6 : decide (i ≥ rd sz a - 1) = true := by simp at hb ⊢; omega
  have g := HZ.out a (by omega)
  clear hb hwf
  go_enter Try.func20, Try.ntmps20
  go_wp2
  go_ret
  exact ⟨rfl, rfl⟩


set_option maxHeartbeats 4000000 in
theorem shrink13_go (F : Nat → Prop) (w : World) (b : Nat) (sz cs : List Int) (a : Nat) (i : Int) (hwf : Wf sz cs) (h : Two 32 F w b sz cs) (hb : shrBad sz a i = false) :
    Calls Try.prog 20 #[.pointer (some ⟨b, 0, none⟩), .int .i64 (a : Int), .int .i64 i] w fun e w' =>
      (shrOk sz cs a i cs.length = true ∧ e = .returned (.int .i64 0) ∧ Two 32 (fun k => F k ∨ w.heap.size ≤ k) w' b (shrS sz a) (shrT sz cs a i cs.length) ∧ Kp F w w') ∨
      (shrOk sz cs a i cs.length = false ∧ e = .returned (.int .i64 1) ∧ Nw w w') := by
  have hF := h
  obtain ⟨vs, vc, ht, hFb, -⟩ := h
  obtain ⟨az, zc, rfl, hzc, hzm, hz, -⟩ := own_IR ht.2.1
  obtain ⟨bz, oz, rfl, hz'⟩ := IR_some hz (by have := hwf.lo; omega)
  obtain ⟨ac, cc, rfl, hcc, hcm, hcr, -⟩ := own_IR ht.2.2.1
  obtain ⟨bc, oc, rfl, hcr'⟩ := IR_some hcr (by have := hwf.pos'; omega)
  have h6 := hwf.hi; have hlo := hwf.lo; have hmost := hwf.most
  have p0 := ht.c0; have p1 := ht.c1
  simp only [shrBad, Bool.or_eq_false_iff, decide_eq_false_iff_not, Int.toNat_natCast] at hb
  have ha : a < sz.length := by omega
  have g := hz' a ha
  have gs := hwf.size_le ha
  have q1 : decide ((a : Int) < 0) = false := by simp
  have q3 : decide ((a : Int) ≥ (sz.length : Int)) = false := by simp; omega
  have q3' : decide (sz.length ≤ a) = false := by simp; omega
  have q5 : decide (i < 0) = false := by simp; omega
  have q6 : decide (i ≥ rd sz a - 1) = false := by simp; omega
  have hi0 : 0 ≤ i := by omega
  have hi1 : i ≤ 4096 := by omega
  have HT := Lib.hid ht; have HW := Lib.hid hwf; have HFB := Lib.hid hFb; have HF := Lib.hid hF; have HZ := Lib.hid hz; have HCR := Lib.hid hcr'
  have HC0 := Lib.hid ht.2.2.1
  clear hz' hb hwf ht hFb hF hz hcr hcr'
  go_enter Try.func20, Try.ntmps20
  go_wp2
  go_loopw [7, 8] (fun v i' wr => ∃ (k : Nat) (av : Option Addr) (cv : Nat), k ≤ cs.length ∧ i' = .int .i64 k ∧ v = .slice av (shrT sz cs a i k).length cv ∧ wr.ownsRow 0 3 1 (.slice av (shrT sz cs a i k).length cv) (shrT sz cs a i k).length (iv .i64 (shrT sz cs a i k)) ∧
    (∀ d, av = some d → w.heap.size ≤ d.block) ∧ Nw w wr ∧ shrOk sz cs a i k = true) (fun _ i' _ => cs.length - (intOf i').toNat)
  case atStart => exact ⟨0, none, 0, Nat.zero_le _, rfl, rfl, World.ownsRow_nil _ _ _ _, fun d hd => by (cases hd), Below.refl _ _, rfl⟩
  case round =>
    clear p0 p1 q1 q3 q3' q5 q6 g
    obtain ⟨k, av, cv, hk, rfl, rfl, ho, had, hnw, hok⟩ := hrel
    have hTl := shrT_len sz cs a i k
    have ht := HT.out.nw hnw
    have p0 := ht.c0; have p1 := ht.c1
    by_cases hlt : k < cs.length
    · have hcell := Lib.hid (cell13 wr sz (some ⟨bz, oz, none⟩) zc k (by omega) (by omega) hlo h6 (fun j hj => HW.out.size_le hj) (HZ.out.nw hnw))
      have HO := Lib.hid ho; have HA := Lib.hid had; have HK := Lib.hid hnw; have HOK := Lib.hid hok
      clear ho had hnw hok ht
      go_wp2_with fail
      refine hcell.out.mono ?_; rintro e w4 ⟨g4, rfl, hg4, hblk, hnw4⟩
      clear hcell p0 p1
      have hn4 := nw_trans HK.out hnw4
      have hcv : w4.cell? ⟨g4, a, none⟩ = some (.int .i64 (rd (cellL sz k) a)) := by
        rw [blk_cell hblk]; simpa using iv_get .i64 (cellL sz k) (j := a) (by simpa using ha)
      have hcf := blk_frozen hblk a
      have hr0 : 0 ≤ rd (cellL sz k) a ∧ rd (cellL sz k) a ≤ 4096 := by
        rw [rd_cellL _ _ ha]
        unfold dig
        have h1 := Int.emod_nonneg (↑k / suf sz (a + 1)) (show rd sz a ≠ 0 by omega)
        have h2 := Int.emod_lt_of_pos (↑k / suf sz (a + 1)) (show 0 < rd sz a by omega)
        omega
      have hr1 := hr0.1; have hr2 := hr0.2
      have t4 := HT.out.nw hn4
      have p0 := t4.c0; have p1 := t4.c1
      have hval : w4.cell? ⟨bc, oc + k, none⟩ = some (.int .i64 (rd cs k)) := nw_cell hn4 (HCR.out k hlt)
      obtain ⟨T, hT⟩ : ∃ T, T = shrT sz cs a i k := ⟨_, rfl⟩
      rw [← hT] at hTl HO ⊢
      have HTT := Lib.hid hT
      have HN4 := Lib.hid hn4
      clear hr0 hT hn4 t4
      by_cases hne : rd (cellL sz k) a = i + 1
      · have q8 : (rd (cellL sz k) a != i + 1) = false := by simp; omega
        have hset : (w4.setCell ⟨g4, a, none⟩ (.int .i64 i)).heap[g4]? = some (.cells (iv .i64 ((cellL sz k).set a i)).toArray 3 (0, 0)) := by rw [blk_set hblk, iv_set]
        have hnset : Nw wr (w4.setCell ⟨g4, a, none⟩ (.int .i64 i)) := hnw4.setCell hg4 _
        have hnset2 := nw_trans HK.out hnset
        have hget := Lib.hid (get13 F (w4.setCell ⟨g4, a, none⟩ (.int .i64 i)) b sz cs ((cellL sz k).set a i) (some ⟨g4, 0, none⟩) sz.length HW.out (HF.out.nw hnset2) (IR_of_blk hset))
        rw [List.length_set, cellL_length] at hget
        have HNE := Lib.hid hne; have HNS := Lib.hid hnset; have HNS2 := Lib.hid hnset2
        clear hblk hnw4 hset hnset hnset2 hne
        go_wp2_with fail
        refine hget.out.mono ?_; rintro e w5 ⟨rfl, n5, rfl⟩
        clear hget
        have nw5 : Nw w ((w4.setCell ⟨g4, a, none⟩ (.int .i64 i)).drewN n5) := nw_trans HNS2.out (nw_drewN _ _)
        have nwr5 : Nw wr ((w4.setCell ⟨g4, a, none⟩ (.int .i64 i)).drewN n5) := nw_trans HNS.out (nw_drewN _ _)
        generalize (w4.setCell ⟨g4, a, none⟩ (.int .i64 i)).drewN n5 = W5 at nw5 nwr5 ⊢
        generalize hV : getV sz cs ((cellL sz k).set a i) = V
        generalize placeE sz ((cellL sz k).set a i) = E
        have t5 := HT.out.nw nw5
        have p0 := t5.c0; have p1 := t5.c1
        have hval : W5.cell? ⟨bc, oc + k, none⟩ = some (.int .i64 (rd cs k)) := nw_cell nw5 (HCR.out k hlt)
        have HV := Lib.hid hV; have N5 := Lib.hid nw5; have NR5 := Lib.hid nwr5
        clear hV nw5 nwr5 t5 hcv hcf q8
        by_cases hvv : V = rd cs k
        · have q9 : (V != rd cs k) = false := by simp [hvv]
          have HVV := Lib.hid hvv; clear hvv
          go_wp2
          go_roundw
          case rel =>
            have e : shrT sz cs a i (k + 1) = T := by rw [shrT, if_neg (by simp [HNE.out]), HTT.out]
            refine ⟨k + 1, av, cv, by omega, by go_num, by rw [e], by rw [e]; exact nw_own NR5.out HO.out, HA.out, N5.out, ?_⟩
            simp [shrOk, HOK.out, HV.out, HVV.out]
          case measure => simp [intOf]; try omega
        · have q9 : (V != rd cs k) = true := by simp [hvv]
          have HVV := Lib.hid hvv; clear hvv
          go_wp2
          go_ret
          refine .inr ⟨?_, rfl, N5.out⟩
          exact shrOk_mono (show k + 1 ≤ cs.length by omega) (by simp [shrOk, HNE.out, HV.out, HVV.out])
      · have q8 : (rd (cellL sz k) a != i + 1) = true := by simp [hne]
        have HNE := Lib.hid hne
        have HNW4 := Lib.hid hnw4
        have ho4 := nw_own hnw4 HO.out
        have HO4 := Lib.hid ho4
        clear hblk hnw4 hne ho4 hcf
        go_wp2_with (at_builtin; refine app1 rfl (.tmp 62) (.tmp 70) 30 3 .i64 8 rfl Try.underlying30 infoI (by omega) _ (.slice av T.length cv) T _ rfl rfl HO4.out (by omega) ?_)
        intro g6 c6 w6 ho6 hc6 hk6 hat6
        have HO6 := Lib.hid ho6; have HK6 := Lib.hid hk6; have HAT := Lib.hid hat6
        clear ho6 hk6 hat6 hcv
        go_wp2
        go_roundw
        case rel =>
          have e : shrT sz cs a i (k + 1) = T ++ [rd cs k] := by rw [shrT, if_pos (by simpa using HNE.out), HTT.out]
          refine ⟨k + 1, some ⟨g6, 0, none⟩, c6, by omega, by go_num, by rw [e]; simp, by rw [e]; simpa using HO6.out, ?_, ?_, by simp [shrOk, HOK.out, HNE.out]⟩
          · intro d hd; cases hd
            rcases HAT.out with h | h
            · cases av with
              | none => cases h
              | some d' => have := HA.out d' rfl; have h' : some d'.block = some g6 := h; injection h' with h'; show w.heap.size ≤ g6; omega
            · have := HN4.out.size; show w.heap.size ≤ g6; omega
          · refine ((kp_of_nw HN4.out (fun _ => False)).trans HK6.out ?_).nw
            intro b hb hlt
            cases av with
            | none => cases hb
            | some d' => have := HA.out d' rfl; have h' : some d'.block = some b := hb; injection h' with h'; omega
        case measure => simp [intOf]; try omega
    · obtain rfl : k = cs.length := by omega
      have hn := Lib.hid hnw; have HO := Lib.hid ho; have HA := Lib.hid had; have HOK := Lib.hid hok
      have hsz := hnw.size
      obtain ⟨T, hT⟩ : ∃ T, T = shrT sz cs a i cs.length := ⟨_, rfl⟩
      rw [← hT] at hTl HO ⊢
      have HTT := Lib.hid hT
      clear hT ht ho had hnw hok
      go_wp2_with (at_builtin; refine appI rfl (.const (.slice none 0 0)) (.tmp 94) 30 3 .i64 8 rfl Try.underlying30 infoI (by omega) _ _ [] sz bz oz zc rfl rfl (HZ.out.nw hn.out) (World.ownsRow_nil _ _ _ _) (by simp; omega) (by simp; omega) ?_)
      intro g1 k1 w1 ho1 hc1 hk1 hat1
      have n1 : Nw wr w1 := (hk1.mono (T := fun _ => False) (fun b hb _ => by cases hb)).nw
      have g1n : wr.heap.size ≤ g1 := by rcases hat1 with h | h; cases h; exact h
      have hv1 : w1.cell? ⟨g1, a, none⟩ = some (.int .i64 (rd sz a)) := own_cell ho1 ha
      have hf1 := own_frozen ho1 a
      have hst := own_store ho1 a (.int .i64 (rd sz a - 1))
      have l1 := own_lt ho1 (b := g1) rfl
      have HST := Lib.hid hst; have N1 := Lib.hid n1; have L1 := Lib.hid l1; have G1 := Lib.hid g1n
      have t1 := HT.out.nw (nw_trans hn.out n1)
      have q0 := t1.c0; have q1 := t1.c1
      have f0 := t1.fr 0; have f1 := t1.fr 1
      have hb3 : b < w.heap.size := HF.out.lt
      have hbg : b ≠ g1 := by omega
      have hbg' : g1 ≠ b := by omega
      clear hst ho1 hk1 hat1 n1 l1 p0 p1 g1n t1
      go_wp2
      go_ret
      generalize hw3 : w1.setCell ⟨g1, a, none⟩ (.int .i64 (rd sz a - 1)) = w3
      have n3 : Nw wr w3 := by rw [← hw3]; exact N1.out.setCell G1.out _
      have hst := HST.out
      rw [hw3] at hst
      have ho3 : w3.ownsRow 0 3 1 (.slice (some ⟨g1, 0, none⟩) sz.length k1) (shrS sz a).length (iv .i64 (shrS sz a)) := by simpa [iv, shrS, List.map_set] using hst
      have t5 := HT.out.nw (nw_trans hn.out n3)
      have ho := nw_own n3 HO.out
      have s0 : TwoV 32 (w3.setCell ⟨b, 0, none⟩ (.slice (some ⟨g1, 0, none⟩) sz.length k1)) b (shrS sz a) cs (.slice (some ⟨g1, 0, none⟩) sz.length k1) (.slice (some ⟨bc, oc, none⟩) cs.length cc) :=
        t5.put0 (by decide) ho3 (fun q h1 h2 => by
          have e1 : g1 = q := by injection h1
          have := own_lt HC0.out (b := q) h2
          have := G1.out
          omega)
      have ho' : (w3.setCell ⟨b, 0, none⟩ (.slice (some ⟨g1, 0, none⟩) sz.length k1)).ownsRow 0 3 1 (.slice av T.length cv) T.length (iv .i64 T) := own_set ho (own_ne_blk ho t5.1 (by decide)) _
      have hlt' : ∀ d, av = some d → d.block < wr.heap.size := fun d hd => own_lt HO.out (b := d.block) (by rw [hd]; rfl)
      have s1 := s0.put1 (by decide) ho' (fun q h1 h2 => by
          have e1 : g1 = q := by injection h1
          cases av with
          | none => cases h2
          | some d' => have := hlt' d' rfl; have h' : some d'.block = some q := h2; injection h' with h'; have := G1.out; omega)
      have N3 := Lib.hid n3
      refine .inl ⟨HOK.out, rfl, ⟨_, _, by rw [← HTT.out]; exact s1, .inl HFB.out, fun q hq => ?_, fun q hq => ?_⟩, ?_⟩
      · have e1 : g1 = q := by injection hq
        have := G1.out
        exact .inr (by omega)
      · cases av with
        | none => cases hq
        | some d' => have := HA.out d' rfl; have h' : some d'.block = some q := hq; injection h' with h'; exact .inr (by omega)
      · exact (((kp_of_nw (nw_trans hn.out N3.out) F).setCell (p := ⟨b, 0, none⟩) (fun _ => HFB.out) _).setCell (p := ⟨b, 1, none⟩) (fun _ => HFB.out) _)
end Go.Proofs.Ytbofjdckmkifaaa
