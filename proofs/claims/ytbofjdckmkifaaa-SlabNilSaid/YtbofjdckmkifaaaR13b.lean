/-
  The walks of the slab's reference: a content, the cells in order, ranges. Conditions: the slab is one that may be.
-/
import Derived.Test.YtbofjdckmkifaaaR13a
namespace Go.Proofs.Ytbofjdckmkifaaa
open Go.RowKit

set_option maxHeartbeats 400000 in
theorem get13 (F : Nat → Prop) (w : World) (b : Nat) (sz cs c : List Int) (ac : Option Addr) (cc : Nat) (hwf : Wf sz cs) (h : Two 32 F w b sz cs) (hcc : IR .i64 w ac c) :
    Calls Try.prog 24 #[.pointer (some ⟨b, 0, none⟩), .slice ac c.length cc] w fun e w' => e = .returned (.tuple #[.int .i64 (getV sz cs c), .int .i64 (placeE sz c)]) ∧ ∃ n, w' = w.drewN n := by
  have hp := Lib.hid (place13 F w b sz cs c ac cc hwf h hcc)
  have hlt := placeV_lt (c := c) hwf
  obtain ⟨vs, vc, ht, _⟩ := h
  have h1 := ht.c1
  obtain ⟨hb, hs, hc, hne⟩ := ht
  obtain ⟨az, zc, rfl, hzc, hzm, hz, _⟩ := own_IR hc
  obtain ⟨bz, oz, rfl, hz'⟩ := IR_some hz (by have := hwf.pos'; omega)
  have hm := hwf.most
  clear hb hs hc hne hz
  by_cases hf : isCell sz c = true
  · obtain ⟨p, hpe⟩ : ∃ p : Nat, placeV sz c = p := ⟨(placeV sz c).toNat, by omega⟩
    have hE : placeE sz c = 0 := by simp [placeE, hf]
    have hG : getV sz cs c = rd cs p := by
      simp only [placeV, hf, if_true] at hpe
      simp [getV, hf, hpe]
    rw [hE, hpe] at hp
    rw [hE, hG]
    rw [hpe] at hlt
    have hcell := hz' p (by omega)
    have hlt2 : p < cs.length := by omega
    clear hlt
    clear hE hpe hG hf hz'
    go_enter Try.func24, Try.ntmps24
    go_wp2_with (go_at_call 26; refine (hp.out).mono ?_; rintro e w' ⟨rfl, n, rfl⟩)
    go_wp2
    go_ret2
    exact ⟨rfl, _, rfl⟩
  · have hf : isCell sz c = false := by simpa using hf
    have hE : placeE sz c = 1 := by simp [placeE, hf]
    have hG : getV sz cs c = 0 := by simp [getV, hf]
    rw [hE] at hp
    rw [hE, hG]
    clear hE hG hf hz' hlt
    go_enter Try.func24, Try.ntmps24
    go_wp2_with (go_at_call 26; refine (hp.out).mono ?_; rintro e w' ⟨rfl, n, rfl⟩)
    go_wp2
    go_ret2
    exact ⟨rfl, _, rfl⟩

/-! ### Cell, within, may -/
theorem infoI : (Try.prog.info? 3).map (fun i => (i.zero, i.size, i.bytes)) = some (some (.int .i64 0), 1, 8) := by kernel_rfl

set_option maxHeartbeats 400000 in
theorem cell13 (w : World) (sz : List Int) (az : Option Addr) (zc : Nat) (n : Int) (hn0 : 0 ≤ n) (hn1 : n ≤ 1000000) (h0 : 1 ≤ sz.length) (hl : sz.length ≤ 6) (hp : ∀ k, k < sz.length → 1 ≤ rd sz k ∧ rd sz k ≤ 4096) (hz : IR .i64 w az sz) :
    Calls Try.prog 35 #[.slice az sz.length zc, .int .i64 n] w fun e w' => ∃ g, e = .returned (.slice (some ⟨g, 0, none⟩) sz.length sz.length) ∧ w.heap.size ≤ g ∧ w'.heap[g]? = some (.cells (iv .i64 (cellL sz n)).toArray 3 (0, 0)) ∧ Nw w w' := by
  have hmk := run_mk 30 3 .i64 8 Try.underlying30 infoI (by omega) sz.length (by omega)
  obtain ⟨bz, oz, rfl, hz'⟩ := IR_some hz (by omega)
  obtain ⟨l, hl'⟩ : ∃ l, l = sz.length := ⟨_, rfl⟩
  rw [← hl'] at hmk hz' h0 hl hp ⊢
  have HZ := Lib.hid hz'; have HP := Lib.hid hp; have HL := Lib.hid hl'; clear hz' hp hl' hz
  go_enter Try.func35, Try.ntmps35
  go_wp2
  go_loopw [1, 6] (fun m i wr => ∃ k : Nat, k ≤ l ∧ i = .int .i64 ((k : Int) - 1) ∧ m = .int .i64 (n / suf sz k) ∧ 0 ≤ n / suf sz k ∧ n / suf sz k ≤ 1000000 ∧ wr.heap[w.heap.size]? = some (.cells (iv .i64 (cellT sz n k)).toArray 3 (0, 0)) ∧ Nw w wr) (fun _ i _ => ((intOf i) + 1).toNat)
  case atStart =>
    have e : suf sz l = 1 := suf_end sz (by have := HL.out; omega)
    refine ⟨l, Nat.le_refl _, rfl, by rw [e, Int.ediv_one], by rw [e, Int.ediv_one]; exact hn0, by rw [e, Int.ediv_one]; exact hn1, ?_, nw_alloc _ _⟩
    rw [HL.out, cellT_start]; exact blk_new _ _
  case round =>
    obtain ⟨k, hk, rfl, rfl, hm0, hm1, hblk, hnw⟩ := hrel
    obtain ⟨m, hm⟩ : ∃ m, m = n / suf sz k := ⟨_, rfl⟩
    rw [← hm] at hm0 hm1 ⊢
    cases k with
    | zero =>
      clear hmk
      have HB := Lib.hid hblk; have HN := Lib.hid hnw; have HM := Lib.hid hm; clear hblk hnw hm
      go_wp2
      go_ret
      exact ⟨w.heap.size, rfl, Nat.le_refl _, by rw [← cellT_end]; exact HB.out, HN.out⟩
    | succ k =>
      have hs := HP.out k (by omega)
      have hc := nw_cell hnw (HZ.out k (by omega))
      have hlen : (cellT sz n (k + 1)).length = sz.length := cellT_length _ _ _
      have hget := blk_cell hblk k
      have hfr := blk_frozen hblk k
      have hget' : wr.cell? ⟨w.heap.size, k, none⟩ = some (.int .i64 (rd (cellT sz n (k + 1)) k)) := by
        rw [hget]; simpa using iv_get .i64 (cellT sz n (k + 1)) (j := k) (by rw [hlen]; have := HL.out; omega)
      have hd : m % rd sz k = dig sz n k := by rw [hm]; rfl
      have hq : m / rd sz k = n / suf sz k := by
        have h1 := suf_pos (fun k hk => (HP.out k (by have := HL.out; omega)).1) (k + 1)
        rw [hm, Int.ediv_ediv_of_nonneg (by omega), Int.mul_comm, ← suf_step sz (by have := HL.out; omega)]
      have hq0 : 0 ≤ m / rd sz k := Int.ediv_nonneg hm0 (by omega)
      have hq1 : m / rd sz k ≤ m := Int.ediv_le_self _ hm0
      have hr0 : 0 ≤ m % rd sz k := Int.emod_nonneg _ (by omega)
      have hr1 : m % rd sz k < rd sz k := Int.emod_lt_of_pos _ (by omega)
      have hset : (wr.setCell ⟨w.heap.size, k, none⟩ (.int .i64 (m % rd sz k))).heap[w.heap.size]? = some (.cells (iv .i64 (cellT sz n k)).toArray 3 (0, 0)) := by
        rw [blk_set hblk, iv_set, hd, cellT_step _ _ _ (by have := HL.out; omega)]
      have hkp : Nw w (wr.setCell ⟨w.heap.size, k, none⟩ (.int .i64 (m % rd sz k))) := hnw.setCell (Nat.le_refl _) _
      have hc2 : (wr.setCell ⟨w.heap.size, k, none⟩ (.int .i64 (m % rd sz k))).cell? ⟨bz, oz + k, none⟩ = some (.int .i64 (rd sz k)) := nw_cell hkp (HZ.out k (by omega))
      have HB := Lib.hid hblk; have HN := Lib.hid hnw; have HM := Lib.hid hm; have HD := Lib.hid hd; have HQ := Lib.hid hq; have HS := Lib.hid hset; have HK := Lib.hid hkp; have HL2 := Lib.hid hlen
      clear hblk hnw hm hd hq hset hkp hlen hget hmk
      go_wp2
      go_roundw
      case rel => exact ⟨k, by omega, by go_num, by rw [← HQ.out], by rw [← HQ.out]; exact hq0, by rw [← HQ.out]; omega, HS.out, HK.out⟩
      case measure => simp [intOf]; try omega

set_option maxHeartbeats 400000 in
theorem within13 (w : World) (c low high : List Int) (a1 a2 a3 : Option Addr) (c1 c2 c3 : Nat) (h0 : 1 ≤ c.length) (hm : c.length ≤ 6) (hl : low.length = c.length) (hh : high.length = c.length)
    (r1 : IR .i64 w a1 c) (r2 : IR .i64 w a2 low) (r3 : IR .i64 w a3 high) :
    Calls Try.prog 53 #[.slice a1 c.length c1, .slice a2 low.length c2, .slice a3 high.length c3] w fun e w' => e = .returned (.bool (withinB c low high c.length)) ∧ ∃ n, w' = w.drewN n := by
  obtain ⟨b1, o1, rfl, r1'⟩ := IR_some r1 (by omega)
  obtain ⟨b2, o2, rfl, r2'⟩ := IR_some r2 (by omega)
  obtain ⟨b3, o3, rfl, r3'⟩ := IR_some r3 (by omega)
  clear r1 r2 r3
  rw [hl] at r2'; rw [hh] at r3'; rw [hl, hh]
  obtain ⟨l, hl'⟩ : ∃ l, l = c.length := ⟨_, rfl⟩
  rw [← hl'] at h0 hm r1' r2' r3' ⊢
  have R1 := Lib.hid r1'; have R2 := Lib.hid r2'; have R3 := Lib.hid r3'; clear r1' r2' r3' hl hh hl'
  go_enter Try.func53, Try.ntmps53
  go_wp2
  go_loopw [7] (fun i wr => ∃ k : Nat, k ≤ l ∧ i = .int .i64 k ∧ withinB c low high k = true ∧ ∃ nq, wr = w.drewN nq) (fun i _ => l - (intOf i).toNat)
  case atStart => exact ⟨0, Nat.zero_le _, rfl, rfl, 0, rfl⟩
  case round =>
    obtain ⟨k, hk, rfl, hok, nq, rfl⟩ := hrel
    have HO := Lib.hid hok; clear hok
    by_cases hlt : k < l
    · have g1 := R1.out k hlt
      have g2 := R2.out k hlt
      have g3 := R3.out k hlt
      by_cases q0 : rd c k < rd low k
      · have q1 : decide (rd c k < rd low k) = true := by simp; omega
        go_wp2
        go_quiet (fail)
        go_wp2
        go_ret
        have hf : withinB c low high l = false := withinB_mono (show k + 1 ≤ l by omega) (by simp [withinB]; intro _ _; omega)
        rw [hf]
        exact ⟨rfl, by first | exact ⟨_, rfl⟩ | exact ⟨_, World.drewN_drewN _ _ _⟩⟩
      · by_cases q3 : rd high k < rd c k
        · have q1 : decide (rd c k < rd low k) = false := by simp; omega
          have q2 : decide (rd c k > rd high k) = true := by simp; omega
          go_wp2
          go_quiet (fail)
          go_wp2
          go_ret
          have hf : withinB c low high l = false := withinB_mono (show k + 1 ≤ l by omega) (by simp [withinB]; intro _ _; omega)
          rw [hf]
          exact ⟨rfl, by first | exact ⟨_, rfl⟩ | exact ⟨_, World.drewN_drewN _ _ _⟩⟩
        · have q1 : decide (rd c k < rd low k) = false := by simp; omega
          have q2 : decide (rd c k > rd high k) = false := by simp; omega
          have hok1 : withinB c low high (k + 1) = true := by simp [withinB, HO.out]; omega
          have HO1 := Lib.hid hok1; clear hok1
          go_wp2
          go_quiet (fail)
          go_wp2
          go_roundw
          case rel => exact ⟨k + 1, by omega, by go_num, HO1.out, by first | exact ⟨_, rfl⟩ | exact ⟨_, World.drewN_drewN _ _ _⟩⟩
          case measure => simp [intOf]; try omega
    · obtain rfl : k = l := by omega
      go_wp2
      go_ret
      rw [HO.out]
      exact ⟨rfl, _, rfl⟩

set_option maxHeartbeats 1000000 in
theorem may13 (F : Nat → Prop) (w : World) (b : Nat) (sz cs low high : List Int) (a1 a2 : Option Addr) (c1 c2 : Nat) (hwf : Wf sz cs) (h : Two 32 F w b sz cs) (r1 : IR .i64 w a1 low) (r2 : IR .i64 w a2 high) :
    Calls Try.prog 52 #[.pointer (some ⟨b, 0, none⟩), .slice a1 low.length c1, .slice a2 high.length c2] w fun e w' => e = .returned (.bool (mayB sz low high)) ∧ ∃ n, w' = w.drewN n := by
  have hp1 := Lib.hid (place13 F w b sz cs low a1 c1 hwf h r1)
  have hp2 := Lib.hid (fun n => place13 F (w.drewN n) b sz cs high a2 c2 hwf (h.nw (nw_drewN w n)) (r2.nw (nw_drewN w n)))
  by_cases e1 : isCell sz low = true
  · by_cases e2 : isCell sz high = true
    · have E1 : placeE sz low = 0 := by simp [placeE, e1]
      have E2 : placeE sz high = 0 := by simp [placeE, e2]
      have l1 : low.length = sz.length := by simp [isCell] at e1; exact e1.1
      have l2 : high.length = sz.length := by simp [isCell] at e2; exact e2.1
      have hmay : mayB sz low high = leB low high low.length := by simp [mayB, e1, e2]
      rw [hmay]
      rw [E1] at hp1; rw [E2] at hp2
      have h6 := hwf.hi
      have h1 := hwf.lo
      obtain ⟨b1, o1, rfl, r1'⟩ := IR_some r1 (by omega)
      obtain ⟨b2, o2, rfl, r2'⟩ := IR_some r2 (by omega)
      obtain ⟨l, hl'⟩ : ∃ l, l = low.length := ⟨_, rfl⟩
      rw [show high.length = low.length by omega] at r2' hp2 ⊢
      rw [← hl'] at r1' r2' hp1 hp2 ⊢
      have h7 : l ≤ 6 := by omega
      obtain ⟨p1, hq1⟩ : ∃ p, p = placeV sz low := ⟨_, rfl⟩
      obtain ⟨p2, hq2⟩ : ∃ p, p = placeV sz high := ⟨_, rfl⟩
      rw [← hq1] at hp1; rw [← hq2] at hp2
      have R1 := Lib.hid r1'; have R2 := Lib.hid r2'; clear r1' r2' r1 r2 l1 l2 hl' h e1 e2 E1 E2 hmay hwf h6 h1 hq1 hq2
      go_enter Try.func52, Try.ntmps52
      go_wp2_with fail
      refine hp1.out.mono ?_; rintro e w' ⟨rfl, n1, rfl⟩
      go_wp2_with fail
      refine (hp2.out n1).mono ?_; rintro e w' ⟨rfl, n2, rfl⟩
      clear hp1 hp2
      go_wp2
      go_loopw [11] (fun i wr => ∃ k : Nat, k ≤ l ∧ i = .int .i64 k ∧ leB low high k = true ∧ ∃ nq, wr = w.drewN nq) (fun i _ => l - (intOf i).toNat)
      case atStart => exact ⟨0, Nat.zero_le _, rfl, rfl, _, rfl⟩
      case round =>
        obtain ⟨k, hk, rfl, hok, nq, rfl⟩ := hrel
        have HO := Lib.hid hok; clear hok
        by_cases hlt : k < l
        · have g1 := R1.out k hlt
          have g2 := R2.out k hlt
          by_cases q0 : rd high k < rd low k
          · have q1 : decide (rd low k > rd high k) = true := by simp; omega
            go_wp2
            go_quiet (fail)
            go_wp2
            go_ret
            have hf : leB low high l = false := leB_mono (show k + 1 ≤ l by omega) (by simp [leB]; intro _; omega)
            rw [hf]
            exact ⟨rfl, by first | exact ⟨_, rfl⟩ | exact ⟨_, World.drewN_drewN _ _ _⟩⟩
          · have q1 : decide (rd low k > rd high k) = false := by simp; omega
            have hok1 : leB low high (k + 1) = true := by simp [leB, HO.out]; omega
            have HO1 := Lib.hid hok1; clear hok1
            go_wp2
            go_quiet (fail)
            go_wp2
            go_roundw
            case rel => exact ⟨k + 1, by omega, by go_num, HO1.out, by first | exact ⟨_, rfl⟩ | exact ⟨_, World.drewN_drewN _ _ _⟩⟩
            case measure => simp [intOf]; try omega
        · obtain rfl : k = l := by omega
          go_wp2
          go_ret
          rw [HO.out]
          exact ⟨rfl, _, rfl⟩
    · have e2' : isCell sz high = false := by simpa using e2
      have E1 : placeE sz low = 0 := by simp [placeE, e1]
      have E2 : placeE sz high = 1 := by simp [placeE, e2']
      have hmay : mayB sz low high = false := by simp [mayB, e2']
      rw [hmay]
      rw [E1] at hp1; rw [E2] at hp2
      clear e1 e2 e2' E1 E2 hmay r1 r2 h hwf
      go_enter Try.func52, Try.ntmps52
      go_wp2_with fail
      refine hp1.out.mono ?_; rintro e w' ⟨rfl, n1, rfl⟩
      go_wp2_with fail
      refine (hp2.out n1).mono ?_; rintro e w' ⟨rfl, n2, rfl⟩
      go_wp2
      go_ret
      exact ⟨rfl, by first | exact ⟨_, rfl⟩ | exact ⟨_, World.drewN_drewN _ _ _⟩⟩
  · have e1' : isCell sz low = false := by simpa using e1
    have E1 : placeE sz low = 1 := by simp [placeE, e1']
    have hmay : mayB sz low high = false := by simp [mayB, e1']
    rw [hmay]
    rw [E1] at hp1
    obtain ⟨p2, hq2⟩ : ∃ p, p = placeV sz high := ⟨_, rfl⟩
    obtain ⟨e2, hq3⟩ : ∃ p, p = placeE sz high := ⟨_, rfl⟩
    rw [← hq2, ← hq3] at hp2
    clear e1 e1' E1 hmay r1 r2 h hwf hq2 hq3
    go_enter Try.func52, Try.ntmps52
    go_wp2_with fail
    refine hp1.out.mono ?_; rintro e w' ⟨rfl, n1, rfl⟩
    go_wp2_with fail
    refine (hp2.out n1).mono ?_; rintro e w' ⟨rfl, n2, rfl⟩
    go_wp2
    go_ret
    exact ⟨rfl, by first | exact ⟨_, rfl⟩ | exact ⟨_, World.drewN_drewN _ _ _⟩⟩
end Go.Proofs.Ytbofjdckmkifaaa
