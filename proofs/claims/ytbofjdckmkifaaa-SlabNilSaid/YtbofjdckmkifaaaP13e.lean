/-
  The walk of the slab's places: what it hands back. Conditions: the slab is one that may be, or none.
-/
import Derived.Test.YtbofjdckmkifaaaP13d
namespace Go.Proofs.Ytbofjdckmkifaaa
open Go.RowKit

set_option maxRecDepth 100000 in
set_option maxHeartbeats 2000000 in
theorem placesP_nil (w : World) (al ah : Option Addr) (nl cl nh ch : Nat) :
    Calls Try.prog 51 #[.pointer none, .slice al nl cl, .slice ah nh ch] w fun e w' => e = .returned (.tuple #[.nilFunc, .int .i64 1]) ∧ Nw w w' := by
  go_enter Try.func51, Try.ntmps51
  go_wp2_with (go_at_call 25; refine (placeP_nil _ _ _ _).mono ?_; rintro e w' ⟨rfl, rfl⟩)
  go_wp2
  go_ret2
  refine ⟨rfl, ?_⟩
  repeat (first | exact Below.refl _ _ | refine Below.alloc ?_ (by simp; try omega) _ | refine Below.setCell ?_ (by simp; try omega) _)

set_option maxRecDepth 100000 in
set_option maxHeartbeats 2000000 in
theorem placesP_no (F : Nat → Prop) (w : World) (b : Nat) (sz cs low high : List Int) (al ah : Option Addr) (cl ch : Nat) (hwf : Wf sz cs) (h : Two 77 F w b sz cs) (r1 : IR .i64 w al low) (r2 : IR .i64 w ah high) (hm : mayB sz low high = false) :
    Calls Try.prog 51 #[.pointer (some ⟨b, 0, none⟩), .slice al low.length cl, .slice ah high.length ch] w fun e w' => e = .returned (.tuple #[.nilFunc, .int .i64 1]) ∧ Nw w w' := by
  have hp1 := Lib.hid (fun (W : World) (hn : Nw w W) => placeP F W b sz cs low al cl hwf (h.nw hn) (r1.nw hn))
  have hp2 := Lib.hid (fun (W : World) (hn : Nw w W) => placeP F W b sz cs high ah ch hwf (h.nw hn) (r2.nw hn))
  by_cases e1 : isCell sz low = true
  · by_cases e2 : isCell sz high = true
    · have E1 : placeE sz low = 0 := by simp [placeE, e1]
      have E2 : placeE sz high = 0 := by simp [placeE, e2]
      have l1 : low.length = sz.length := by simp [isCell] at e1; exact e1.1
      have l2 : high.length = sz.length := by simp [isCell] at e2; exact e2.1
      have hle : leB low high low.length = false := by simpa [mayB, e1, e2] using hm
      have h6 := hwf.hi
      have h1 := hwf.lo
      obtain ⟨b1, o1, rfl, r1'⟩ := IR_some r1 (by omega)
      obtain ⟨b2, o2, rfl, r2'⟩ := IR_some r2 (by omega)
      obtain ⟨l, hl'⟩ : ∃ l, l = low.length := ⟨_, rfl⟩
      rw [show high.length = low.length by omega] at r2' hp2 ⊢
      rw [← hl'] at r1' r2' hp1 hp2 hle ⊢
      have h7 : l ≤ 6 := by omega
      obtain ⟨p1, hq1⟩ : ∃ p, p = placeV sz low := ⟨_, rfl⟩
      obtain ⟨p2, hq2⟩ : ∃ p, p = placeV sz high := ⟨_, rfl⟩
      rw [E1, ← hq1] at hp1; rw [E2, ← hq2] at hp2
      have R1 := Lib.hid r1'; have R2 := Lib.hid r2'; have HL := Lib.hid hle; clear r1' r2' r1 r2 l1 l2 hl' h e1 e2 E1 E2 hm hwf h6 h1 hq1 hq2 hle
      have b1w : ∀ k, k < l → b1 < w.heap.size := fun k hk => World.block_lt_of_cell? w _ (R1.out k hk)
      have b2w : ∀ k, k < l → b2 < w.heap.size := fun k hk => World.block_lt_of_cell? w _ (R2.out k hk)
      have B1 := Lib.hid b1w; have B2 := Lib.hid b2w; clear b1w b2w
      go_enter Try.func51, Try.ntmps51
      go_wp2_with fail
      refine (hp1.out _ (by repeat (first | exact Below.refl _ _ | refine Below.alloc ?_ (by simp; try omega) _ | refine Below.setCell ?_ (by simp; try omega) _))).mono ?_; rintro e w' ⟨rfl, rfl⟩
      go_wp2_with fail
      refine (hp2.out _ (by repeat (first | exact Below.refl _ _ | refine Below.alloc ?_ (by simp; try omega) _ | refine Below.setCell ?_ (by simp; try omega) _))).mono ?_; rintro e w' ⟨rfl, rfl⟩
      go_wp2
      go_loopw [33] (fun i wr => ∃ k : Nat, k ≤ l ∧ i = .int .i64 (k : Int) ∧ Hid (leB low high k = true) ∧ Hid (wr.heap[w.heap.size + 1]? = some (.cells #[.slice (some ⟨b1, o1, none⟩) l cl] 30 (0, 0))) ∧ Hid (wr.heap[w.heap.size + 2]? = some (.cells #[.slice (some ⟨b2, o2, none⟩) l ch] 30 (0, 0))) ∧
        Hid (wr.heap[w.heap.size]? = some (.cells #[.pointer (some ⟨b, 0, none⟩)] 23 (0, 0))) ∧ Hid (wr.heap[w.heap.size + 3]? = some (.cells #[.int .i64 p1] 3 (0, 0))) ∧ Hid (Nw w wr)) (fun i _ => l - (intOf i).toNat)
      case atStart =>
        refine ⟨0, Nat.zero_le _, rfl, rfl, ?_, ?_, ?_, ?_, ?_⟩
        all_goals first | (show _ = _; simp only [heap_alloc_if, World.size_alloc]; repeat (first | rw [if_pos trivial] | rw [if_pos (by omega)] | rw [if_neg (by omega)])) | (show Nw _ _; repeat (first | exact Below.refl _ _ | refine Below.alloc ?_ (by simp; try omega) _ | refine Below.setCell ?_ (by simp; try omega) _))
      case round =>
        obtain ⟨k, hk, rfl, HO, C1, C2, C3, C4, N⟩ := hrel
        by_cases hlt : k < l
        · have g1 := nw_cell N.out (R1.out k hlt)
          have g2 := nw_cell N.out (R2.out k hlt)
          have c1 : wr.cell? ⟨w.heap.size + 1, 0, none⟩ = some (.slice (some ⟨b1, o1, none⟩) l cl) := blk_cell C1.out 0
          have c2 : wr.cell? ⟨w.heap.size + 2, 0, none⟩ = some (.slice (some ⟨b2, o2, none⟩) l ch) := blk_cell C2.out 0
          by_cases q0 : rd high k < rd low k
          · have q1 : decide (rd low k > rd high k) = true := by simp; omega
            go_wp2
            go_quiet (fail)
            go_wp2
            go_ret2
            exact ⟨rfl, nw_trans N.out (nw_drewN _ _)⟩
          · have q1 : decide (rd low k > rd high k) = false := by simp; omega
            have hok1 : leB low high (k + 1) = true := by simp [leB, HO.out]; omega
            have HO1 := Lib.hid hok1; clear hok1
            go_wp2
            go_quiet (fail)
            go_wp2
            go_roundw
            case rel => exact ⟨k + 1, by omega, by go_num, HO1, C1.out, C2.out, C3.out, C4.out, nw_trans N.out (nw_drewN _ _)⟩
            case measure => simp [intOf]; try omega
        · obtain rfl : k = l := by omega
          exact absurd HO.out (by rw [HL.out]; simp)
    · have e2' : isCell sz high = false := by simpa using e2
      have E1 : placeE sz low = 0 := by simp [placeE, e1]
      have E2 : placeE sz high = 1 := by simp [placeE, e2']
      obtain ⟨p1, hq1⟩ : ∃ p, p = placeV sz low := ⟨_, rfl⟩
      obtain ⟨p2, hq2⟩ : ∃ p, p = placeV sz high := ⟨_, rfl⟩
      rw [E1, ← hq1] at hp1; rw [E2, ← hq2] at hp2
      clear e1 e2 e2' E1 E2 hm r1 r2 h hwf hq1 hq2
      go_enter Try.func51, Try.ntmps51
      go_wp2_with fail
      refine (hp1.out _ (by repeat (first | exact Below.refl _ _ | refine Below.alloc ?_ (by simp; try omega) _ | refine Below.setCell ?_ (by simp; try omega) _))).mono ?_; rintro e w' ⟨rfl, rfl⟩
      go_wp2_with fail
      refine (hp2.out _ (by repeat (first | exact Below.refl _ _ | refine Below.alloc ?_ (by simp; try omega) _ | refine Below.setCell ?_ (by simp; try omega) _))).mono ?_; rintro e w' ⟨rfl, rfl⟩
      go_wp2
      go_ret2
      refine ⟨rfl, ?_⟩
      repeat (first | exact Below.refl _ _ | refine Below.alloc ?_ (by simp; try omega) _ | refine Below.setCell ?_ (by simp; try omega) _)
  · have e1' : isCell sz low = false := by simpa using e1
    have E1 : placeE sz low = 1 := by simp [placeE, e1']
    obtain ⟨p1, hq1⟩ : ∃ p, p = placeV sz low := ⟨_, rfl⟩
    obtain ⟨p2, hq2⟩ : ∃ p, p = placeV sz high := ⟨_, rfl⟩
    obtain ⟨e2, hq3⟩ : ∃ p, p = placeE sz high := ⟨_, rfl⟩
    rw [E1, ← hq1] at hp1; rw [← hq2, ← hq3] at hp2
    clear e1 e1' E1 hm r1 r2 h hwf hq1 hq2 hq3
    go_enter Try.func51, Try.ntmps51
    go_wp2_with fail
    refine (hp1.out _ (by repeat (first | exact Below.refl _ _ | refine Below.alloc ?_ (by simp; try omega) _ | refine Below.setCell ?_ (by simp; try omega) _))).mono ?_; rintro e w' ⟨rfl, rfl⟩
    go_wp2_with fail
    refine (hp2.out _ (by repeat (first | exact Below.refl _ _ | refine Below.alloc ?_ (by simp; try omega) _ | refine Below.setCell ?_ (by simp; try omega) _))).mono ?_; rintro e w' ⟨rfl, rfl⟩
    go_wp2
    go_ret2
    refine ⟨rfl, ?_⟩
    repeat (first | exact Below.refl _ _ | refine Below.alloc ?_ (by simp; try omega) _ | refine Below.setCell ?_ (by simp; try omega) _)

set_option maxRecDepth 100000 in
set_option maxHeartbeats 2000000 in
theorem placesP_yes (F : Nat → Prop) (w : World) (b : Nat) (sz cs low high : List Int) (al ah : Option Addr) (cl ch : Nat) (hwf : Wf sz cs) (h : Two 77 F w b sz cs) (r1 : IR .i64 w al low) (r2 : IR .i64 w ah high) (hm : mayB sz low high = true) :
    Calls Try.prog 51 #[.pointer (some ⟨b, 0, none⟩), .slice al low.length cl, .slice ah high.length ch] w fun e w' => ∃ bs, e = .returned (.tuple #[.func (.func 73) #[] #[.pointer (some ⟨bs + 1, 0, none⟩), .pointer (some ⟨bs + 3, 0, none⟩), .pointer (some ⟨bs + 2, 0, none⟩), .pointer (some ⟨bs, 0, none⟩)], .int .i64 0]) ∧ w.heap.size ≤ bs ∧
      w'.heap[bs]? = some (.cells #[.pointer (some ⟨b, 0, none⟩)] 23 (0, 0)) ∧ w'.heap[bs + 1]? = some (.cells #[.slice al low.length cl] 30 (0, 0)) ∧ w'.heap[bs + 2]? = some (.cells #[.slice ah high.length ch] 30 (0, 0)) ∧ w'.heap[bs + 3]? = some (.cells #[.int .i64 (placeV sz low)] 3 (0, 0)) ∧ Nw w w' := by
  have hp1 := Lib.hid (fun (W : World) (hn : Nw w W) => placeP F W b sz cs low al cl hwf (h.nw hn) (r1.nw hn))
  have hp2 := Lib.hid (fun (W : World) (hn : Nw w W) => placeP F W b sz cs high ah ch hwf (h.nw hn) (r2.nw hn))
  have e1 : isCell sz low = true := by simp [mayB] at hm; exact hm.1.1
  have e2 : isCell sz high = true := by simp [mayB] at hm; exact hm.1.2
  · · have E1 : placeE sz low = 0 := by simp [placeE, e1]
      have E2 : placeE sz high = 0 := by simp [placeE, e2]
      have l1 : low.length = sz.length := by simp [isCell] at e1; exact e1.1
      have l2 : high.length = sz.length := by simp [isCell] at e2; exact e2.1
      have hle : leB low high low.length = true := by simpa [mayB, e1, e2] using hm
      have h6 := hwf.hi
      have h1 := hwf.lo
      obtain ⟨b1, o1, rfl, r1'⟩ := IR_some r1 (by omega)
      obtain ⟨b2, o2, rfl, r2'⟩ := IR_some r2 (by omega)
      obtain ⟨l, hl'⟩ : ∃ l, l = low.length := ⟨_, rfl⟩
      rw [show high.length = low.length by omega] at r2' hp2 ⊢
      rw [← hl'] at r1' r2' hp1 hp2 hle ⊢
      have h7 : l ≤ 6 := by omega
      obtain ⟨p1, hq1⟩ : ∃ p, p = placeV sz low := ⟨_, rfl⟩
      obtain ⟨p2, hq2⟩ : ∃ p, p = placeV sz high := ⟨_, rfl⟩
      rw [E1, ← hq1] at hp1; rw [E2, ← hq2] at hp2
      have R1 := Lib.hid r1'; have R2 := Lib.hid r2'; have HL := Lib.hid hle; clear r1' r2' r1 r2 l1 l2 hl' h e1 e2 E1 E2 hm hwf h6 h1 hq2 hle
      have HQ1 := Lib.hid hq1; clear hq1; skip
      have b1w : ∀ k, k < l → b1 < w.heap.size := fun k hk => World.block_lt_of_cell? w _ (R1.out k hk)
      have b2w : ∀ k, k < l → b2 < w.heap.size := fun k hk => World.block_lt_of_cell? w _ (R2.out k hk)
      have B1 := Lib.hid b1w; have B2 := Lib.hid b2w; clear b1w b2w
      go_enter Try.func51, Try.ntmps51
      go_wp2_with fail
      refine (hp1.out _ (by repeat (first | exact Below.refl _ _ | refine Below.alloc ?_ (by simp; try omega) _ | refine Below.setCell ?_ (by simp; try omega) _))).mono ?_; rintro e w' ⟨rfl, rfl⟩
      go_wp2_with fail
      refine (hp2.out _ (by repeat (first | exact Below.refl _ _ | refine Below.alloc ?_ (by simp; try omega) _ | refine Below.setCell ?_ (by simp; try omega) _))).mono ?_; rintro e w' ⟨rfl, rfl⟩
      go_wp2
      go_loopw [33] (fun i wr => ∃ k : Nat, k ≤ l ∧ i = .int .i64 (k : Int) ∧ Hid (leB low high k = true) ∧ Hid (wr.heap[w.heap.size + 1]? = some (.cells #[.slice (some ⟨b1, o1, none⟩) l cl] 30 (0, 0))) ∧ Hid (wr.heap[w.heap.size + 2]? = some (.cells #[.slice (some ⟨b2, o2, none⟩) l ch] 30 (0, 0))) ∧
        Hid (wr.heap[w.heap.size]? = some (.cells #[.pointer (some ⟨b, 0, none⟩)] 23 (0, 0))) ∧ Hid (wr.heap[w.heap.size + 3]? = some (.cells #[.int .i64 p1] 3 (0, 0))) ∧ Hid (Nw w wr)) (fun i _ => l - (intOf i).toNat)
      case atStart =>
        refine ⟨0, Nat.zero_le _, rfl, rfl, ?_, ?_, ?_, ?_, ?_⟩
        all_goals first | (show _ = _; simp only [heap_alloc_if, World.size_alloc]; repeat (first | rw [if_pos trivial] | rw [if_pos (by omega)] | rw [if_neg (by omega)])) | (show Nw _ _; repeat (first | exact Below.refl _ _ | refine Below.alloc ?_ (by simp; try omega) _ | refine Below.setCell ?_ (by simp; try omega) _))
      case round =>
        obtain ⟨k, hk, rfl, HO, C1, C2, C3, C4, N⟩ := hrel
        by_cases hlt : k < l
        · have g1 := nw_cell N.out (R1.out k hlt)
          have g2 := nw_cell N.out (R2.out k hlt)
          have c1 : wr.cell? ⟨w.heap.size + 1, 0, none⟩ = some (.slice (some ⟨b1, o1, none⟩) l cl) := blk_cell C1.out 0
          have c2 : wr.cell? ⟨w.heap.size + 2, 0, none⟩ = some (.slice (some ⟨b2, o2, none⟩) l ch) := blk_cell C2.out 0
          by_cases q0 : rd high k < rd low k
          · exfalso
            have := leB_at.1 HL.out k hlt
            omega
          · have q1 : decide (rd low k > rd high k) = false := by simp; omega
            have hok1 : leB low high (k + 1) = true := by simp [leB, HO.out]; omega
            have HO1 := Lib.hid hok1; clear hok1
            go_wp2
            go_quiet (fail)
            go_wp2
            go_roundw
            case rel => exact ⟨k + 1, by omega, by go_num, HO1, C1.out, C2.out, C3.out, C4.out, nw_trans N.out (nw_drewN _ _)⟩
            case measure => simp [intOf]; try omega
        · obtain rfl : k = l := by omega
          go_wp2
          go_ret2
          exact ⟨w.heap.size, rfl, Nat.le_refl _, C3.out, C1.out, C2.out, by rw [← HQ1.out]; exact C4.out, N.out⟩
end Go.Proofs.Ytbofjdckmkifaaa
