/-
  The walk of the slab's places of a range, as a function that yields them and what follows it. No condition beside those that each theorem states.
-/
import Derived.Test.YtbofjdckmkifaaaProg13a
import Derived.Test.YtbofjdckmkifaaaPlain13
import Derived.Test.YtbofjdckmkifaaaMem2
import Derived.Deep.RegionHeld3
import Derived.Deep.DeepCutAuto
import Derived.Maps.Own
import Derived.Maps.OwnSet
import Derived.Maps.Views
import Derived.Maps.Keyed

/-! ## The walk of the slab's places of a range, as a function that yields them. Conditions: the slab is one that may be, the two cells are a range; what the loop's body does leaves what is read here alone. -/
namespace Go.Proofs.Ytbofjdckmkifaaa
open Go.RowKit Go.Shelf

/-- what the iterator reads -/
structure PEnv (F : Nat → Prop) (sz low high : List Int) (N : Nat) (al ah : Option Addr) (cl ch bl bh bs b : Nat) (A : World) : Prop where
  el : A.heap[bl]? = some (.cells #[.slice al low.length cl] 30 (0, 0))
  eh : A.heap[bh]? = some (.cells #[.slice ah high.length ch] 30 (0, 0))
  es : A.heap[bs]? = some (.cells #[.pointer (some ⟨b, 0, none⟩)] 23 (0, 0))
  rl : IR .i64 A al low
  rh : IR .i64 A ah high
  two : ∃ cs, Two 77 F A b sz cs ∧ Wf sz cs ∧ cs.length = N

set_option maxRecDepth 100000 in
set_option maxHeartbeats 2000000 in
theorem placesIt (n : Nat) (F : Nat → Prop) (sz low high : List Int) (N : Nat) (al ah : Option Addr) (cl ch bl bf bh bs b l p0 : Nat) (hm : mayB sz low high = true) (hp0 : plc sz low sz.length = p0)
    (J : Nat → List Nat → World → Prop) (hJ : ∀ m pre A, J m pre A → PEnv F sz low high N al ah cl ch bl bh bs b A) (hab : ∀ m pre A B, J m pre A → Kp (fun k => k = m) A B → J m pre B) (W : World)
    (hE : PEnv F sz low high N al ah cl ch bl bh bs b W) (hbf : W.heap[bf]? = some (.cells #[.int .i64 (p0 : Int)] 3 (0, 0)))
    (h0 : ∀ m W', Nw W W' → W.heap.size ≤ m → m < W'.heap.size → J m [] W')
    (hy : ∀ (m : Nat) (p : Nat) (A : World), W.heap.size ≤ m → J m (hits sz low high p) A → m < A.heap.size → p < N → hitB sz low high p = true →
      YieldAt Fence.wide n Try.prog l #[.int .i64 (p : Int)] A fun e B => e = .returned (.bool true) ∧ J m (hits sz low high (p + 1)) B ∧ B.heap[m]? = A.heap[m]?) :
    Calls Try.prog 73 #[.func (.yield l) #[] #[], .pointer (some ⟨bl, 0, none⟩), .pointer (some ⟨bf, 0, none⟩), .pointer (some ⟨bh, 0, none⟩), .pointer (some ⟨bs, 0, none⟩)] W fun e W' =>
      (∃ v, e = .returned v) ∧ ∃ m, J m (hits sz low high N) W' := by
  obtain ⟨l1, l2, o1, o2, hle⟩ := may_facts hm
  obtain ⟨cs, htwo, hwf, hN⟩ := hE.two
  have hlo := hwf.lo; have hhi := hwf.hi
  have c1 : W.cell? ⟨bl, 0, none⟩ = some (.slice al low.length cl) := blk_cell hE.el 0
  have c2 : W.cell? ⟨bf, 0, none⟩ = some (.int .i64 (p0 : Int)) := blk_cell hbf 0
  have hcl := Lib.hid (clone_own W.drew al cl low (by omega) (by omega) (hE.rl.nw ⟨rfl, rfl, rfl, Nat.le_refl _, fun _ _ => rfl⟩))
  rw [l1] at c1 hcl
  have HE := Lib.hid hE; have HL1 := Lib.hid l1; have HL2 := Lib.hid l2; have HO1 := Lib.hid o1; have HO2 := Lib.hid o2; have HLE := Lib.hid hle; have HM := Lib.hid hm; have HP0 := Lib.hid hp0; have hNe := Lib.hid hN; have HWF := Lib.hid hwf
  have HJ := Lib.hid hJ; have HAB := Lib.hid hab; have H0 := Lib.hid h0; have HY := Lib.hid hy
  clear hE htwo hbf l1 l2 o1 o2 hle hm hp0 hN hwf hJ hab h0 hy
  go_enter Try.func73, Try.ntmps73
  go_upto_region 0 with fail
  go_cut [6, 7] (fun s6 s7 wx => ∃ (m c' : Nat), s6 = .slice (some ⟨m, 0, none⟩) sz.length c' ∧ s7 = .int .i64 (p0 : Int) ∧ sz.length ≤ c' ∧ Hid (wx.ownsRow W.heap.size 3 1 (.slice (some ⟨m, 0, none⟩) sz.length c') sz.length (iv .i64 low)) ∧ Hid (Nw W wx))
  case first =>
    go_region_with (go_at_call 54; refine hcl.out.mono ?_; rintro e w1 ⟨m, c', rfl, ho, hc, hn⟩; have c2' := nw_cell hn c2)
    all_goals (go_wp2; go_meet; exact ⟨m, c', rfl, rfl, hc, ho, ⟨hn.os, hn.tape, hn.output, hn.size, hn.block⟩⟩)
  case rest =>
    obtain ⟨m, c', rfl, rfl, hc, HO, HN⟩ := hcut
    clear c1 c2 hcl
    go_wp2
    obtain ⟨p0', e0, hp0N, hc0, hh0, hhits0⟩ := first_hit HWF.out HM.out
    have e0' : p0' = p0 := by have := HP0.out; omega
    subst e0'
    have hsz0 := HN.out.size
    have hml := own_lt HO.out (b := m) rfl
    have hmg := own_ge HO.out (b := m) rfl
    have J0 := H0.out m wc HN.out hmg hml
    rw [← hhits0] at J0
    have HO1' : Hid (wc.ownsRow W.heap.size 3 1 (.slice (some ⟨m, 0, none⟩) sz.length c') sz.length (iv .i64 (cellL sz (p0' : Int)))) := by rw [hc0]; exact HO
    have HH0 := Lib.hid hh0; have J0' := Lib.hid J0
    have hp0N' : p0' < N := by rw [← hNe.out]; exact hp0N
    clear e0 hc0 hh0 hhits0 J0 hp0N HO
    go_loopw [7] (fun s7 wr => ∃ p : Nat, s7 = .int .i64 (p : Int) ∧ p < N ∧ Hid (hitB sz low high p = true) ∧ Hid (J m (hits sz low high p) wr) ∧ Hid (wr.ownsRow W.heap.size 3 1 (.slice (some ⟨m, 0, none⟩) sz.length c') sz.length (iv .i64 (cellL sz (p : Int))))) (fun s7 _ => N - (intOf s7).toNat)
    case atStart => exact ⟨p0', rfl, hp0N', HH0, J0', HO1'⟩
    case round =>
      clear HH0 J0' HO1' hp0N' hml
      obtain ⟨p, rfl, hpN, HH, HJp, HOp⟩ := hrel
      obtain ⟨fn, tmps, assign, body, hyr, hR⟩ := HY.out m p wr hmg HJp.out (own_lt HOp.out (b := m) rfl) hpN HH.out
      have HR := Lib.hid hR; clear hR
      go_upto_region 1 with fail
      refine (wpIn_wide (n := n + 1)).1 ?_
      gi_wp2
      refine HR.out.mono ?_
      rintro e B ⟨rfl, hJ1, hbm⟩
      have HJ1 := Lib.hid hJ1; have HBM := Lib.hid hbm
      clear hJ1 hbm HR hyr
      gi_wp2
      have hOB : B.ownsRow W.heap.size 3 1 (.slice (some ⟨m, 0, none⟩) sz.length c') sz.length (iv .i64 (cellL sz (p : Int))) := own_heap HOp.out HBM.out
      have HOB := Lib.hid hOB
      clear hOB
      go_wp2
      go_loopw [8] (fun s8 wr => ∃ k : Nat, s8 = .int .i64 ((k : Int) - 1) ∧ k ≤ sz.length ∧ (∀ i, k ≤ i → i < sz.length → rd (cellL sz (p : Int)) i = rd high i) ∧ Hid (wr.ownsRow W.heap.size 3 1 (.slice (some ⟨m, 0, none⟩) sz.length c') sz.length (iv .i64 (odo (cellL sz (p : Int)) low k))) ∧ Hid (Kp (fun b => b = m) B wr)) (fun s8 _ => (intOf s8 + 1).toNat)
      case atStart => exact ⟨sz.length, rfl, Nat.le_refl _, fun i h1 h2 => by omega, by have h := HOB.out; rw [show odo (cellL sz (p : Int)) low sz.length = cellL sz (p : Int) by have := odo_all (cellL sz (p : Int)) low; rw [cellL_length] at this; exact this]; exact h, Kp.refl _ _⟩
      case round =>
        obtain ⟨k, rfl, hk, hend, HOk, HKk⟩ := hrel
        have HEND := Lib.hid hend; clear hend
        cases k with
        | zero =>
          go_wp2
          go_quiet (fail)
          go_wp2
          refine bodyPost_ret (results_none rfl _ _ _) rfl ?_
          refine ⟨⟨_, rfl⟩, m, ?_⟩
          have hl := last_hit (low := low) (high := high) HWF.out (p := p) (by rw [hNe.out]; exact hpN) (fun j hj => HEND.out j (Nat.zero_le _) hj)
          rw [hNe.out] at hl
          rw [hl]
          exact HAB.out m _ _ _ (HAB.out m _ B _ HJ1.out HKk.out) ((Kp.refl _ _).drewN _)
        | succ j =>
          have hj : j < sz.length := by omega
          have E := HJ.out m _ _ (HAB.out m _ B _ HJ1.out HKk.out)
          obtain ⟨bh', oh', eah, hrh⟩ := E.rh j (by rw [HL2.out]; exact hj)
          obtain ⟨bl', ol', eal, hrl⟩ := E.rl j (by rw [HL1.out]; exact hj)
          have c3 : wr.cell? ⟨bh, 0, none⟩ = some (.slice (some ⟨bh', oh', none⟩) sz.length ch) := by rw [blk_cell E.eh 0, ← eah, ← HL2.out]; rfl
          have c4 : wr.cell? ⟨m, j, none⟩ = some (.int .i64 (rd (cellL sz (p : Int)) j)) := by
            have := own_cell HOk.out (j := j) (by simpa using hj)
            rw [rd_odo _ _ _ _ (by simpa using hj), if_pos (by omega)] at this; exact this
          by_cases hq : rd (cellL sz (p : Int)) j = rd high j
          · have q1 : (rd (cellL sz (p : Int)) j == rd high j) = true := by simp [hq]
            have c5 : wr.cell? ⟨bl, 0, none⟩ = some (.slice (some ⟨bl', ol', none⟩) sz.length cl) := by rw [blk_cell E.el 0, ← eal, ← HL1.out]; rfl
            have hfr := own_frozen HOk.out j
            have HQ := Lib.hid hq; have EAH := Lib.hid eah; have EAL := Lib.hid eal
            clear hq E eah eal
            go_wp2
            go_quiet (fail)
            go_wp2
            go_roundw
            case rel =>
              refine ⟨j, by go_num, by omega, fun i h1 h2 => ?_, ?_, ?_⟩
              · by_cases e : i = j
                · subst e; exact HQ.out
                · exact HEND.out i (by omega) h2
              · have h := own_store HOk.out j (.int .i64 (rd low j))
                have e : (iv .i64 (odo (cellL sz (p : Int)) low (j + 1))).set j (.int .i64 (rd low j)) = iv .i64 (odo (cellL sz (p : Int)) low j) := by
                  rw [← odo_step (cellL sz (p : Int)) low j (by simpa using hj)]; simp [iv, List.map_set]
                rw [e] at h; exact h
              · exact HKk.out.trans (((Kp.refl (fun b => b = m) _).drewN _).setCell (p := ⟨m, j, none⟩) (fun _ => rfl) _) (fun b hb _ => hb)
            case measure => simp [intOf]; try omega
          · have q1 : (rd (cellL sz (p : Int)) j == rd high j) = false := by simp [hq]
            have hcb := cellL_bd HWF.out.pos (p : Int) hj
            have hsz := HWF.out.size_le hj
            have hfr := own_frozen HOk.out j
            have hst := own_store HOk.out j (.int .i64 (rd (cellL sz (p : Int)) j + 1))
            have e : (iv .i64 (odo (cellL sz (p : Int)) low (j + 1))).set j (.int .i64 (rd (cellL sz (p : Int)) j + 1)) = iv .i64 (nxt (cellL sz (p : Int)) low j) := by simp [nxt, iv, List.map_set]
            rw [e] at hst
            have c6 : wr.cell? ⟨bs, 0, none⟩ = some (.pointer (some ⟨b, 0, none⟩)) := blk_cell E.es 0
            have hmb : ¬ bs = m := fun e => by have := blk_lt HE.out.es; omega
            have hmb' : ¬ m = bs := fun e => by have := blk_lt HE.out.es; omega
            obtain ⟨q, hq1, hqN, hqc, hqh, hqhits, hpq⟩ := next_hit (low := low) (high := high) HWF.out HM.out (p := p) (j := j) (by rw [hNe.out]; exact hpN) HH.out hj (fun i h1 h2 => HEND.out i h1 h2) hq
            have hx1 := hcb.1; have hx2 := hcb.2; have hx3 := hsz.2
            have HST := Lib.hid hst; have HQ1 := Lib.hid hq1; have HQC := Lib.hid hqc; have HQH := Lib.hid hqh; have HQT := Lib.hid hqhits; have EAH := Lib.hid eah
            have hqN' : q < N := by rw [← hNe.out]; exact hqN
            clear hq E eah eal hst e hcb hsz hq1 hqc hqh hqhits hrl hqN
            go_wp2
            go_quiet (fail)
            go_wp2_with fail
            have hk5 : Kp (fun b => b = m) B ((wr.drewN nq).setCell ⟨m, j, none⟩ (.int .i64 (rd (cellL sz (p : Int)) j + 1))) := HKk.out.trans (((Kp.refl (fun b => b = m) _).drewN _).setCell (p := ⟨m, j, none⟩) (fun _ => rfl) _) (fun b hb _ => hb)
            have ho5 : ((wr.drewN nq).setCell ⟨m, j, none⟩ (.int .i64 (rd (cellL sz (p : Int)) j + 1))).ownsRow W.heap.size 3 1 (.slice (some ⟨m, 0, none⟩) sz.length c') sz.length (iv .i64 (nxt (cellL sz (p : Int)) low j)) := HST.out
            generalize (wr.drewN nq).setCell ⟨m, j, none⟩ (.int .i64 (rd (cellL sz (p : Int)) j + 1)) = W5 at hk5 ho5 ⊢
            have J5 := HAB.out m _ B _ HJ1.out hk5
            obtain ⟨cs5, two5, wf5, n5⟩ := (HJ.out m _ _ J5).two
            have hpl := placeP F W5 b sz cs5 (nxt (cellL sz (p : Int)) low j) (some ⟨m, 0, none⟩) c' wf5 two5 (own_rd ho5)
            rw [nxt_length, cellL_length, HQ1.out] at hpl
            have HPL := Lib.hid hpl; have HO5 := Lib.hid ho5; have HJ5 := Lib.hid J5
            clear hpl ho5 J5 two5 wf5 n5 hk5
            refine HPL.out.mono ?_; rintro e w' ⟨rfl, rfl⟩
            go_wp2
            go_roundw
            case rel => exact ⟨q, rfl, hqN', HQH, (by show J m (hits sz low high q) W5; rw [HQT.out]; exact HJ5.out), (by show W5.ownsRow _ _ _ _ _ _; rw [HQC.out]; exact HO5.out)⟩
            case measure => simp [intOf]; try omega
end Go.Proofs.Ytbofjdckmkifaaa

/-! ## The walk of the slab's places: what it hands back. Conditions: the slab is one that may be, or none. -/
namespace Go.Proofs.Ytbofjdckmkifaaa
open Go.RowKit

set_option maxRecDepth 100000 in
set_option maxHeartbeats 2000000 in
theorem placesP_nil (w : World) (al ah : Option Addr) (nl cl nh ch : Nat) :
    Calls Try.prog 51 #[.pointer none, .slice al nl cl, .slice ah nh ch] w fun e w' => e = .returned (.tuple #[.nilFunc, .int .i64 1]) ∧ Nw w w' := by
  go_enter Try.func51, Try.ntmps51
  go_wp2_with (go_at_call 25; refine (placeP_nil _ _ _ _).mono ?_; rintro e w' ⟨rfl, rfl⟩)
  go_wp2
  go_ret2
  refine ⟨rfl, ?_⟩
  repeat (first | exact Below.refl _ _ | refine Below.alloc ?_ (by simp; try omega) _ | refine Below.setCell ?_ (by simp; try omega) _)

set_option maxRecDepth 100000 in
set_option maxHeartbeats 2000000 in
theorem placesP_no (F : Nat → Prop) (w : World) (b : Nat) (sz cs low high : List Int) (al ah : Option Addr) (cl ch : Nat) (hwf : Wf sz cs) (h : Two 77 F w b sz cs) (r1 : IR .i64 w al low) (r2 : IR .i64 w ah high) (hm : mayB sz low high = false) :
    Calls Try.prog 51 #[.pointer (some ⟨b, 0, none⟩), .slice al low.length cl, .slice ah high.length ch] w fun e w' => e = .returned (.tuple #[.nilFunc, .int .i64 1]) ∧ Nw w w' := by
  have hp1 := Lib.hid (fun (W : World) (hn : Nw w W) => placeP F W b sz cs low al cl hwf (h.nw hn) (r1.nw hn))
  have hp2 := Lib.hid (fun (W : World) (hn : Nw w W) => placeP F W b sz cs high ah ch hwf (h.nw hn) (r2.nw hn))
  by_cases e1 : isCell sz low = true
  · by_cases e2 : isCell sz high = true
    · have E1 : placeE sz low = 0 := by simp [placeE, e1]
      have E2 : placeE sz high = 0 := by simp [placeE, e2]
      have l1 : low.length = sz.length := by simp [isCell] at e1; exact e1.1
      have l2 : high.length = sz.length := by simp [isCell] at e2; exact e2.1
      have hle : leB low high low.length = false := by simpa [mayB, e1, e2] using hm
      have h6 := hwf.hi
      have h1 := hwf.lo
      obtain ⟨b1, o1, rfl, r1'⟩ := IR_some r1 (by omega)
      obtain ⟨b2, o2, rfl, r2'⟩ := IR_some r2 (by omega)
      obtain ⟨l, hl'⟩ : ∃ l, l = low.length := ⟨_, rfl⟩
      rw [show high.length = low.length by omega] at r2' hp2 ⊢
      rw [← hl'] at r1' r2' hp1 hp2 hle ⊢
      have h7 : l ≤ 6 := by omega
      obtain ⟨p1, hq1⟩ : ∃ p, p = placeV sz low := ⟨_, rfl⟩
      obtain ⟨p2, hq2⟩ : ∃ p, p = placeV sz high := ⟨_, rfl⟩
      rw [E1, ← hq1] at hp1; rw [E2, ← hq2] at hp2
      have R1 := Lib.hid r1'; have R2 := Lib.hid r2'; have HL := Lib.hid hle; clear r1' r2' r1 r2 l1 l2 hl' h e1 e2 E1 E2 hm hwf h6 h1 hq1 hq2 hle
      have b1w : ∀ k, k < l → b1 < w.heap.size := fun k hk => World.block_lt_of_cell? w _ (R1.out k hk)
      have b2w : ∀ k, k < l → b2 < w.heap.size := fun k hk => World.block_lt_of_cell? w _ (R2.out k hk)
      have B1 := Lib.hid b1w; have B2 := Lib.hid b2w; clear b1w b2w
      go_enter Try.func51, Try.ntmps51
      go_wp2_with fail
      refine (hp1.out _ (by repeat (first | exact Below.refl _ _ | refine Below.alloc ?_ (by simp; try omega) _ | refine Below.setCell ?_ (by simp; try omega) _))).mono ?_; rintro e w' ⟨rfl, rfl⟩
      go_wp2_with fail
      refine (hp2.out _ (by repeat (first | exact Below.refl _ _ | refine Below.alloc ?_ (by simp; try omega) _ | refine Below.setCell ?_ (by simp; try omega) _))).mono ?_; rintro e w' ⟨rfl, rfl⟩
      go_wp2
      go_loopw [33] (fun i wr => ∃ k : Nat, k ≤ l ∧ i = .int .i64 (k : Int) ∧ Hid (leB low high k = true) ∧ Hid (wr.heap[w.heap.size + 1]? = some (.cells #[.slice (some ⟨b1, o1, none⟩) l cl] 30 (0, 0))) ∧ Hid (wr.heap[w.heap.size + 2]? = some (.cells #[.slice (some ⟨b2, o2, none⟩) l ch] 30 (0, 0))) ∧
        Hid (wr.heap[w.heap.size]? = some (.cells #[.pointer (some ⟨b, 0, none⟩)] 23 (0, 0))) ∧ Hid (wr.heap[w.heap.size + 3]? = some (.cells #[.int .i64 p1] 3 (0, 0))) ∧ Hid (Nw w wr)) (fun i _ => l - (intOf i).toNat)
      case atStart =>
        refine ⟨0, Nat.zero_le _, rfl, rfl, ?_, ?_, ?_, ?_, ?_⟩
        all_goals first | (show _ = _; simp only [heap_alloc_if, World.size_alloc]; repeat (first | rw [if_pos trivial] | rw [if_pos (by omega)] | rw [if_neg (by omega)])) | (show Nw _ _; repeat (first | exact Below.refl _ _ | refine Below.alloc ?_ (by simp; try omega) _ | refine Below.setCell ?_ (by simp; try omega) _))
      case round =>
        obtain ⟨k, hk, rfl, HO, C1, C2, C3, C4, N⟩ := hrel
        by_cases hlt : k < l
        · have g1 := nw_cell N.out (R1.out k hlt)
          have g2 := nw_cell N.out (R2.out k hlt)
          have c1 : wr.cell? ⟨w.heap.size + 1, 0, none⟩ = some (.slice (some ⟨b1, o1, none⟩) l cl) := blk_cell C1.out 0
          have c2 : wr.cell? ⟨w.heap.size + 2, 0, none⟩ = some (.slice (some ⟨b2, o2, none⟩) l ch) := blk_cell C2.out 0
          by_cases q0 : rd high k < rd low k
          · have q1 : decide (rd low k > rd high k) = true := by simp; omega
            go_wp2
            go_quiet (fail)
            go_wp2
            go_ret2
            exact ⟨rfl, nw_trans N.out (nw_drewN _ _)⟩
          · have q1 : decide (rd low k > rd high k) = false := by simp; omega
            have hok1 : leB low high (k + 1) = true := by simp [leB, HO.out]; omega
            have HO1 := Lib.hid hok1; clear hok1
            go_wp2
            go_quiet (fail)
            go_wp2
            go_roundw
            case rel => exact ⟨k + 1, by omega, by go_num, HO1, C1.out, C2.out, C3.out, C4.out, nw_trans N.out (nw_drewN _ _)⟩
            case measure => simp [intOf]; try omega
        · obtain rfl : k = l := by omega
          exact absurd HO.out (by rw [HL.out]; simp)
    · have e2' : isCell sz high = false := by simpa using e2
      have E1 : placeE sz low = 0 := by simp [placeE, e1]
      have E2 : placeE sz high = 1 := by simp [placeE, e2']
      obtain ⟨p1, hq1⟩ : ∃ p, p = placeV sz low := ⟨_, rfl⟩
      obtain ⟨p2, hq2⟩ : ∃ p, p = placeV sz high := ⟨_, rfl⟩
      rw [E1, ← hq1] at hp1; rw [E2, ← hq2] at hp2
      clear e1 e2 e2' E1 E2 hm r1 r2 h hwf hq1 hq2
      go_enter Try.func51, Try.ntmps51
      go_wp2_with fail
      refine (hp1.out _ (by repeat (first | exact Below.refl _ _ | refine Below.alloc ?_ (by simp; try omega) _ | refine Below.setCell ?_ (by simp; try omega) _))).mono ?_; rintro e w' ⟨rfl, rfl⟩
      go_wp2_with fail
      refine (hp2.out _ (by repeat (first | exact Below.refl _ _ | refine Below.alloc ?_ (by simp; try omega) _ | refine Below.setCell ?_ (by simp; try omega) _))).mono ?_; rintro e w' ⟨rfl, rfl⟩
      go_wp2
      go_ret2
      refine ⟨rfl, ?_⟩
      repeat (first | exact Below.refl _ _ | refine Below.alloc ?_ (by simp; try omega) _ | refine Below.setCell ?_ (by simp; try omega) _)
  · have e1' : isCell sz low = false := by simpa using e1
    have E1 : placeE sz low = 1 := by simp [placeE, e1']
    obtain ⟨p1, hq1⟩ : ∃ p, p = placeV sz low := ⟨_, rfl⟩
    obtain ⟨p2, hq2⟩ : ∃ p, p = placeV sz high := ⟨_, rfl⟩
    obtain ⟨e2, hq3⟩ : ∃ p, p = placeE sz high := ⟨_, rfl⟩
    rw [E1, ← hq1] at hp1; rw [← hq2, ← hq3] at hp2
    clear e1 e1' E1 hm r1 r2 h hwf hq1 hq2 hq3
    go_enter Try.func51, Try.ntmps51
    go_wp2_with fail
    refine (hp1.out _ (by repeat (first | exact Below.refl _ _ | refine Below.alloc ?_ (by simp; try omega) _ | refine Below.setCell ?_ (by simp; try omega) _))).mono ?_; rintro e w' ⟨rfl, rfl⟩
    go_wp2_with fail
    refine (hp2.out _ (by repeat (first | exact Below.refl _ _ | refine Below.alloc ?_ (by simp; try omega) _ | refine Below.setCell ?_ (by simp; try omega) _))).mono ?_; rintro e w' ⟨rfl, rfl⟩
    go_wp2
    go_ret2
    refine ⟨rfl, ?_⟩
    repeat (first | exact Below.refl _ _ | refine Below.alloc ?_ (by simp; try omega) _ | refine Below.setCell ?_ (by simp; try omega) _)

set_option maxRecDepth 100000 in
set_option maxHeartbeats 2000000 in
theorem placesP_yes (F : Nat → Prop) (w : World) (b : Nat) (sz cs low high : List Int) (al ah : Option Addr) (cl ch : Nat) (hwf : Wf sz cs) (h : Two 77 F w b sz cs) (r1 : IR .i64 w al low) (r2 : IR .i64 w ah high) (hm : mayB sz low high = true) :
    Calls Try.prog 51 #[.pointer (some ⟨b, 0, none⟩), .slice al low.length cl, .slice ah high.length ch] w fun e w' => ∃ bs, e = .returned (.tuple #[.func (.func 73) #[] #[.pointer (some ⟨bs + 1, 0, none⟩), .pointer (some ⟨bs + 3, 0, none⟩), .pointer (some ⟨bs + 2, 0, none⟩), .pointer (some ⟨bs, 0, none⟩)], .int .i64 0]) ∧ w.heap.size ≤ bs ∧
      w'.heap[bs]? = some (.cells #[.pointer (some ⟨b, 0, none⟩)] 23 (0, 0)) ∧ w'.heap[bs + 1]? = some (.cells #[.slice al low.length cl] 30 (0, 0)) ∧ w'.heap[bs + 2]? = some (.cells #[.slice ah high.length ch] 30 (0, 0)) ∧ w'.heap[bs + 3]? = some (.cells #[.int .i64 (placeV sz low)] 3 (0, 0)) ∧ Nw w w' := by
  have hp1 := Lib.hid (fun (W : World) (hn : Nw w W) => placeP F W b sz cs low al cl hwf (h.nw hn) (r1.nw hn))
  have hp2 := Lib.hid (fun (W : World) (hn : Nw w W) => placeP F W b sz cs high ah ch hwf (h.nw hn) (r2.nw hn))
  have e1 : isCell sz low = true := by simp [mayB] at hm; exact hm.1.1
  have e2 : isCell sz high = true := by simp [mayB] at hm; exact hm.1.2
  · · have E1 : placeE sz low = 0 := by simp [placeE, e1]
      have E2 : placeE sz high = 0 := by simp [placeE, e2]
      have l1 : low.length = sz.length := by simp [isCell] at e1; exact e1.1
      have l2 : high.length = sz.length := by simp [isCell] at e2; exact e2.1
      have hle : leB low high low.length = true := by simpa [mayB, e1, e2] using hm
      have h6 := hwf.hi
      have h1 := hwf.lo
      obtain ⟨b1, o1, rfl, r1'⟩ := IR_some r1 (by omega)
      obtain ⟨b2, o2, rfl, r2'⟩ := IR_some r2 (by omega)
      obtain ⟨l, hl'⟩ : ∃ l, l = low.length := ⟨_, rfl⟩
      rw [show high.length = low.length by omega] at r2' hp2 ⊢
      rw [← hl'] at r1' r2' hp1 hp2 hle ⊢
      have h7 : l ≤ 6 := by omega
      obtain ⟨p1, hq1⟩ : ∃ p, p = placeV sz low := ⟨_, rfl⟩
      obtain ⟨p2, hq2⟩ : ∃ p, p = placeV sz high := ⟨_, rfl⟩
      rw [E1, ← hq1] at hp1; rw [E2, ← hq2] at hp2
      have R1 := Lib.hid r1'; have R2 := Lib.hid r2'; have HL := Lib.hid hle; clear r1' r2' r1 r2 l1 l2 hl' h e1 e2 E1 E2 hm hwf h6 h1 hq2 hle
      have HQ1 := Lib.hid hq1; clear hq1; skip
      have b1w : ∀ k, k < l → b1 < w.heap.size := fun k hk => World.block_lt_of_cell? w _ (R1.out k hk)
      have b2w : ∀ k, k < l → b2 < w.heap.size := fun k hk => World.block_lt_of_cell? w _ (R2.out k hk)
      have B1 := Lib.hid b1w; have B2 := Lib.hid b2w; clear b1w b2w
      go_enter Try.func51, Try.ntmps51
      go_wp2_with fail
      refine (hp1.out _ (by repeat (first | exact Below.refl _ _ | refine Below.alloc ?_ (by simp; try omega) _ | refine Below.setCell ?_ (by simp; try omega) _))).mono ?_; rintro e w' ⟨rfl, rfl⟩
      go_wp2_with fail
      refine (hp2.out _ (by repeat (first | exact Below.refl _ _ | refine Below.alloc ?_ (by simp; try omega) _ | refine Below.setCell ?_ (by simp; try omega) _))).mono ?_; rintro e w' ⟨rfl, rfl⟩
      go_wp2
      go_loopw [33] (fun i wr => ∃ k : Nat, k ≤ l ∧ i = .int .i64 (k : Int) ∧ Hid (leB low high k = true) ∧ Hid (wr.heap[w.heap.size + 1]? = some (.cells #[.slice (some ⟨b1, o1, none⟩) l cl] 30 (0, 0))) ∧ Hid (wr.heap[w.heap.size + 2]? = some (.cells #[.slice (some ⟨b2, o2, none⟩) l ch] 30 (0, 0))) ∧
        Hid (wr.heap[w.heap.size]? = some (.cells #[.pointer (some ⟨b, 0, none⟩)] 23 (0, 0))) ∧ Hid (wr.heap[w.heap.size + 3]? = some (.cells #[.int .i64 p1] 3 (0, 0))) ∧ Hid (Nw w wr)) (fun i _ => l - (intOf i).toNat)
      case atStart =>
        refine ⟨0, Nat.zero_le _, rfl, rfl, ?_, ?_, ?_, ?_, ?_⟩
        all_goals first | (show _ = _; simp only [heap_alloc_if, World.size_alloc]; repeat (first | rw [if_pos trivial] | rw [if_pos (by omega)] | rw [if_neg (by omega)])) | (show Nw _ _; repeat (first | exact Below.refl _ _ | refine Below.alloc ?_ (by simp; try omega) _ | refine Below.setCell ?_ (by simp; try omega) _))
      case round =>
        obtain ⟨k, hk, rfl, HO, C1, C2, C3, C4, N⟩ := hrel
        by_cases hlt : k < l
        · have g1 := nw_cell N.out (R1.out k hlt)
          have g2 := nw_cell N.out (R2.out k hlt)
          have c1 : wr.cell? ⟨w.heap.size + 1, 0, none⟩ = some (.slice (some ⟨b1, o1, none⟩) l cl) := blk_cell C1.out 0
          have c2 : wr.cell? ⟨w.heap.size + 2, 0, none⟩ = some (.slice (some ⟨b2, o2, none⟩) l ch) := blk_cell C2.out 0
          by_cases q0 : rd high k < rd low k
          · exfalso
            have := leB_at.1 HL.out k hlt
            omega
          · have q1 : decide (rd low k > rd high k) = false := by simp; omega
            have hok1 : leB low high (k + 1) = true := by simp [leB, HO.out]; omega
            have HO1 := Lib.hid hok1; clear hok1
            go_wp2
            go_quiet (fail)
            go_wp2
            go_roundw
            case rel => exact ⟨k + 1, by omega, by go_num, HO1, C1.out, C2.out, C3.out, C4.out, nw_trans N.out (nw_drewN _ _)⟩
            case measure => simp [intOf]; try omega
        · obtain rfl : k = l := by omega
          go_wp2
          go_ret2
          exact ⟨w.heap.size, rfl, Nat.le_refl _, C3.out, C1.out, C2.out, by rw [← HQ1.out]; exact C4.out, N.out⟩
end Go.Proofs.Ytbofjdckmkifaaa

/-! ## The walk of the slab's Fill. Conditions: the slab is one that may be; the two cells lie outside it. -/
namespace Go.Proofs.Ytbofjdckmkifaaa
open Go.RowKit Go.Shelf
attribute [local go_sem] Oper.semAt_some

set_option maxRecDepth 100000 in
set_option maxHeartbeats 2000000 in
theorem fillP_nil (w : World) (al ah : Option Addr) (nl cl nh ch : Nat) (n : Int) :
    Calls Try.prog 21 #[.pointer none, .slice al nl cl, .slice ah nh ch, .int .i64 n] w fun e w' => e = .returned (.int .i64 1) ∧ Nw w w' := by
  refine rf_calls 3 Try.func21 rfl ?_
  simp only [Try.ntmps21, List.size_toArray, List.length_cons, List.length_nil, Nat.reduceAdd, Nat.reduceSub, Array.replicate_succ, Array.replicate_zero, List.push_toArray, List.append_toArray, List.nil_append, List.cons_append]
  go_wp2_with fail
  refine (placesP_nil _ _ _ _ _ _ _).mono ?_; rintro e w1 ⟨rfl, hn⟩
  have HN := Lib.hid hn; clear hn
  go_wp2
  refine rf_leave0 rfl (results_tmp rfl _ _ _) ⟨rfl, ?_⟩
  exact nw_trans (nw_trans (nw_alloc _ _) (nw_alloc _ _)) HN.out

set_option maxRecDepth 100000 in
set_option maxHeartbeats 2000000 in
theorem fillP_no (F : Nat → Prop) (w : World) (b : Nat) (sz cs low high : List Int) (al ah : Option Addr) (cl ch : Nat) (n : Int) (hwf : Wf sz cs) (h : Two 77 F w b sz cs) (r1 : IR .i64 w al low) (r2 : IR .i64 w ah high) (hm : mayB sz low high = false) :
    Calls Try.prog 21 #[.pointer (some ⟨b, 0, none⟩), .slice al low.length cl, .slice ah high.length ch, .int .i64 n] w fun e w' => e = .returned (.int .i64 1) ∧ Nw w w' := by
  have hp := Lib.hid (fun (W : World) (hn : Nw w W) => placesP_no F W b sz cs low high al ah cl ch hwf (h.nw hn) (r1.nw hn) (r2.nw hn) hm)
  clear hwf h r1 r2 hm
  refine rf_calls 3 Try.func21 rfl ?_
  simp only [Try.ntmps21, List.size_toArray, List.length_cons, List.length_nil, Nat.reduceAdd, Nat.reduceSub, Array.replicate_succ, Array.replicate_zero, List.push_toArray, List.append_toArray, List.nil_append, List.cons_append]
  go_wp2_with fail
  refine (hp.out _ (nw_trans (nw_alloc _ _) (nw_alloc _ _))).mono ?_; rintro e w1 ⟨rfl, hn⟩
  have HN := Lib.hid hn; clear hn
  go_wp2
  refine rf_leave0 rfl (results_tmp rfl _ _ _) ⟨rfl, ?_⟩
  exact nw_trans (nw_trans (nw_alloc _ _) (nw_alloc _ _)) HN.out

/-- what stands between two rounds of Fill -/
structure FJ (b : Nat) (sz cs : List Int) (n : Int) (vs : Value) (g cc l D B0 : Nat) (w1 : World) (lp : Loop) (m : Nat) (pre : List Nat) (W : World) : Prop where
  tv : TwoV 77 W b sz (fillBy cs n pre) vs (.slice (some ⟨g, 0, none⟩) cs.length cc)
  kp : Kp (fun k => k = g ∨ w1.heap.size ≤ k) w1 W
  rl : W.heap[l]? = some (.loop lp)
  rD : W.heap[D]? = some (.deferred (some []))
  hm : B0 ≤ m
theorem TwoV.putObj {T : TypeId} {w : World} {b : Nat} {xs ys : List Int} {vs vc : Value} (h : TwoV T w b xs ys vs vc) {l : Nat} {o : Obj} (ho : w.heap[l]? = some o) (hc : o.isCells = false) (o' : Obj) : TwoV T (w.putObj l o') b xs ys vs vc := by
  have hb : ¬ b = l := fun e => by subst e; rw [h.1] at ho; cases ho; cases hc
  have h1 : ∀ (v : Value) (n : Nat) (zs : List Value), w.ownsRow 0 3 1 v n zs → ∀ k, v.ownBlock = some k → ¬ k = l := by
    intro v n zs hv k hk e
    subst e
    rcases hv.2 with ⟨rfl, _⟩ | ⟨g, cap, cur, rfl, _, hg, _⟩
    · cases hk
    · have : g = k := by injection hk
      subst this; rw [hg] at ho; cases ho; cases hc
  exact h.kp (kp_putObj w l o') hb (h1 _ _ _ h.2.1) (h1 _ _ _ h.2.2.1)

set_option maxRecDepth 100000 in
set_option maxHeartbeats 2000000 in
theorem fillP_yes (F : Nat → Prop) (w : World) (b : Nat) (sz cs low high : List Int) (al ah : Option Addr) (cl ch : Nat) (n : Int) (hwf : Wf sz cs) (h : Two 77 F w b sz cs) (r1 : IR .i64 w al low) (r2 : IR .i64 w ah high)
    (d1 : ∀ d, al = some d → ¬ F d.block) (d2 : ∀ d, ah = some d → ¬ F d.block) (hm : mayB sz low high = true) :
    Calls Try.prog 21 #[.pointer (some ⟨b, 0, none⟩), .slice al low.length cl, .slice ah high.length ch, .int .i64 n] w fun e w' => e = .returned (.int .i64 0) ∧ Two 77 F w' b sz (fillL sz cs low high n) ∧ Kp F w w' := by
  have hp := Lib.hid (fun (W : World) (hn : Nw w W) => placesP_yes F W b sz cs low high al ah cl ch hwf (h.nw hn) (r1.nw hn) (r2.nw hn) hm)
  obtain ⟨vs, vc, ht, hFb, hFs, hFc⟩ := h
  obtain ⟨ac, cc, rfl, hcc, hcm, hcr, hcb⟩ := own_IR ht.2.2.1
  obtain ⟨g, og, rfl, -⟩ := IR_some hcr (by have := hwf.pos'; omega)
  obtain ⟨-, hg0, -, -, hgl⟩ := hcb _ rfl
  simp only at hg0 hgl
  subst hg0
  have hgF : F g := hFc g rfl
  have hT := Lib.hid ht; have HWF := Lib.hid hwf; have R1 := Lib.hid r1; have R2 := Lib.hid r2; have HM := Lib.hid hm; have HGF := Lib.hid hgF; have HFB := Lib.hid hFb; have HFS := Lib.hid hFs; have HFC := Lib.hid hFc; have D1 := Lib.hid d1; have D2 := Lib.hid d2
  clear ht hwf r1 r2 hm hgF hFb hFs hFc d1 d2 hcr hcb
  refine rf_calls 3 Try.func21 rfl ?_
  simp only [Try.ntmps21, List.size_toArray, List.length_cons, List.length_nil, Nat.reduceAdd, Nat.reduceSub, Array.replicate_succ, Array.replicate_zero, List.push_toArray, List.append_toArray, List.nil_append, List.cons_append]
  go_wp2_with fail
  refine (hp.out _ (nw_trans (nw_alloc _ _) (nw_alloc _ _))).mono ?_; rintro e w1 ⟨bs, rfl, hbs, h1, h2, h3, h4, hn⟩
  simp at hbs
  have hn' := nw_trans (nw_trans (nw_alloc w (.cells #[.pointer (some ⟨b, 0, none⟩)] 23)) (nw_alloc _ (.cells #[.int .i64 n] 3))) hn
  have k1 : w1.heap[w.heap.size]? = some (.cells #[.pointer (some ⟨b, 0, none⟩)] 23 (0, 0)) := nw_blk hn (by simp only [heap_alloc_if, World.size_alloc]; repeat (first | rw [if_pos trivial] | rw [if_pos (by omega)] | rw [if_neg (by omega)]))
  have k2 : w1.heap[w.heap.size + 1]? = some (.cells #[.int .i64 n] 3 (0, 0)) := nw_blk hn (by simp only [heap_alloc_if, World.size_alloc]; repeat (first | rw [if_pos trivial] | rw [if_pos (by omega)] | rw [if_neg (by omega)]))
  have H1 := Lib.hid h1; have H2 := Lib.hid h2; have H3 := Lib.hid h3; have H4 := Lib.hid h4; have HN := Lib.hid hn'; have K1 := Lib.hid k1; have K2 := Lib.hid k2
  clear h1 h2 h3 h4 hn hn' k1 k2 hp
  obtain ⟨p0, hp0, hp0N, hc0, hh0, hhits0⟩ := first_hit HWF.out HM.out
  have hpv : placeV sz low = (p0 : Int) := by
    have := may_facts HM.out
    rw [← hp0, placeV, if_pos (by have h := HM.out; simp [mayB] at h; exact h.1.1), this.1]
  rw [hpv] at H4
  have HP0 := Lib.hid hp0
  clear hp0 hp0N hc0 hh0 hhits0 hpv
  go_wp2
  refine (wpIn_wide (n := 3)).1 (rf_enter (gf := 73) rfl (enters_of Try.func73 (by kernel_rfl) rfl) ?_)
  intro fn W1 hn1 hs1 hl hD
  obtain ⟨lp, hlp⟩ : ∃ lp, W1.heap[w1.heap.size + 1]? = some (.loop lp) := ⟨_, hl⟩
  have elp := Obj.loop.inj (Option.some.inj (hlp.symm.trans hl))
  have ELP := Lib.hid elp; clear elp hl
  have hl := hlp; clear hlp
  have hs0 := HN.out.size
  have hbl := blk_lt hT.out.1
  have hbsl := blk_lt H1.out
  have hbsl3 := blk_lt H4.out
  have hbsl1 := blk_lt H2.out
  have hbsl2 := blk_lt H3.out
  have hgl1 : g < w.heap.size := hgl
  have T1 := (hT.out.nw HN.out).nw hn1
  have HT1 := Lib.hid T1; have HL := Lib.hid hl; have HD := Lib.hid hD; have HN1 := Lib.hid hn1
  clear T1 hl hD hn1
  have env : ∀ A cs', TwoV 77 A b sz cs' vs (.slice (some ⟨g, 0, none⟩) cs.length cc) → cs'.length = cs.length → Kp (fun k => k = g ∨ w1.heap.size ≤ k) w1 A → PEnv F sz low high cs.length al ah cl ch (bs + 1) (bs + 2) bs b A := by
    intro A cs' tv hcl kp
    refine ⟨kp.blk H2.out (by omega), kp.blk H3.out (by omega), kp.blk H1.out (by omega), ?_, ?_, cs', ⟨_, _, tv, HFB.out, HFS.out, fun k hk => HFC.out k hk⟩, ?_, hcl⟩
    · refine (R1.out.nw HN.out).kp kp (fun d hd => ?_)
      intro e
      by_cases h0 : 0 < low.length
      · have := R1.out.lt h0 hd
        rcases e with e | e
        · exact D1.out d hd (e ▸ HGF.out)
        · omega
      · have := (may_facts HM.out).1; have := HWF.out.lo; omega
    · refine (R2.out.nw HN.out).kp kp (fun d hd => ?_)
      intro e
      by_cases h0 : 0 < high.length
      · have := R2.out.lt h0 hd
        rcases e with e | e
        · exact D2.out d hd (e ▸ HGF.out)
        · omega
      · have := (may_facts HM.out).2.1; have := HWF.out.lo; omega
    · have w0 := HWF.out
      exact ⟨w0.lo, w0.hi, w0.pos, by rw [hcl]; exact w0.len, by rw [hcl]; exact w0.most⟩
  have ENV := Lib.hid env; clear env
  refine callsIn_wide.2 ((placesIt 1 F sz low high cs.length al ah cl ch (bs + 1) (bs + 3) (bs + 2) bs b (w1.heap.size + 1) p0 HM.out HP0.out
    (FJ b sz cs n vs g cc (w1.heap.size + 1) w1.heap.size W1.heap.size w1 lp) (fun m pre A hJ => ENV.out A _ hJ.tv (by simp) hJ.kp) ?hab W1 ?hE ?hbf ?h0 ?hy).mono ?hfin)
  case hab =>
    intro m pre A B hJ hk
    have h1 := hJ.hm
    have h2 := blk_lt hJ.rl
    refine ⟨hJ.tv.kp hk (by omega) (fun k hk' e => ?_) (fun k hk' e => ?_), hJ.kp.trans hk (fun b' hb' _ => .inr (by omega)), hk.blk hJ.rl (by omega), hk.blk hJ.rD (by omega), h1⟩
    · have := own_lt hT.out.2.1 hk'; omega
    · have e1 : g = k := by injection hk'
      omega
  case hE => exact ENV.out W1 cs HT1.out rfl (kp_of_nw HN1.out _)
  case hbf => exact nw_blk HN1.out H4.out
  case h0 =>
    intro m W' hn hm1 hm2
    exact ⟨by rw [fillBy_nil]; exact HT1.out.nw hn, kp_of_nw (nw_trans HN1.out hn) _, nw_blk hn HL.out, nw_blk hn HD.out, hm1⟩
  case hfin =>
    rintro e W2 ⟨⟨v, rfl⟩, m, hJ⟩
    have hl2 := hJ.rl
    rw [ELP.out] at hl2
    have tv := hJ.tv
    rw [fillBy_hits] at tv
    have rl := hJ.rl
    have kp := hJ.kp
    have hdl : w1.heap.size ≠ w1.heap.size + 1 := by omega
    have rD := hJ.rD
    refine rf_done hl2 (fun o' => ?_)
    have tv3 := tv.putObj rl rfl o'
    have rD3 : (W2.putObj (w1.heap.size + 1) o').heap[w1.heap.size]? = some (.deferred (some [])) := (World.putObj_heap_other hdl).trans rD
    have kp3 := kp.trans (kp_putObj W2 (w1.heap.size + 1) o') (fun k hk _ => .inr (by omega))
    generalize W2.putObj (w1.heap.size + 1) o' = W3 at tv3 rD3 kp3 ⊢
    have TV3 := Lib.hid tv3; have RD3 := Lib.hid rD3; have KP3 := Lib.hid kp3
    clear tv3 rD3 kp3 tv rl kp hdl rD hl2 hJ
    go_wp2
    refine rf_leave rfl RD3.out (results_tmp rfl _ _ _) ⟨rfl, ⟨_, _, TV3.out.putObj RD3.out rfl _, HFB.out, HFS.out, fun k hk => HFC.out k hk⟩, ?_⟩
    have k4 := KP3.out.trans (kp_putObj W3 w1.heap.size (.deferred none)) (fun k hk _ => .inr (by omega))
    exact ((kp_of_nw HN.out F).trans k4 (fun k hk hlt => by rcases hk with hk | hk; exact hk ▸ HGF.out; omega))
  case hy =>
    intro m p A hm1 hJ hmA hpN hph
    have hm2 : w1.heap.size + 2 ≤ m := by omega
    have HS1 := Lib.hid hs1; have HMA := Lib.hid hmA
    clear hs1 hmA
    have rl := hJ.rl
    rw [ELP.out] at rl
    have hpl : p < (fillBy cs n (hits sz low high p)).length := by simpa using hpN
    have hold := own_cell hJ.tv.2.2.1 (j := p) hpl
    have hfro := own_frozen hJ.tv.2.2.1 p
    have q0 : A.cell? ⟨w.heap.size, 0, none⟩ = some (.pointer (some ⟨b, 0, none⟩)) := blk_cell (hJ.kp.blk K1.out (by omega)) 0
    have q1 : A.cell? ⟨w.heap.size + 1, 0, none⟩ = some (.int .i64 n) := blk_cell (hJ.kp.blk K2.out (by omega)) 0
    have q2 := hJ.tv.c1
    have ELP' := ELP
    refine rf_round rl rfl ?_
    gi_wp2
    refine ⟨rfl, fun o ho => ?_⟩
    have hkA := kp_putObj A (w1.heap.size + 1) o
    have hlt := blk_lt hJ.rl
    have tvo := hJ.tv.putObj hJ.rl rfl o
    have hlo : (A.putObj (w1.heap.size + 1) o).heap[w1.heap.size + 1]? = some o := World.putObj_heap_same hlt
    have hDo : (A.putObj (w1.heap.size + 1) o).heap[w1.heap.size]? = some (.deferred (some [])) := (World.putObj_heap_other (by omega)).trans hJ.rD
    have hkp := hJ.kp
    have hmm : m ≠ w1.heap.size + 1 := by omega
    have hmg : m ≠ g := by omega
    have hm3 := hJ.hm
    generalize A.putObj (w1.heap.size + 1) o = A1 at hkA tvo hlo hDo ⊢
    have c0 := hkA.cell q0 (by show ¬ (w.heap.size = w1.heap.size + 1); omega)
    have c1 := hkA.cell q1 (by show ¬ (w.heap.size + 1 = w1.heap.size + 1); omega)
    have c2 := tvo.c1
    have c3 := own_cell tvo.2.2.1 (j := p) hpl
    have c4 := own_frozen tvo.2.2.1 p
    have TVO := Lib.hid tvo; have HLO := Lib.hid hlo; have HDO := Lib.hid hDo; have HKP := Lib.hid hkp; have HKA := Lib.hid hkA; have HO := Lib.hid ho; have RL := Lib.hid rl; have PH := Lib.hid hph
    have fin : ∀ W3, W3 = (A1.setCell ⟨g, p, none⟩ (.int .i64 n)).drew → W3.heap[w1.heap.size + 1]? = some o ∧ ∀ o', o' = Obj.loop lp →
        (Ending.returned (Value.bool true) = .returned (.bool true) ∧ FJ b sz cs n vs g cc (w1.heap.size + 1) w1.heap.size W1.heap.size w1 lp m (hits sz low high (p + 1)) (W3.putObj (w1.heap.size + 1) o') ∧ (W3.putObj (w1.heap.size + 1) o').heap[m]? = A.heap[m]?) := by
      intro W3 hW3
      have k13 : Kp (fun k => k = g) A1 W3 := by rw [hW3]; exact (Kp.setCell (S := fun k => k = g) (Kp.refl _ A1) (p := ⟨g, p, none⟩) (fun _ => rfl) _).drew
      have tv3 : TwoV 77 W3 b sz (fillBy cs n (hits sz low high (p + 1))) vs (.slice (some ⟨g, 0, none⟩) cs.length cc) := by
        have h2 := TVO.out.set1 (by decide) (by simp) p n
        rw [fillBy_snoc cs n _ p hpN, ← hits_hit PH.out] at h2
        rw [hW3]; exact h2
      have hl3 := k13.blk HLO.out (show ¬ w1.heap.size + 1 = g by omega)
      refine ⟨hl3, fun o' ho' => ⟨rfl, ⟨tv3.putObj hl3 (by rw [HO.out]; rfl) o', ?_, ?_, ?_, hm3⟩, ?_⟩⟩
      · exact ((HKP.out.trans HKA.out (fun k hk _ => .inr (by omega))).trans k13 (fun k hk _ => .inl hk)).trans (kp_putObj W3 _ o') (fun k hk _ => .inr (by omega))
      · rw [ho']; exact World.putObj_heap_same (blk_lt hl3)
      · exact (World.putObj_heap_other (by omega)).trans (k13.blk HDO.out (show ¬ w1.heap.size = g by omega))
      · exact (World.putObj_heap_other hmm).trans ((k13.block m (by have := HKA.out.size; have := HMA.out; omega) hmg).trans (HKA.out.block m HMA.out hmm))
    have FIN := Lib.hid fin
    clear fin tvo hlo hDo hkp hkA hold hfro q0 q1 q2 rl ho hJ hph
    gi_wp2
    gi_region
    all_goals gi_wp2
    all_goals
      have hfin := FIN.out _ rfl
      exact ⟨by rw [← HO.out]; exact hfin.1, rfl, (hfin.2 _ (by rw [ELP.out])).2⟩
end Go.Proofs.Ytbofjdckmkifaaa

/-! ## The walk of the slab's Grow, where it does not grow. Conditions: the slab is one that may be. -/
namespace Go.Proofs.Ytbofjdckmkifaaa
open Go.RowKit Go.Shelf

set_option maxRecDepth 100000 in
set_option maxHeartbeats 1000000 in
theorem growP_bad (F : Nat → Prop) (w : World) (b : Nat) (sz cs : List Int) (at_ i : Int) (hwf : Wf sz cs) (h : Two 77 F w b sz cs) (hb : growBad sz at_ i = true) :
    Calls Try.prog 17 #[.pointer (some ⟨b, 0, none⟩), .int .i64 at_, .int .i64 i] w fun e w' => e = .returned (.int .i64 1) ∧ Nw w w' := by
  obtain ⟨vs, vc, ht, -⟩ := h
  obtain ⟨az, zc, rfl, hzc, hzm, hz, -⟩ := own_IR ht.2.1
  obtain ⟨bz, oz, rfl, hz'⟩ := IR_some hz (by have := hwf.lo; omega)
  have h6 := hwf.hi
  have p0 := ht.c0
  clear ht hz
  have HZ := Lib.hid hz'; clear hz'
  have p1 := nw_cell (nw_alloc w (.cells #[.int .i64 i] 3)) p0
  simp only [growBad, Bool.or_eq_true, decide_eq_true_eq] at hb
  by_cases q0 : at_ < 0
  · have q1 : decide (at_ < 0) = true := by simp; omega
    clear hb
    refine rf_calls 3 Try.func17 rfl ?_
    simp only [Try.ntmps17, List.size_toArray, List.length_cons, List.length_nil, Nat.reduceAdd, Nat.reduceSub, Array.replicate_succ, Array.replicate_zero, List.push_toArray, List.append_toArray, List.nil_append, List.cons_append]
    go_wp2
    go_quiet (fail)
    go_wp2
    exact rf_leave0 rfl (results_tmp rfl _ _ _) ⟨rfl, nw_trans (nw_alloc _ _) (nw_drewN _ _)⟩
  have q1 : decide (at_ < 0) = false := by simp; omega
  obtain ⟨a, rfl⟩ := Int.eq_ofNat_of_zero_le (show 0 ≤ at_ by omega)
  by_cases q2 : sz.length ≤ a
  · have q3 : decide ((a : Int) ≥ (sz.length : Int)) = true := by simp; omega
    have q3' : decide (sz.length ≤ a) = true := by simp; omega
    clear hb
    refine rf_calls 3 Try.func17 rfl ?_
    simp only [Try.ntmps17, List.size_toArray, List.length_cons, List.length_nil, Nat.reduceAdd, Nat.reduceSub, Array.replicate_succ, Array.replicate_zero, List.push_toArray, List.append_toArray, List.nil_append, List.cons_append]
    go_wp2
    go_quiet (fail)
    go_wp2
    exact rf_leave0 rfl (results_tmp rfl _ _ _) ⟨rfl, nw_trans (nw_alloc _ _) (nw_drewN _ _)⟩
  have q3 : decide ((a : Int) ≥ (sz.length : Int)) = false := by simp; omega
  have q3' : decide (sz.length ≤ a) = false := by simp; omega
  by_cases q4 : i < 0
  · have q5 : decide (i < 0) = true := by simp; omega
    clear hb
    refine rf_calls 3 Try.func17 rfl ?_
    simp only [Try.ntmps17, List.size_toArray, List.length_cons, List.length_nil, Nat.reduceAdd, Nat.reduceSub, Array.replicate_succ, Array.replicate_zero, List.push_toArray, List.append_toArray, List.nil_append, List.cons_append]
    go_wp2
    go_quiet (fail)
    go_wp2
    exact rf_leave0 rfl (results_tmp rfl _ _ _) ⟨rfl, nw_trans (nw_alloc _ _) (nw_drewN _ _)⟩
  have q5 : decide (i < 0) = false := by simp; omega
  have q6 : decide (i ≥ rd sz a) = true := by simp at hb ⊢; omega
  have g := HZ.out a (by omega)
  have g1 := nw_cell (nw_alloc w (.cells #[.int .i64 i] 3)) g
  clear hb
  refine rf_calls 3 Try.func17 rfl ?_
  simp only [Try.ntmps17, List.size_toArray, List.length_cons, List.length_nil, Nat.reduceAdd, Nat.reduceSub, Array.replicate_succ, Array.replicate_zero, List.push_toArray, List.append_toArray, List.nil_append, List.cons_append]
  go_wp2
  go_quiet (fail)
  go_wp2
  exact rf_leave0 rfl (results_tmp rfl _ _ _) ⟨rfl, nw_trans (nw_alloc _ _) (nw_drewN _ _)⟩

end Go.Proofs.Ytbofjdckmkifaaa

/-! ## The walk of the slab's Grow. Conditions: the slab is one that may be. -/
namespace Go.Proofs.Ytbofjdckmkifaaa
open Go.RowKit Go.Shelf

set_option maxRecDepth 100000 in
set_option maxHeartbeats 1000000 in
theorem growP_lim (F : Nat → Prop) (w : World) (b : Nat) (sz cs : List Int) (a : Nat) (i : Int) (hwf : Wf sz cs) (h : Two 77 F w b sz cs) (hb : growBad sz a i = false) (hN : 4096 < (growN sz cs a : Int)) :
    Calls Try.prog 17 #[.pointer (some ⟨b, 0, none⟩), .int .i64 (a : Int), .int .i64 i] w fun e w' => e = .returned (.int .i64 4) ∧ Nw w w' := by
  obtain ⟨vs, vc, ht, -⟩ := h
  obtain ⟨az, zc, rfl, hzc, hzm, hz, -⟩ := own_IR ht.2.1
  obtain ⟨bz, oz, rfl, hz'⟩ := IR_some hz (by have := hwf.lo; omega)
  obtain ⟨ac, cc, rfl, hcc, hcm, -, -⟩ := own_IR ht.2.2.1
  have h6 := hwf.hi; have hmost := hwf.most
  have p0 := nw_cell (nw_alloc w (.cells #[.int .i64 i] 3)) ht.c0
  have p1 := nw_cell (nw_alloc w (.cells #[.int .i64 i] 3)) ht.c1
  clear ht hz
  simp only [growBad, Bool.or_eq_false_iff, decide_eq_false_iff_not, Int.toNat_natCast] at hb
  have ha : a < sz.length := by omega
  have g := nw_cell (nw_alloc w (.cells #[.int .i64 i] 3)) (hz' a ha)
  have gs := hwf.size_le ha
  have gN := grow_sum hwf ha
  have gq := (grow_pr hwf ha).2
  have gq1 : (cs.length : Int) / rd sz a ≤ cs.length := Int.ediv_le_self _ (by omega)
  have q1 : decide ((a : Int) < 0) = false := by simp
  have q3 : decide ((a : Int) ≥ (sz.length : Int)) = false := by simp; omega
  have q3' : decide (sz.length ≤ a) = false := by simp; omega
  have q5 : decide (i < 0) = false := by simp; omega
  have q6 : decide (i ≥ rd sz a) = false := by simp; omega
  rw [gN] at hN
  have q7 : decide ((cs.length : Int) + (cs.length : Int) / rd sz a > 4096) = true := by simp; omega
  have hwr : IntKind.i64.wrap ((cs.length : Int) + (cs.length : Int) / rd sz a) = (cs.length : Int) + (cs.length : Int) / rd sz a := IntWalk.i64_in _ (by omega)
  clear hz' hb gN hwf
  refine rf_calls 3 Try.func17 rfl ?_
  simp only [Try.ntmps17, List.size_toArray, List.length_cons, List.length_nil, Nat.reduceAdd, Nat.reduceSub, Array.replicate_succ, Array.replicate_zero, List.push_toArray, List.append_toArray, List.nil_append, List.cons_append]
  go_wp2
  go_quiet (fail)
  go_wp2
  go_quiet (fail)
  go_wp2
  exact rf_leave0 rfl (results_tmp rfl _ _ _) ⟨rfl, nw_trans (nw_alloc _ _) (by first | exact nw_drewN _ _ | (rw [World.drewN_drewN]; exact nw_drewN _ _) | exact nw_trans (nw_drewN _ _) (nw_drewN _ _))⟩
end Go.Proofs.Ytbofjdckmkifaaa

/-! ## The walk of the slab's Grow, where it grows. Conditions: the slab is one that may be. -/
namespace Go.Proofs.Ytbofjdckmkifaaa
open Go.RowKit Go.Shelf
attribute [local go_sem] Oper.semAt_some

/-- what stands between two rounds of Grow, of Shrink: X has been gathered in the box b9 -/
structure GJ (b : Nat) (sz cs : List Int) (vs vc : Value) (b9 l D : Nat) (w1 : World) (lp : Loop) (X : List Int) (W : World) : Prop where
  tv : TwoV 77 W b sz cs vs vc
  kp : Kp (fun k => k = b9 ∨ w1.heap.size ≤ k) w1 W
  rl : W.heap[l]? = some (.loop lp)
  rD : W.heap[D]? = some (.deferred (some []))
  bx : ∃ a c, W.heap[b9]? = some (.cells #[.slice a X.length c] 30 (0, 0)) ∧ W.ownsRow 0 3 1 (.slice a X.length c) X.length (iv .i64 X) ∧ (∀ d, a = some d → w1.heap.size ≤ d.block ∧ d.block ≠ l ∧ d.block ≠ D)
theorem own_none {w : World} {base n c m : Nat} {e : TypeId} {xs : List Value} (h : w.ownsRow base e 1 (.slice none n c) m xs) : c = 0 := by
  rcases h.2 with ⟨hv, _⟩ | ⟨g, cap, cur, hv, _⟩
  · cases hv; rfl
  · cases hv
theorem own_putObj {w : World} {base n : Nat} {e : TypeId} {v : Value} {xs : List Value} (h : w.ownsRow base e 1 v n xs) {l : Nat} {o : Obj} (ho : w.heap[l]? = some o) (hc : o.isCells = false) (o' : Obj) : (w.putObj l o').ownsRow base e 1 v n xs :=
  (kp_putObj w l o').own h (fun k hk e => by
    subst e
    rcases h.2 with ⟨rfl, _⟩ | ⟨g, cap, cur, rfl, _, hg, _⟩
    · cases hk
    · have : g = k := by injection hk
      subst this; rw [hg] at ho; cases ho; cases hc)

set_option maxRecDepth 100000 in
set_option maxHeartbeats 2000000 in
theorem growP_ok (F : Nat → Prop) (w : World) (b : Nat) (sz cs : List Int) (a i : Nat) (hwf : Wf sz cs) (h : Two 77 F w b sz cs) (hb : growBad sz a i = false) (hN : (growN sz cs a : Int) ≤ 4096) :
    Calls Try.prog 17 #[.pointer (some ⟨b, 0, none⟩), .int .i64 (a : Int), .int .i64 (i : Int)] w fun e w' => e = .returned (.int .i64 0) ∧
      Two 77 (fun k => F k ∨ w.heap.size ≤ k) w' b (growS sz a) (growC sz cs a i) ∧ Kp F w w' := by
  have hrw := Lib.hid (fun (W : World) (hn : Nw w W) (ha : a < sz.length) => rowsP F W b sz cs a hwf (h.nw hn) ha)
  obtain ⟨vs, vc, ht, hFb, hFs, hFc⟩ := h
  obtain ⟨az, zc, rfl, hzc, hzm, hz, hzb⟩ := own_IR ht.2.1
  obtain ⟨bz, oz, rfl, hz'⟩ := IR_some hz (by have := hwf.lo; omega)
  obtain ⟨ac, cc, rfl, hcc, hcm, hcr, hcb⟩ := own_IR ht.2.2.1
  obtain ⟨g, og, rfl, hcr'⟩ := IR_some hcr (by have := hwf.pos'; omega)
  obtain ⟨-, hg0, -, -, hgl⟩ := hcb _ rfl
  obtain ⟨-, hz0, -, -, hzl⟩ := hzb _ rfl
  simp only at hg0 hgl hz0 hzl
  subst hg0; subst hz0
  simp only [Nat.zero_add] at hz'
  have h6 := hwf.hi; have hmost := hwf.most
  simp only [growBad, Bool.or_eq_false_iff, decide_eq_false_iff_not, Int.toNat_natCast] at hb
  have ha : a < sz.length := by omega
  have hi : (i : Int) < rd sz a := by omega
  obtain ⟨one, s, rows, r3⟩ := rows3 hwf ha
  have his : i + 1 ≤ s := by have := r3.s_; omega
  have nb := nw_alloc w (.cells #[.int .i64 (i : Int)] 3)
  have p0 := nw_cell nb ht.c0
  have p1 := nw_cell nb ht.c1
  have g0 := nw_cell nb (hz' a ha)
  have gN := grow_sum hwf ha
  have gq := (grow_pr hwf ha).2
  have gq1 : (cs.length : Int) / rd sz a ≤ cs.length := Int.ediv_le_self _ (by omega)
  have hsuf4 := suf_le hwf a (by omega)
  rw [suf_step sz ha] at hsuf4
  rw [r3.one_, r3.s_] at hsuf4
  have hone4 := suf_le hwf (a + 1) (by omega)
  rw [r3.one_] at hone4
  have hall4 : one * s ≤ 4096 := by have : ((one * s : Nat) : Int) = (s : Int) * one := by rw [Int.natCast_mul, Int.mul_comm]
                                    omega
  have q1 : decide ((a : Int) < 0) = false := by simp
  have q3 : decide ((a : Int) ≥ (sz.length : Int)) = false := by simp; omega
  have q3' : decide (sz.length ≤ a) = false := by simp; omega
  have q5 : decide ((i : Int) < 0) = false := by simp
  have q6 : decide ((i : Int) ≥ rd sz a) = false := by simp; omega
  have gs := hwf.size_le ha
  rw [gN] at hN
  have q7 : decide ((cs.length : Int) + (cs.length : Int) / rd sz a > 4096) = false := by simp; omega
  have hwr : IntKind.i64.wrap ((cs.length : Int) + (cs.length : Int) / rd sz a) = (cs.length : Int) + (cs.length : Int) / rd sz a := IntWalk.i64_in _ (by omega)
  have HT := Lib.hid ht; have HWF := Lib.hid hwf; have HFB := Lib.hid hFb; have HFS := Lib.hid hFs; have HFC := Lib.hid hFc; have R3 := Lib.hid r3; have HGN := Lib.hid gN; have HZ := Lib.hid hz'; have HI := Lib.hid hi
  clear hz' hz hzb hcr hcr' hcb hb gN hwf ht hFb hFs hFc r3 hi
  refine rf_calls 3 Try.func17 rfl ?_
  simp only [Try.ntmps17, List.size_toArray, List.length_cons, List.length_nil, Nat.reduceAdd, Nat.reduceSub, Array.replicate_succ, Array.replicate_zero, List.push_toArray, List.append_toArray, List.nil_append, List.cons_append]
  go_wp2
  go_quiet (fail)
  go_wp2
  go_quiet (fail)
  go_wp2_with fail
  refine (hrw.out _ (nw_trans (nw_alloc _ _) (nw_drewN _ _)) ha).mono ?_; rintro e w1 ⟨rfl, n1, hw1⟩
  have k1 : w1.heap[w.heap.size]? = some (.cells #[.int .i64 (i : Int)] 3 (0, 0)) := by
    rw [hw1]; simp only [World.drewN_drewN, World.heap_drewN]; exact World.alloc_heap_new _ _
  have s1 : w1.heap.size = w.heap.size + 1 := by rw [hw1]; simp only [World.drewN_drewN, World.heap_drewN, World.size_alloc]
  have n1 : Nw w w1 := by rw [hw1]; exact nw_trans (nw_trans (nw_alloc _ _) (nw_drewN _ _)) (nw_drewN _ _)
  obtain ⟨all, hall⟩ : ∃ all, one * s = all := ⟨_, rfl⟩
  have e1 : suf sz (a + 1) * rd sz a = (all : Int) := by rw [R3.out.one_, R3.out.s_, ← hall]; simp
  have HALL := Lib.hid hall
  rw [e1, R3.out.one_]
  clear hall hw1 hrw g0 p0 p1 nb hwr q1 q3 q3' q5 q6 q7 e1
  have T1 := HT.out.nw n1
  have p1 := nw_cell (nw_trans (nw_alloc w1 (.cells #[.int .i64 (one : Int)] 3)) (nw_alloc _ (.cells #[.slice none 0 0] 30))) T1.c1
  have K1 := Lib.hid k1; have NW1 := Lib.hid n1; have S1 := Lib.hid s1
  clear T1 k1 n1 s1
  go_wp2_with fail
  have hall1 : (1 : Int) ≤ (all : Int) := by
    have h1 := R3.out.p1; have h2 := R3.out.p2; have h3 := Nat.mul_le_mul h1 h2; have h4 := HALL.out; omega
  refine (chunkI _ _ _ _ _ hall1).mono ?_; rintro e w2 ⟨rfl, h3, h4, hn2⟩
  simp only [World.size_alloc, Nat.add_assoc, Nat.reduceAdd] at h3 h4
  have n2 := nw_trans (nw_trans (nw_alloc w1 (.cells #[.int .i64 (one : Int)] 3)) (nw_alloc _ (.cells #[.slice none 0 0] 30))) hn2
  have k7 : w2.heap[w1.heap.size]? = some (.cells #[.int .i64 (one : Int)] 3 (0, 0)) := nw_blk hn2 (by simp only [heap_alloc_if, World.size_alloc]; repeat (first | rw [if_pos trivial] | rw [if_pos (by omega)] | rw [if_neg (by omega)]))
  have k9 : w2.heap[w1.heap.size + 1]? = some (.cells #[.slice none 0 0] 30 (0, 0)) := nw_blk hn2 (by simp only [heap_alloc_if, World.size_alloc]; repeat (first | rw [if_pos trivial] | rw [if_pos (by omega)] | rw [if_neg (by omega)]))
  have H3 := Lib.hid h3; have H4 := Lib.hid h4; have K7 := Lib.hid k7; have K9 := Lib.hid k9; have NW2 := Lib.hid n2
  have s2 := hn2.size
  simp only [World.size_alloc] at s2
  clear h3 h4 k7 k9 n2 hn2 p1
  go_wp2
  refine (wpIn_wide (n := 3)).1 (rf_enter (gf := 71) rfl (enters_of Try.func71 (by kernel_rfl) rfl) ?_)
  intro fn W1 hn3 hs3 hl hD
  obtain ⟨lp, hlp⟩ : ∃ lp, W1.heap[w2.heap.size + 1]? = some (.loop lp) := ⟨_, hl⟩
  have elp := Obj.loop.inj (Option.some.inj (hlp.symm.trans hl))
  have ELP := Lib.hid elp; clear elp hl
  have hl := hlp; clear hlp
  have T1 := ((HT.out.nw NW1.out).nw NW2.out).nw hn3
  have HT1 := Lib.hid T1; have HL := Lib.hid hl; have HD := Lib.hid hD; have HN3 := Lib.hid hn3
  have hb3 := blk_lt H4.out
  have hbl : b < w.heap.size := blk_lt HT.out.1
  clear T1 hl hD hn3
  obtain ⟨b9, hb9⟩ : ∃ b9, w1.heap.size + 1 = b9 := ⟨_, rfl⟩
  obtain ⟨l, hl⟩ : ∃ l, w2.heap.size + 1 = l := ⟨_, rfl⟩
  rw [hl] at HL ⊢
  simp only [Nat.add_assoc, Nat.reduceAdd]
  rw [hb9] at K9
  refine callsIn_wide.2 ((chunkIt 1 l (w1.heap.size + 2) (w1.heap.size + 3) g 0 all rows cs.length cc
    (fun r => GJ b sz cs (.slice (some ⟨bz, 0, none⟩) sz.length zc) (.slice (some ⟨g, 0, none⟩) cs.length cc) b9 l w2.heap.size w2 lp (growR cs one all i r)) (fun _ _ => False) (by rw [R3.out.len_, HALL.out]) (by omega) hcc hcm (by omega)
    (fun r A hJ => ⟨hJ.kp.blk H3.out (by have := S1.out; omega), hJ.kp.blk H4.out (by have := S1.out; omega)⟩) (fun r A k hJ => ⟨hJ.tv, hJ.kp.drewN _, hJ.rl, hJ.rD, hJ.bx⟩) W1 ?h0 ?hy).mono ?hfin)
  case h0 =>
    refine ⟨HT1.out, kp_of_nw HN3.out _, HL.out, HD.out, none, 0, nw_blk HN3.out K9.out, ?_, fun d hd => by cases hd⟩
    exact ⟨by simp [iv, growR], .inl ⟨rfl, by simp [growR]⟩⟩
  case hfin =>
    rintro e W2 ⟨⟨v, rfl⟩, hJ | ⟨r, _, hx⟩⟩
    rotate_left
    · exact hx.elim
    have hl2 := hJ.rl
    rw [ELP.out] at hl2
    refine rf_done hl2 (fun o' => ?_)
    obtain ⟨a9, c9, hb9c, h9o, h9d⟩ := hJ.bx
    have tv3 := hJ.tv.putObj hJ.rl rfl o'
    have rD3 : (W2.putObj l o').heap[w2.heap.size]? = some (.deferred (some [])) := (World.putObj_heap_other (by omega)).trans hJ.rD
    have kp3 := hJ.kp.trans (kp_putObj W2 l o') (fun k hk _ => .inr (by omega))
    have o3 := own_putObj h9o hJ.rl rfl o'
    have hs1 := S1.out
    have hlt9 := blk_lt K9.out
    have h93 : (W2.putObj l o').heap[b9]? = _ := (World.putObj_heap_other (by omega)).trans hb9c
    have hge : growR cs one all i rows = growC sz cs a i := by rw [← HALL.out]; exact growR_eq HWF.out ha HI.out R3.out
    rw [hge] at o3 h93
    clear hge
    obtain ⟨Z, hZ⟩ : ∃ Z, growC sz cs a i = Z := ⟨_, rfl⟩
    rw [hZ] at o3 h93
    have HZZ := Lib.hid hZ; clear hZ
    generalize W2.putObj l o' = W3 at tv3 rD3 kp3 o3 h93 ⊢
    have q9 := blk_cell h93 0
    have tv4 := tv3.put1 (by decide) o3 (fun k hk e => by
      have e1 : bz = k := by injection hk
      rcases a9 with _ | d
      · cases e
      · have e2 : d.block = k := by injection e
        have := (h9d d rfl).1; omega)
    obtain ⟨W4, hW4⟩ : ∃ W4, W3.setCell ⟨b, 1, none⟩ (.slice a9 Z.length c9) = W4 := ⟨_, rfl⟩
    rw [hW4] at tv4
    have tv5 := tv4.set0 (by decide) rfl a (rd sz a + 1)
    have qb := tv3.c1
    have qbf := tv3.fr 1
    have q0 := tv4.c0
    have qz := own_cell tv4.2.1 (j := a) ha
    have qzf := own_frozen tv4.2.1 a
    have hwr : IntKind.i64.wrap (rd sz a + 1) = rd sz a + 1 := IntWalk.i64_in _ (by omega)
    have kp4 : Kp (fun k => F k ∨ w.heap.size ≤ k) w W4 := by
      rw [← hW4]
      exact Kp.setCell (((kp_of_nw (nw_trans NW1.out NW2.out) _).trans kp3 (fun k hk hlt => by omega))) (fun _ => .inl HFB.out) _
    have TV5 := Lib.hid tv5; have RD3 := Lib.hid rD3; have KP4 := Lib.hid kp4; have HW4 := Lib.hid hW4
    have hbD : ¬ w2.heap.size = b := by omega
    have hzD : ¬ w2.heap.size = bz := by omega
    clear tv3 tv4 tv5 rD3 kp3 kp4 o3 hs1 hl2 hJ hb9c h9o
    go_wp2
    have hD4 : W4.heap[w2.heap.size]? = some (.deferred (some [])) := by rw [← HW4.out]; exact blk_far RD3.out hbD _
    have hD5 := blk_far hD4 (p := ⟨bz, a, none⟩) hzD (.int .i64 (rd sz a + 1))
    refine rf_leave rfl hD5 (results_tmp rfl _ _ _) ⟨rfl, ⟨_, _, by rw [HZZ.out]; exact TV5.out.putObj hD5 rfl _, .inl HFB.out, fun k hk => .inl (HFS.out k hk), fun k hk => .inr ?_⟩, ?_⟩
    · rcases a9 with _ | d
      · cases hk
      · have e2 : d.block = k := by injection hk
        have := (h9d d rfl).1; have := S1.out; omega
    · have k5 := Kp.setCell KP4.out (p := ⟨bz, a, none⟩) (fun _ => .inl (HFS.out bz rfl)) (.int .i64 (rd sz a + 1))
      refine (k5.trans (kp_putObj _ w2.heap.size _) (fun k hk _ => .inr (by have := S1.out; omega))).mono (fun k hk hlt => ?_)
      rcases hk with hk | hk
      · exact hk
      · omega
  case hy =>
    intro r A hr hJ
    have rl := hJ.rl
    rw [ELP.out] at rl
    rw [Nat.zero_add]
    refine rf_round rl rfl ?_
    gi_wp2
    refine ⟨rfl, fun o ho => ?_⟩
    have hs1 := S1.out
    have hkA := kp_putObj A l o
    have hlt := blk_lt hJ.rl
    have tvo := hJ.tv.putObj hJ.rl rfl o
    have hlo : (A.putObj l o).heap[l]? = some o := World.putObj_heap_same hlt
    have hDo : (A.putObj l o).heap[w2.heap.size]? = some (.deferred (some [])) := (World.putObj_heap_other (by omega)).trans hJ.rD
    have hkp := hJ.kp
    obtain ⟨a9, c9, hb9c, h9o, h9d⟩ := hJ.bx
    have h9o2 := own_putObj h9o hJ.rl rfl o
    have hb9c2 : (A.putObj l o).heap[b9]? = _ := (World.putObj_heap_other (by omega)).trans hb9c
    generalize A.putObj l o = A1 at hkA tvo hlo hDo h9o2 hb9c2 ⊢
    have kA := hkp.trans hkA (fun k hk _ => .inr (by omega))
    have hrowl := rowAt_length (by rw [R3.out.len_, HALL.out] : cs.length = rows * all) hr
    have hrow : IR .i64 A1 (some ⟨g, r * all, none⟩) (rowAt cs all r) := by
      have h1 := (own_rd tvo.2.2.1).drop (r * all)
      rw [Nat.zero_add] at h1
      exact h1.take all
    have q5 : A1.cell? ⟨w.heap.size, 0, none⟩ = some (.int .i64 (i : Int)) := blk_cell (kA.blk (nw_blk NW2.out K1.out) (by omega)) 0
    have q7 : A1.cell? ⟨w1.heap.size, 0, none⟩ = some (.int .i64 (one : Int)) := blk_cell (kA.blk K7.out (by omega)) 0
    have q9 := blk_cell hb9c2 0
    have q9f := blk_frozen hb9c2 0
    obtain ⟨e1, he1⟩ : ∃ e1 : Nat, (i + 1) * one = e1 := ⟨_, rfl⟩
    obtain ⟨e0, he0⟩ : ∃ e0 : Nat, i * one = e0 := ⟨_, rfl⟩
    have he1l : e1 ≤ all := by rw [← he1, ← HALL.out, Nat.mul_comm]; exact Nat.mul_le_mul_left _ his
    have he0l : e0 < all := by have h1 := R3.out.p1; rw [Nat.add_mul, Nat.one_mul, he0] at he1; omega
    have hal4 : all ≤ 4096 := by have := HALL.out; omega
    have hw1 : IntKind.i64.wrap ((i : Int) + 1) = (i : Int) + 1 := IntWalk.i64_in _ (by have := R3.out.s_; omega)
    have hw2 : IntKind.i64.wrap (((i : Int) + 1) * (one : Int)) = (e1 : Int) := by
      rw [show ((i : Int) + 1) * (one : Int) = ((e1 : Nat) : Int) by rw [← he1]; simp]
      exact IntWalk.i64_in _ (by omega)
    have hw3 : IntKind.i64.wrap ((i : Int) * (one : Int)) = (e0 : Int) := by
      rw [show (i : Int) * (one : Int) = ((e0 : Nat) : Int) by rw [← he0]; simp]
      exact IntWalk.i64_in _ (by omega)
    have he0l2 : e0 ≤ all := by omega
    have he0n : ¬ all = e0 := by omega
    have HE1 := Lib.hid he1; have HE0 := Lib.hid he0
    obtain ⟨X', hX'⟩ : ∃ X', X' = growR cs one all i r ++ (rowAt cs all r).take ((i + 1) * one) ++ (rowAt cs all r).drop (i * one) := ⟨_, rfl⟩
    have HX' := Lib.hid (show growR cs one all i (r + 1) = X' by rw [growR, hX'])
    have hc3 : ∀ W, W = (A1.alloc (Obj.cells #[Value.slice a9 (growR cs one all i r).length c9, Value.slice (some { block := g, off := r * all }) e1 all, Value.slice (some { block := g, off := r * all + e0 }) (all - e0) (all - e0)] 30)).drew → _ :=
      fun W hW => concat3 W A1.heap.size 30 a9 (some ⟨g, r * all, none⟩) (some ⟨g, r * all + e0, none⟩) c9 all (all - e0) _ e1 (all - e0) (growR cs one all i r) ((rowAt cs all r).take ((i + 1) * one)) ((rowAt cs all r).drop (i * one)) X' hX' rfl
        (by rw [List.length_take, hrowl, he1]; omega) (by rw [List.length_drop, hrowl, he0]) (by rw [hW]; exact blk_new A1 _)
        (by rw [hW]; exact (own_rd h9o2).nw (nw_trans (nw_alloc A1 _) (nw_drewN _ 1)))
        (by rw [hW]; exact ((hrow.nw (nw_trans (nw_alloc A1 _) (nw_drewN _ 1))).take _))
        (by rw [hW, ← he0]; exact ((hrow.nw (nw_trans (nw_alloc A1 _) (nw_drewN _ 1))).drop _))
        (fun e => by subst e; exact own_none h9o2) (fun e => by cases e) (fun e => by cases e)
        (by have hg := growR_length (one := one) (i := i) (by rw [R3.out.len_, HALL.out]) (by rw [he1]; exact he1l) (r + 1) hr
            rw [growR, ← hX'] at hg; rw [hg]
            have : (r + 1) * (all + one) ≤ rows * (all + one) := Nat.mul_le_mul_right _ hr
            have h5 := growN_rows HWF.out ha R3.out
            have h6 := HGN.out
            rw [HALL.out] at h5
            omega)
    have HC3 := Lib.hid hc3
    have HB9 := Lib.hid hb9c2; have H9O := Lib.hid h9o2; have H9D := Lib.hid h9d; have TVO := Lib.hid tvo; have HLO := Lib.hid hlo; have HDO := Lib.hid hDo; have HKP := Lib.hid hkp; have HKA := Lib.hid hkA; have KA := Lib.hid kA; have HO := Lib.hid ho; have RL := Lib.hid rl
    clear hX' hs1 he1 he0 hc3 hb9c2 h9o h9o2 h9d tvo hlo hDo hkp hkA kA ho rl hJ hb9c hrow hrowl
    refine wpIn_block ?_
    refine rf_tail 12 (by kernel_rfl) (by kernel_rfl) (by kernel_rfl) (inBlock_out (rfPost_out)) ?_
    simp only [List.take_succ_cons, List.take_zero, List.drop_succ_cons, List.drop_zero]
    repeat still_step
    refine wpStill_nil ?_
    go_wp2_with fail
    refine (HC3.out _ rfl).mono ?_; rintro e w4 ⟨a4, c4, rfl, h4o, h4d, h4n⟩
    have H4O := Lib.hid h4o; have H4D := Lib.hid h4d; have H4N := Lib.hid h4n
    clear h4o h4d h4n HC3
    have n4 : Nw A1 w4 := nw_trans (nw_trans (nw_alloc A1 _) (nw_drewN _ 1)) H4N.out
    have hb94 := nw_blk n4 HB9.out
    have q9f4 := blk_frozen hb94 0
    have q94 := blk_cell hb94 0
    have H94 := Lib.hid hb94; have N4 := Lib.hid n4
    clear hb94 n4 q9 q9f q5 q7
    have hl1 := blk_lt HLO.out; have hl2 := blk_lt HDO.out; have hl9 := blk_lt HB9.out
    have fin : ∀ W3, W3 = w4.setCell ⟨b9, 0, none⟩ (.slice a4 X'.length c4) → W3.heap[l]? = some o ∧ ∀ o', o' = Obj.loop lp →
        GJ b sz cs (.slice (some ⟨bz, 0, none⟩) sz.length zc) (.slice (some ⟨g, 0, none⟩) cs.length cc) b9 l w2.heap.size w2 lp X' (W3.putObj l o') := by
      intro W3 hW3
      have hs1 := S1.out
      have k43 : Kp (fun k => k = b9) w4 W3 := by rw [hW3]; exact Kp.setCell (S := fun k => k = b9) (Kp.refl _ w4) (p := ⟨b9, 0, none⟩) (fun _ => rfl) _
      have k13 : Kp (fun k => k = b9) A1 W3 := (kp_of_nw N4.out _).trans k43 (fun k hk _ => hk)
      have hl3 := k13.blk HLO.out (show ¬ l = b9 by omega)
      have hD3 := k13.blk HDO.out (show ¬ w2.heap.size = b9 by omega)
      have tv3 : TwoV 77 W3 b sz cs (.slice (some ⟨bz, 0, none⟩) sz.length zc) (.slice (some ⟨g, 0, none⟩) cs.length cc) :=
        TVO.out.kp k13 (by omega) (fun k hk => by have e1 : bz = k := by injection hk
                                                  omega) (fun k hk => by have e1 : g = k := by injection hk
                                                                         omega)
      have kk := KA.out.trans k13 (fun k hk _ => .inl hk)
      have o3 : W3.ownsRow 0 3 1 (.slice a4 X'.length c4) X'.length (iv .i64 X') := by
        rw [hW3]
        refine own_set H4O.out (fun e => ?_) _
        rcases a4 with _ | d
        · cases e
        · have e1 : d.block = b9 := by injection e
          have e2 := H4D.out d rfl
          simp only [World.size_alloc, World.drew_is_drewN, World.heap_drewN] at e2
          omega
      refine ⟨hl3, fun o' ho' => ⟨tv3.putObj hl3 (by rw [HO.out]; rfl) o', kk.trans (kp_putObj W3 l o') (fun k hk _ => .inr (by omega)), by rw [ho']; exact World.putObj_heap_same (blk_lt hl3), (World.putObj_heap_other (by omega)).trans hD3, a4, c4, ?_, own_putObj o3 hl3 (by rw [HO.out]; rfl) o', ?_⟩⟩
      · rw [World.putObj_heap_other (by omega), hW3]
        exact blk_set H94.out 0 _
      · intro d hd
        have e2 := H4D.out d hd
        simp only [World.size_alloc, World.drew_is_drewN, World.heap_drewN] at e2
        omega
    have FIN := Lib.hid fin
    clear fin
    go_wp2
    have hfin := FIN.out _ rfl
    refine ⟨?_, ?_⟩
    · rw [HO.out] at hfin; exact hfin.1
    · refine ⟨rfl, ?_⟩; rw [HX'.out]; exact hfin.2 _ (by rw [ELP.out, hb9])
end Go.Proofs.Ytbofjdckmkifaaa

/-! ## The walk of the slab's Shrink, where it does not begin. Conditions: the slab is one that may be. -/
namespace Go.Proofs.Ytbofjdckmkifaaa
open Go.RowKit Go.Shelf

theorem box2_end (w : World) (o1 : Obj) (v0 : Value) (t : TypeId) (n : Nat) (v : Value) : Nw w ((((w.alloc o1).alloc (.cells #[v0] t)).drewN n).setCell ⟨w.heap.size + 1, 0, none⟩ v) ∧
    ((((w.alloc o1).alloc (.cells #[v0] t)).drewN n).setCell ⟨w.heap.size + 1, 0, none⟩ v).cell? ⟨w.heap.size + 1, 0, none⟩ = some v := by
  refine ⟨(Kp.setCell (((Kp.refl (fun _ => False) w).alloc o1).alloc _ |>.drewN n) (fun h => by simp at h; omega) v).nw, ?_⟩
  have h := blk_new (w.alloc o1) (.cells #[v0] t)
  rw [World.size_alloc] at h
  exact blk_cell (blk_set (w := ((w.alloc o1).alloc (.cells #[v0] t)).drewN n) h 0 v) 0
set_option maxRecDepth 100000 in
set_option maxHeartbeats 1000000 in
theorem shrinkP_bad (F : Nat → Prop) (w : World) (b : Nat) (sz cs : List Int) (at_ i : Int) (hwf : Wf sz cs) (h : Two 77 F w b sz cs) (hb : shrBad sz at_ i = true) :
    Calls Try.prog 19 #[.pointer (some ⟨b, 0, none⟩), .int .i64 at_, .int .i64 i] w fun e w' => e = .returned (.int .i64 1) ∧ Nw w w' := by
  obtain ⟨vs, vc, ht, -⟩ := h
  obtain ⟨az, zc, rfl, hzc, hzm, hz, -⟩ := own_IR ht.2.1
  obtain ⟨bz, oz, rfl, hz'⟩ := IR_some hz (by have := hwf.lo; omega)
  have h6 := hwf.hi
  have p0 := ht.c0
  clear ht hz
  have HZ := Lib.hid hz'; clear hz'
  have nb := nw_trans (nw_alloc w (.cells #[.int .i64 i] 3)) (nw_alloc _ (.cells #[.int .i64 0] 24))
  have p1 := nw_cell nb p0
  have NB := Lib.hid nb; clear nb
  simp only [shrBad, Bool.or_eq_true, decide_eq_true_eq] at hb
  by_cases q0 : at_ < 0
  · have q1 : decide (at_ < 0) = true := by simp; omega
    clear hb
    refine rf_calls 3 Try.func19 rfl ?_
    simp only [Try.ntmps19, List.size_toArray, List.length_cons, List.length_nil, Nat.reduceAdd, Nat.reduceSub, Array.replicate_succ, Array.replicate_zero, List.push_toArray, List.append_toArray, List.nil_append, List.cons_append]
    go_wp2
    go_quiet (fail)
    go_wp2
    have hend := box2_end w (.cells #[.int .i64 i] 3) (.int .i64 0) 24 nq (.int .i64 1)
    exact rf_leave0 rfl (results_cell1 rfl _ _ _ _ _ rfl rfl Try.underlying24 hend.2) ⟨rfl, hend.1⟩
  have q1 : decide (at_ < 0) = false := by simp; omega
  obtain ⟨a, rfl⟩ := Int.eq_ofNat_of_zero_le (show 0 ≤ at_ by omega)
  by_cases q2 : sz.length ≤ a
  · have q3 : decide ((a : Int) ≥ (sz.length : Int)) = true := by simp; omega
    have q3' : decide (sz.length ≤ a) = true := by simp; omega
    clear hb
    refine rf_calls 3 Try.func19 rfl ?_
    simp only [Try.ntmps19, List.size_toArray, List.length_cons, List.length_nil, Nat.reduceAdd, Nat.reduceSub, Array.replicate_succ, Array.replicate_zero, List.push_toArray, List.append_toArray, List.nil_append, List.cons_append]
    go_wp2
    go_quiet (fail)
    go_wp2
    have hend := box2_end w (.cells #[.int .i64 i] 3) (.int .i64 0) 24 nq (.int .i64 1)
    exact rf_leave0 rfl (results_cell1 rfl _ _ _ _ _ rfl rfl Try.underlying24 hend.2) ⟨rfl, hend.1⟩
  have q3 : decide ((a : Int) ≥ (sz.length : Int)) = false := by simp; omega
  have q3' : decide (sz.length ≤ a) = false := by simp; omega
  by_cases q4 : i < 0
  · have q5 : decide (i < 0) = true := by simp; omega
    clear hb
    refine rf_calls 3 Try.func19 rfl ?_
    simp only [Try.ntmps19, List.size_toArray, List.length_cons, List.length_nil, Nat.reduceAdd, Nat.reduceSub, Array.replicate_succ, Array.replicate_zero, List.push_toArray, List.append_toArray, List.nil_append, List.cons_append]
    go_wp2
    go_quiet (fail)
    go_wp2
    have hend := box2_end w (.cells #[.int .i64 i] 3) (.int .i64 0) 24 nq (.int .i64 1)
    exact rf_leave0 rfl (results_cell1 rfl _ _ _ _ _ rfl rfl Try.underlying24 hend.2) ⟨rfl, hend.1⟩
  have q5 : decide (i < 0) = false := by simp; omega
  have gs := hwf.size_le (k := a) (by omega)
  have q6 : decide (i ≥ rd sz a - 1) = true := by simp at hb ⊢; omega
  have g := HZ.out a (by omega)
  have g1 := nw_cell NB.out g
  clear hb
  refine rf_calls 3 Try.func19 rfl ?_
  simp only [Try.ntmps19, List.size_toArray, List.length_cons, List.length_nil, Nat.reduceAdd, Nat.reduceSub, Array.replicate_succ, Array.replicate_zero, List.push_toArray, List.append_toArray, List.nil_append, List.cons_append]
  go_wp2
  go_quiet (fail)
  go_wp2
  have hend := box2_end w (.cells #[.int .i64 i] 3) (.int .i64 0) 24 nq (.int .i64 1)
  exact rf_leave0 rfl (results_cell1 rfl _ _ _ _ _ rfl rfl Try.underlying24 hend.2) ⟨rfl, hend.1⟩

end Go.Proofs.Ytbofjdckmkifaaa

/-! ## The walk of the slab's Shrink, where it begins. Conditions: the slab is one that may be. -/
namespace Go.Proofs.Ytbofjdckmkifaaa
open Go.RowKit Go.Shelf
attribute [local go_sem] Oper.semAt_some

theorem equalI (w : World) (g o1 o2 n m c d : Nat) (xs ys : List Int) (hx : xs.length = n) (hy : ys.length = m) (hn : n ≤ 1000000) (hm : m ≤ 1000000) (h1 : IR .i64 w (some ⟨g, o1, none⟩) xs) (h2 : IR .i64 w (some ⟨g, o2, none⟩) ys) :
    Calls Try.prog 50 #[.slice (some ⟨g, o1, none⟩) n c, .slice (some ⟨g, o2, none⟩) m d] w fun e w' => e = .returned (.bool (decide (xs = ys))) ∧ ∃ q, w' = w.drewN q := by
  subst hx; subst hy
  have h := Try.slices_Equal_int g o1 xs.length c g o2 ys.length d xs ys w (Nat.le_refl _) (Nat.le_refl _) (by omega) (by omega)
    (fun j hj => by obtain ⟨b, o, e, h⟩ := h1 j hj; cases e; exact h) (fun j hj => by obtain ⟨b, o, e, h⟩ := h2 j hj; cases e; exact h)
  refine h.mono ?_
  rintro e w' ⟨he, hq⟩
  refine ⟨he.trans ?_, hq⟩
  rw [List.take_length, List.take_length]
  by_cases e : xs = ys
  · simp [e]
  · simp [e]

theorem IR_if {k : IntKind} {w : World} {b o n m : Nat} {xs : List Int} (h : IR k w (some ⟨b, o, none⟩) xs) (hm : xs.length = m) : IR k w (if m = n then some ⟨b, o, none⟩ else some ⟨b, o + n, none⟩) (xs.drop n) := by
  by_cases e : m = n
  · rw [if_pos e, List.drop_eq_nil_of_le (by omega)]; exact IR_nil _ _ _
  · rw [if_neg e]; exact h.drop n
/-- what stands where a round of Shrink has returned -/
structure SX (l D c6 : Nat) (w2 : World) (lp : Loop) (W : World) : Prop where
  rl : W.heap[l]? = some (.loop { lp with state := .done, pending := some .ret })
  rD : W.heap[D]? = some (.deferred (some []))
  c : W.cell? ⟨c6, 0, none⟩ = some (.int .i64 1)
  kp : Kp (fun k => c6 ≤ k) w2 W

set_option maxRecDepth 100000 in
set_option maxHeartbeats 4000000 in
theorem shrinkP_go (F : Nat → Prop) (w : World) (b : Nat) (sz cs : List Int) (a i : Nat) (hwf : Wf sz cs) (h : Two 77 F w b sz cs) (hb : shrBad sz a i = false) :
    Calls Try.prog 19 #[.pointer (some ⟨b, 0, none⟩), .int .i64 (a : Int), .int .i64 (i : Int)] w fun e w' =>
      (shrOk sz cs a i cs.length = true ∧ e = .returned (.int .i64 0) ∧ Two 77 (fun k => F k ∨ w.heap.size ≤ k) w' b (shrS sz a) (shrT sz cs a i cs.length) ∧ Kp F w w') ∨
      (shrOk sz cs a i cs.length = false ∧ e = .returned (.int .i64 1) ∧ Nw w w') := by
  have hrw := Lib.hid (fun (W : World) (hn : Nw w W) (ha : a < sz.length) => rowsP F W b sz cs a hwf (h.nw hn) ha)
  obtain ⟨vs, vc, ht, hFb, hFs, hFc⟩ := h
  obtain ⟨az, zc, rfl, hzc, hzm, hz, hzb⟩ := own_IR ht.2.1
  obtain ⟨bz, oz, rfl, hz'⟩ := IR_some hz (by have := hwf.lo; omega)
  obtain ⟨ac, cc, rfl, hcc, hcm, hcr, hcb⟩ := own_IR ht.2.2.1
  obtain ⟨g, og, rfl, hcr'⟩ := IR_some hcr (by have := hwf.pos'; omega)
  obtain ⟨-, hg0, -, -, hgl⟩ := hcb _ rfl
  obtain ⟨-, hz0, -, -, hzl⟩ := hzb _ rfl
  simp only at hg0 hgl hz0 hzl
  subst hg0; subst hz0
  simp only [Nat.zero_add] at hz'
  have h6 := hwf.hi; have hmost := hwf.most
  simp only [shrBad, Bool.or_eq_false_iff, decide_eq_false_iff_not, Int.toNat_natCast] at hb
  have ha : a < sz.length := by omega
  have hi : (i : Int) < rd sz a - 1 := by omega
  obtain ⟨one, s, rows, r3⟩ := rows3 hwf ha
  have his : i + 1 < s := by have := r3.s_; omega
  have nb := nw_trans (nw_alloc w (.cells #[.int .i64 (i : Int)] 3)) (nw_alloc _ (.cells #[.int .i64 0] 24))
  have p0 := nw_cell nb ht.c0
  have p1 := nw_cell nb ht.c1
  have g0 := nw_cell nb (hz' a ha)
  have hsuf4 := suf_le hwf a (by omega)
  rw [suf_step sz ha] at hsuf4
  rw [r3.one_, r3.s_] at hsuf4
  have hone4 := suf_le hwf (a + 1) (by omega)
  rw [r3.one_] at hone4
  have hall4 : one * s ≤ 4096 := by have : ((one * s : Nat) : Int) = (s : Int) * one := by rw [Int.natCast_mul, Int.mul_comm]
                                    omega
  have q1 : decide ((a : Int) < 0) = false := by simp
  have q3 : decide ((a : Int) ≥ (sz.length : Int)) = false := by simp; omega
  have q3' : decide (sz.length ≤ a) = false := by simp; omega
  have q5 : decide ((i : Int) < 0) = false := by simp
  have q6 : decide ((i : Int) ≥ rd sz a - 1) = false := by simp; omega
  have gs := hwf.size_le ha
  have hwr : IntKind.i64.wrap (rd sz a - 1) = rd sz a - 1 := IntWalk.i64_in _ (by omega)
  have HT := Lib.hid ht; have HWF := Lib.hid hwf; have HFB := Lib.hid hFb; have HFS := Lib.hid hFs; have HFC := Lib.hid hFc; have R3 := Lib.hid r3; have HZ := Lib.hid hz'; have HI := Lib.hid hi
  clear hz' hz hzb hcr hcr' hcb hb hwf ht hFb hFs hFc r3 hi
  refine rf_calls 3 Try.func19 rfl ?_
  simp only [Try.ntmps19, List.size_toArray, List.length_cons, List.length_nil, Nat.reduceAdd, Nat.reduceSub, Array.replicate_succ, Array.replicate_zero, List.push_toArray, List.append_toArray, List.nil_append, List.cons_append]
  go_wp2
  go_quiet (fail)
  go_wp2_with fail
  refine (hrw.out _ (nw_trans (nw_trans (nw_alloc _ _) (nw_alloc _ _)) (nw_drewN _ _)) ha).mono ?_; rintro e w1 ⟨rfl, n1, hw1⟩
  have k1 : w1.heap[w.heap.size]? = some (.cells #[.int .i64 (i : Int)] 3 (0, 0)) := by
    rw [hw1]; simp only [World.drewN_drewN, World.heap_drewN]; simp only [heap_alloc_if, World.size_alloc]; repeat (first | rw [if_pos trivial] | rw [if_pos (by omega)] | rw [if_neg (by omega)])
  have k6 : w1.heap[w.heap.size + 1]? = some (.cells #[.int .i64 0] 24 (0, 0)) := by
    rw [hw1]; simp only [World.drewN_drewN, World.heap_drewN]; simp only [heap_alloc_if, World.size_alloc]; repeat (first | rw [if_pos trivial] | rw [if_pos (by omega)] | rw [if_neg (by omega)])
  have s1 : w1.heap.size = w.heap.size + 2 := by rw [hw1]; simp only [World.drewN_drewN, World.heap_drewN, World.size_alloc]
  have n1 : Nw w w1 := by rw [hw1]; exact nw_trans (nw_trans (nw_trans (nw_alloc _ _) (nw_alloc _ _)) (nw_drewN _ _)) (nw_drewN _ _)
  obtain ⟨all, hall⟩ : ∃ all, one * s = all := ⟨_, rfl⟩
  have e1 : suf sz (a + 1) * rd sz a = (all : Int) := by rw [R3.out.one_, R3.out.s_, ← hall]; simp
  have HALL := Lib.hid hall
  rw [e1, R3.out.one_]
  clear hall hw1 hrw g0 p0 p1 nb hwr q1 q3 q3' q5 q6 e1
  have T1 := HT.out.nw n1
  have p1 := nw_cell (nw_trans (nw_alloc w1 (.cells #[.int .i64 (one : Int)] 3)) (nw_alloc _ (.cells #[.slice none 0 0] 30))) T1.c1
  have K1 := Lib.hid k1; have K6 := Lib.hid k6; have NW1 := Lib.hid n1; have S1 := Lib.hid s1
  clear T1 k1 k6 n1 s1
  go_wp2_with fail
  have hall1 : (1 : Int) ≤ (all : Int) := by
    have h1 := R3.out.p1; have h2 := R3.out.p2; have h3 := Nat.mul_le_mul h1 h2; have h4 := HALL.out; omega
  refine (chunkI _ _ _ _ _ hall1).mono ?_; rintro e w2 ⟨rfl, h3, h4, hn2⟩
  simp only [World.size_alloc, Nat.add_assoc, Nat.reduceAdd] at h3 h4
  have n2 := nw_trans (nw_trans (nw_alloc w1 (.cells #[.int .i64 (one : Int)] 3)) (nw_alloc _ (.cells #[.slice none 0 0] 30))) hn2
  have k7 : w2.heap[w1.heap.size]? = some (.cells #[.int .i64 (one : Int)] 3 (0, 0)) := nw_blk hn2 (by simp only [heap_alloc_if, World.size_alloc]; repeat (first | rw [if_pos trivial] | rw [if_pos (by omega)] | rw [if_neg (by omega)]))
  have k9 : w2.heap[w1.heap.size + 1]? = some (.cells #[.slice none 0 0] 30 (0, 0)) := nw_blk hn2 (by simp only [heap_alloc_if, World.size_alloc]; repeat (first | rw [if_pos trivial] | rw [if_pos (by omega)] | rw [if_neg (by omega)]))
  have H3 := Lib.hid h3; have H4 := Lib.hid h4; have K7 := Lib.hid k7; have K9 := Lib.hid k9; have NW2 := Lib.hid n2
  have s2 := hn2.size
  simp only [World.size_alloc] at s2
  clear h3 h4 k7 k9 n2 hn2 p1
  go_wp2
  refine (wpIn_wide (n := 3)).1 (rf_enter (gf := 71) rfl (enters_of Try.func71 (by kernel_rfl) rfl) ?_)
  intro fn W1 hn3 hs3 hl hD
  obtain ⟨lp, hlp⟩ : ∃ lp, W1.heap[w2.heap.size + 1]? = some (.loop lp) := ⟨_, hl⟩
  have elp := Obj.loop.inj (Option.some.inj (hlp.symm.trans hl))
  have ELP := Lib.hid elp; clear elp hl
  have hl := hlp; clear hlp
  have T1 := ((HT.out.nw NW1.out).nw NW2.out).nw hn3
  have HT1 := Lib.hid T1; have HL := Lib.hid hl; have HD := Lib.hid hD; have HN3 := Lib.hid hn3
  have hb3 := blk_lt H4.out
  have hbl : b < w.heap.size := blk_lt HT.out.1
  clear T1 hl hD hn3
  obtain ⟨b9, hb9⟩ : ∃ b9, w1.heap.size + 1 = b9 := ⟨_, rfl⟩
  obtain ⟨l, hl⟩ : ∃ l, w2.heap.size + 1 = l := ⟨_, rfl⟩
  rw [hl] at HL ⊢
  simp only [Nat.add_assoc, Nat.reduceAdd]
  rw [hb9] at K9
  refine callsIn_wide.2 ((chunkIt 1 l (w1.heap.size + 2) (w1.heap.size + 3) g 0 all rows cs.length cc
    (fun r W => GJ b sz cs (.slice (some ⟨bz, 0, none⟩) sz.length zc) (.slice (some ⟨g, 0, none⟩) cs.length cc) b9 l w2.heap.size w2 lp (shrR cs one all i r) W ∧ eqR cs one all i r = true) (fun r W => SX l w2.heap.size (w.heap.size + 1) w2 lp W ∧ eqR cs one all i (r + 1) = false) (by rw [R3.out.len_, HALL.out]) (by omega) hcc hcm (by omega)
    (fun r A ⟨hJ, _⟩ => ⟨hJ.kp.blk H3.out (by have := S1.out; omega), hJ.kp.blk H4.out (by have := S1.out; omega)⟩) (fun r A k ⟨hJ, he⟩ => ⟨⟨hJ.tv, hJ.kp.drewN _, hJ.rl, hJ.rD, hJ.bx⟩, he⟩) W1 ?h0 ?hy).mono ?hfin)
  case h0 =>
    refine ⟨⟨HT1.out, kp_of_nw HN3.out _, HL.out, HD.out, none, 0, nw_blk HN3.out K9.out, ?_, fun d hd => by cases hd⟩, rfl⟩
    exact ⟨by simp [iv, shrR], .inl ⟨rfl, by simp [shrR]⟩⟩
  case hfin =>
    rintro e W2 ⟨⟨v, rfl⟩, ⟨hJ, heq⟩ | ⟨r, hr, hX, heq⟩⟩
    rotate_left
    · have hl2 := hX.rl
      rw [ELP.out] at hl2
      refine rf_ret hl2 (fun o' => ?_)
      have hno : shrOk sz cs a i cs.length = false := by
        rw [shrOk_rows HWF.out ha R3.out his, HALL.out]
        cases h : eqR cs one all i rows with
        | false => rfl
        | true =>
          have h2 := (eqR_iff rows).1 h
          have : eqR cs one all i (r + 1) = true := (eqR_iff (r + 1)).2 (fun q hq => h2 q (by omega))
          rw [heq] at this; cases this
      have hs1 := S1.out
      have rD3 : (W2.putObj l o').heap[w2.heap.size]? = some (.deferred (some [])) := (World.putObj_heap_other (by omega)).trans hX.rD
      have kp3 := hX.kp.trans (kp_putObj W2 l o') (fun k hk _ => by show w.heap.size + 1 ≤ k; omega)
      have c3 := (kp_putObj W2 l o').cell hX.c (show ¬ w.heap.size + 1 = l by omega)
      have kp4 := kp3.trans (kp_putObj _ w2.heap.size (.deferred none)) (fun k hk _ => by show w.heap.size + 1 ≤ k; omega)
      have c4 := (kp_putObj (W2.putObj l o') w2.heap.size (.deferred none)).cell c3 (show ¬ w.heap.size + 1 = w2.heap.size by omega)
      refine rf_leave rfl rD3 (results_cell1 rfl _ _ _ _ _ rfl rfl Try.underlying24 c4) (.inr ⟨hno, rfl, ?_⟩)
      exact Below.trans (nw_trans NW1.out NW2.out) (kp4.below (B := w.heap.size) (fun k hk => by omega) (by omega))
    have hl2 := hJ.rl
    rw [ELP.out] at hl2
    refine rf_done hl2 (fun o' => ?_)
    obtain ⟨a9, c9, hb9c, h9o, h9d⟩ := hJ.bx
    have tv3 := hJ.tv.putObj hJ.rl rfl o'
    have rD3 : (W2.putObj l o').heap[w2.heap.size]? = some (.deferred (some [])) := (World.putObj_heap_other (by omega)).trans hJ.rD
    have kp3 := hJ.kp.trans (kp_putObj W2 l o') (fun k hk _ => .inr (by omega))
    have o3 := own_putObj h9o hJ.rl rfl o'
    have hs1 := S1.out
    have hlt9 := blk_lt K9.out
    have h93 : (W2.putObj l o').heap[b9]? = _ := (World.putObj_heap_other (by omega)).trans hb9c
    have hge : shrR cs one all i rows = shrT sz cs a i cs.length := by rw [R3.out.len_, ← HALL.out]; exact (shrT_rows HWF.out ha R3.out his rows (Nat.le_refl _)).symm
    have hyes : shrOk sz cs a i cs.length = true := by rw [shrOk_rows HWF.out ha R3.out his, HALL.out]; exact heq
    have HYES := Lib.hid hyes; clear hyes heq
    rw [hge] at o3 h93
    clear hge
    obtain ⟨Z, hZ⟩ : ∃ Z, shrT sz cs a i cs.length = Z := ⟨_, rfl⟩
    rw [hZ] at o3 h93
    have HZZ := Lib.hid hZ; clear hZ
    generalize W2.putObj l o' = W3 at tv3 rD3 kp3 o3 h93 ⊢
    have q9 := blk_cell h93 0
    have tv4 := tv3.put1 (by decide) o3 (fun k hk e => by
      have e1 : bz = k := by injection hk
      rcases a9 with _ | d
      · cases e
      · have e2 : d.block = k := by injection e
        have := (h9d d rfl).1; omega)
    obtain ⟨W4, hW4⟩ : ∃ W4, W3.setCell ⟨b, 1, none⟩ (.slice a9 Z.length c9) = W4 := ⟨_, rfl⟩
    rw [hW4] at tv4
    have tv5 := tv4.set0 (by decide) rfl a (rd sz a - 1)
    have qb := tv3.c1
    have qbf := tv3.fr 1
    have q0 := tv4.c0
    have qz := own_cell tv4.2.1 (j := a) ha
    have qzf := own_frozen tv4.2.1 a
    have hwr : IntKind.i64.wrap (rd sz a - 1) = rd sz a - 1 := IntWalk.i64_in _ (by omega)
    have kp4 : Kp (fun k => F k ∨ w.heap.size ≤ k) w W4 := by
      rw [← hW4]
      exact Kp.setCell (((kp_of_nw (nw_trans NW1.out NW2.out) _).trans kp3 (fun k hk hlt => by omega))) (fun _ => .inl HFB.out) _
    have b6 : W4.heap[w.heap.size + 1]? = some (.cells #[.int .i64 0] 24 (0, 0)) := by
      rw [← hW4]; exact blk_far (kp3.blk (nw_blk NW2.out K6.out) (by omega)) (show w.heap.size + 1 ≠ b by omega) _
    have q6c := blk_cell b6 0
    have q6f := blk_frozen b6 0
    have hz6 : ¬ bz = w.heap.size + 1 := by omega
    have hz6' : ¬ w.heap.size + 1 = bz := by omega
    have B6 := Lib.hid b6; clear b6
    have TV5 := Lib.hid tv5; have RD3 := Lib.hid rD3; have KP4 := Lib.hid kp4; have HW4 := Lib.hid hW4
    have hbD : ¬ w2.heap.size = b := by omega
    have hzD : ¬ w2.heap.size = bz := by omega
    clear tv3 tv4 tv5 rD3 kp3 kp4 o3 hs1 hl2 hJ hb9c h9o
    go_wp2
    have hs1 := S1.out
    have hD4 : W4.heap[w2.heap.size]? = some (.deferred (some [])) := by rw [← HW4.out]; exact blk_far RD3.out hbD _
    have hD5 := blk_far hD4 (p := ⟨bz, a, none⟩) hzD (.int .i64 (rd sz a - 1))
    have hD6 := blk_far hD5 (p := ⟨w.heap.size + 1, 0, none⟩) (show w2.heap.size ≠ w.heap.size + 1 by omega) (.int .i64 0)
    have k5 := Kp.setCell KP4.out (p := ⟨bz, a, none⟩) (fun _ => .inl (HFS.out bz rfl)) (.int .i64 (rd sz a - 1))
    have k6 := Kp.setCell k5 (p := ⟨w.heap.size + 1, 0, none⟩) (fun _ => .inr (by show w.heap.size ≤ w.heap.size + 1; omega)) (.int .i64 0)
    have c6 : ((W4.setCell ⟨bz, a, none⟩ (.int .i64 (rd sz a - 1))).setCell ⟨w.heap.size + 1, 0, none⟩ (.int .i64 0)).cell? ⟨w.heap.size + 1, 0, none⟩ = some (.int .i64 0) :=
      blk_cell (blk_set (blk_far B6.out (p := ⟨bz, a, none⟩) hz6' _) 0 _) 0
    have kk : Kp (fun k => k = w.heap.size + 1) (W4.setCell ⟨bz, a, none⟩ (.int .i64 (rd sz a - 1))) _ := Kp.setCell (S := fun k => k = w.heap.size + 1) (Kp.refl _ _) (p := ⟨w.heap.size + 1, 0, none⟩) (fun _ => rfl) (.int .i64 0)
    have tv6 := TV5.out.kp kk (by omega) (fun k hk => by have e1 : bz = k := by injection hk
                                                         omega) (fun k hk => by
      rcases a9 with _ | d
      · cases hk
      · have e2 : d.block = k := by injection hk
        have := (h9d d rfl).1; omega)
    generalize (W4.setCell ⟨bz, a, none⟩ (.int .i64 (rd sz a - 1))).setCell ⟨w.heap.size + 1, 0, none⟩ (.int .i64 0) = W6 at hD6 k6 c6 kk tv6 ⊢
    have c7 := (kp_putObj W6 w2.heap.size (.deferred none)).cell c6 (show ¬ w.heap.size + 1 = w2.heap.size by omega)
    refine rf_leave rfl hD6 (results_cell1 rfl _ _ _ _ _ rfl rfl Try.underlying24 c7) (.inl ⟨HYES.out, rfl, ⟨_, _, by rw [HZZ.out]; exact tv6.putObj hD6 rfl _, .inl HFB.out, fun k hk => .inl (HFS.out k hk), fun k hk => .inr ?_⟩, ?_⟩)
    · rcases a9 with _ | d
      · cases hk
      · have e2 : d.block = k := by injection hk
        have := (h9d d rfl).1; omega
    · refine (k6.trans (kp_putObj _ w2.heap.size _) (fun k hk _ => .inr (by omega))).mono (fun k hk hlt => ?_)
      rcases hk with hk | hk
      · exact hk
      · omega
  case hy =>
    rintro r A hr ⟨hJ, heq⟩
    have rl := hJ.rl
    rw [ELP.out] at rl
    rw [Nat.zero_add]
    refine rf_round rl rfl ?_
    gi_wp2
    refine ⟨rfl, fun o ho => ?_⟩
    have hs1 := S1.out
    have hkA := kp_putObj A l o
    have hlt := blk_lt hJ.rl
    have tvo := hJ.tv.putObj hJ.rl rfl o
    have hlo : (A.putObj l o).heap[l]? = some o := World.putObj_heap_same hlt
    have hDo : (A.putObj l o).heap[w2.heap.size]? = some (.deferred (some [])) := (World.putObj_heap_other (by omega)).trans hJ.rD
    have hkp := hJ.kp
    obtain ⟨a9, c9, hb9c, h9o, h9d⟩ := hJ.bx
    have h9o2 := own_putObj h9o hJ.rl rfl o
    have hb9c2 : (A.putObj l o).heap[b9]? = _ := (World.putObj_heap_other (by omega)).trans hb9c
    generalize A.putObj l o = A1 at hkA tvo hlo hDo h9o2 hb9c2 ⊢
    have kA := hkp.trans hkA (fun k hk _ => .inr (by omega))
    have hrowl := rowAt_length (by rw [R3.out.len_, HALL.out] : cs.length = rows * all) hr
    have hrow : IR .i64 A1 (some ⟨g, r * all, none⟩) (rowAt cs all r) := by
      have h1 := (own_rd tvo.2.2.1).drop (r * all)
      rw [Nat.zero_add] at h1
      exact h1.take all
    have q5 : A1.cell? ⟨w.heap.size, 0, none⟩ = some (.int .i64 (i : Int)) := blk_cell (kA.blk (nw_blk NW2.out K1.out) (by omega)) 0
    have b6 := kA.blk (nw_blk NW2.out K6.out) (show ¬ (w.heap.size + 1 = b9 ∨ w2.heap.size ≤ w.heap.size + 1) by omega)
    have q6 := blk_cell b6 0
    have q6f := blk_frozen b6 0
    have q7 : A1.cell? ⟨w1.heap.size, 0, none⟩ = some (.int .i64 (one : Int)) := blk_cell (kA.blk K7.out (by omega)) 0
    have hr3 := R3.out.p1
    obtain ⟨e0, he0⟩ : ∃ e0 : Nat, i * one = e0 := ⟨_, rfl⟩
    obtain ⟨e1, he1⟩ : ∃ e1 : Nat, (i + 1) * one = e1 := ⟨_, rfl⟩
    obtain ⟨e2, he2⟩ : ∃ e2 : Nat, (i + 2) * one = e2 := ⟨_, rfl⟩
    have h01 : e1 = e0 + one := by rw [← he1, ← he0, Nat.add_mul, Nat.one_mul]
    have h02 : e2 = e1 + one := by rw [← he1, ← he2, Nat.add_mul, Nat.add_mul]; omega
    have he2l : e2 ≤ all := by rw [← he2, ← HALL.out]; exact le_all his
    have he01 : e0 ≤ e1 := by omega
    have he12 : e1 ≤ e2 := by omega
    have he1l : e1 ≤ all := by omega
    have he0n : ¬ all = e0 := by omega
    have he1n : ¬ all = e1 := by omega
    have hal4 : all ≤ 4096 := by have := HALL.out; omega
    have hs4 : (s : Int) ≤ 4096 := by have := R3.out.s_; omega
    have hw1 : IntKind.i64.wrap ((i : Int) + 1) = (i : Int) + 1 := IntWalk.i64_in _ (by omega)
    have hw12 : IntKind.i64.wrap ((i : Int) + 2) = (i : Int) + 2 := IntWalk.i64_in _ (by omega)
    have hw0 : IntKind.i64.wrap ((i : Int) * (one : Int)) = (e0 : Int) := by
      rw [show (i : Int) * (one : Int) = ((e0 : Nat) : Int) by rw [← he0]; simp]
      exact IntWalk.i64_in _ (by omega)
    have hw2 : IntKind.i64.wrap (((i : Int) + 1) * (one : Int)) = (e1 : Int) := by
      rw [show ((i : Int) + 1) * (one : Int) = ((e1 : Nat) : Int) by rw [← he1]; simp]
      exact IntWalk.i64_in _ (by omega)
    have hw3 : IntKind.i64.wrap (((i : Int) + 2) * (one : Int)) = (e2 : Int) := by
      rw [show ((i : Int) + 2) * (one : Int) = ((e2 : Nat) : Int) by rw [← he2]; simp]
      exact IntWalk.i64_in _ (by omega)
    have hEq : ∀ q, q = eqB cs one all i r → ∀ W, W = A1.drew → Calls Try.prog 50 #[.slice (some ⟨g, r * all + e0, none⟩) (e1 - e0) (all - e0), .slice (some ⟨g, r * all + e1, none⟩) (e2 - e1) (all - e1)] W fun e w' => e = .returned (.bool q) ∧ ∃ n, w' = W.drewN n := by
      intro q hq W hW
      rw [hq, hW]
      have h1 := hrow.nw (nw_drewN A1 1)
      have h := equalI A1.drew g (r * all + e0) (r * all + e1) (e1 - e0) (e2 - e1) (all - e0) (all - e1) (((rowAt cs all r).drop e0).take one) (((rowAt cs all r).drop e1).take one) (by simp [hrowl]; omega) (by simp [hrowl]; omega) (by omega) (by omega)
        ((h1.drop e0).take one) ((h1.drop e1).take one)
      simp only [eqB, he0, he1]
      exact h
    have HEQ := Lib.hid hEq
    have HE0 := Lib.hid he0; have HE1 := Lib.hid he1; have HE2 := Lib.hid he2; have HROW := Lib.hid hrow; have HROWL := Lib.hid hrowl
    have HB9 := Lib.hid hb9c2; have H9O := Lib.hid h9o2; have H9D := Lib.hid h9d; have TVO := Lib.hid tvo; have HLO := Lib.hid hlo; have HDO := Lib.hid hDo; have HKP := Lib.hid hkp; have HKA := Lib.hid hkA; have KA := Lib.hid kA; have HO := Lib.hid ho; have RL := Lib.hid rl; have HEQR := Lib.hid heq; have B6 := Lib.hid b6
    have hl1 := blk_lt hlo; have hl2 := blk_lt hDo; have hl9 := blk_lt hb9c2; have hl6 := blk_lt b6
    clear he0 he1 he2 hrow hrowl hEq hb9c2 h9o h9o2 h9d tvo hlo hDo hkp hkA kA ho rl hJ hb9c heq b6 hs1 h01 h02
    cases hEB : eqB cs one all i r with
    | false =>
      have heq := Lib.hid (HEQ.out false hEB.symm); clear HEQ
      refine wpIn_block ?_
      refine wpIn_seq ?_
      refine wpIn_seq ?_
      refine rf_tail 19 (by kernel_rfl) (by kernel_rfl) (by kernel_rfl) (then_out (then_out (inBlock_out (rfPost_out)))) ?_
      simp only [List.take_succ_cons, List.take_zero, List.drop_succ_cons, List.drop_zero]
      repeat still_step
      refine wpStill_nil ?_
      go_wp2_with fail
      refine (heq.out _ rfl).mono ?_; rintro e A2 ⟨rfl, n5, rfl⟩
      have fin : ∀ n W3, W3 = (A1.drewN n).setCell ⟨w.heap.size + 1, 0, none⟩ (.int .i64 1) → W3.heap[l]? = some o ∧ ∀ o', o' = Obj.loop { lp with state := .done, pending := some .ret } →
          SX l w2.heap.size (w.heap.size + 1) w2 lp (W3.putObj l o') := by
        intro n W3 hW3
        have hs1 := S1.out
        have k13 : Kp (fun k => k = w.heap.size + 1) A1 W3 := by rw [hW3]; exact Kp.setCell (S := fun k => k = w.heap.size + 1) (Kp.refl _ A1 |>.drewN n) (p := ⟨w.heap.size + 1, 0, none⟩) (fun _ => rfl) _
        have hl3 := k13.blk HLO.out (show ¬ l = w.heap.size + 1 by omega)
        have hD3 := k13.blk HDO.out (show ¬ w2.heap.size = w.heap.size + 1 by omega)
        have kk := (KA.out.mono (T := fun k => w.heap.size + 1 ≤ k) (fun k hk _ => by omega)).trans k13 (fun k hk _ => by show w.heap.size + 1 ≤ k; omega)
        have c3 : W3.cell? ⟨w.heap.size + 1, 0, none⟩ = some (.int .i64 1) := by rw [hW3]; exact blk_cell (blk_set (w := A1.drewN n) B6.out 0 _) 0
        refine ⟨hl3, fun o' ho' => ⟨by rw [ho']; exact World.putObj_heap_same (blk_lt hl3), (World.putObj_heap_other (by omega)).trans hD3, (kp_putObj W3 l o').cell c3 (show ¬ w.heap.size + 1 = l by omega), kk.trans (kp_putObj W3 l o') (fun k hk _ => by show w.heap.size + 1 ≤ k; omega)⟩⟩
      have FIN := Lib.hid fin; clear fin heq
      go_wp2
      gi_wp2
      have hfin := FIN.out (1 + n5) _ rfl
      refine ⟨?_, ?_⟩
      · rw [HO.out] at hfin; exact hfin.1
      · refine .inr ⟨rfl, ?_, ?_⟩
        · exact hfin.2 _ (by rw [ELP.out, hb9]; rfl)
        · rw [eqR, hEB]; simp
    | true =>
      have heq := Lib.hid (HEQ.out true hEB.symm); clear HEQ
      refine wpIn_block ?_
      refine wpIn_seq ?_
      refine wpIn_seq ?_
      refine rf_tail 19 (by kernel_rfl) (by kernel_rfl) (by kernel_rfl) (then_out (then_out (inBlock_out (rfPost_out)))) ?_
      simp only [List.take_succ_cons, List.take_zero, List.drop_succ_cons, List.drop_zero]
      repeat still_step
      refine wpStill_nil ?_
      go_wp2_with fail
      refine (heq.out _ rfl).mono ?_; rintro e A2 ⟨rfl, n5, hA2⟩
      have n12 : Nw A1 A2 := by rw [hA2]; exact nw_trans (nw_drewN A1 1) (nw_drewN _ n5)
      have s12 : A2.heap.size = A1.heap.size := by rw [hA2]; rfl
      have S12 := Lib.hid s12
      clear hA2 heq s12
      have hrow := HROW.out.nw n12; have h9o := nw_own n12 H9O.out; have hb9c := nw_blk n12 HB9.out
      have tvo := TVO.out.nw n12; have hlo := nw_blk n12 HLO.out; have hDo := nw_blk n12 HDO.out
      have kA := KA.out.trans (kp_of_nw n12 (fun _ => False)) (fun k hk _ => hk.elim)
      have q5 := nw_cell n12 q5; have q7 := nw_cell n12 q7
      have q9 := blk_cell hb9c 0
      have q9f := blk_frozen hb9c 0
      obtain ⟨d2, hd2⟩ : ∃ d2 : Option Addr, (if all = e2 then some ⟨g, r * all, none⟩ else some ⟨g, r * all + e2, none⟩) = d2 := ⟨_, rfl⟩
      obtain ⟨X', hX'⟩ : ∃ X', X' = shrR cs one all i r ++ (rowAt cs all r).take ((i + 1) * one) ++ (rowAt cs all r).drop ((i + 2) * one) := ⟨_, rfl⟩
      have HX' := Lib.hid (show shrR cs one all i (r + 1) = X' by rw [shrR, hX'])
      have hc3 : ∀ W, W = (A2.alloc (Obj.cells #[Value.slice a9 (shrR cs one all i r).length c9, Value.slice (some { block := g, off := r * all }) e1 all, Value.slice (d2) (all - e2) (all - e2)] 30)).drew → _ :=
        fun W hW => concat3 W A2.heap.size 30 a9 (some ⟨g, r * all, none⟩) d2 c9 all (all - e2) _ e1 (all - e2) (shrR cs one all i r) ((rowAt cs all r).take ((i + 1) * one)) ((rowAt cs all r).drop ((i + 2) * one)) X' hX' rfl
          (by rw [List.length_take, HROWL.out, HE1.out]; omega) (by rw [List.length_drop, HROWL.out, HE2.out]) (by rw [hW]; exact blk_new A2 _)
          (by rw [hW]; exact (own_rd h9o).nw (nw_trans (nw_alloc A2 _) (nw_drewN _ 1)))
          (by rw [hW]; exact ((hrow.nw (nw_trans (nw_alloc A2 _) (nw_drewN _ 1))).take _))
          (by rw [hW, HE2.out, ← hd2]; exact IR_if (hrow.nw (nw_trans (nw_alloc A2 _) (nw_drewN _ 1))) HROWL.out)
          (fun e => by subst e; exact own_none h9o) (fun e => by cases e) (fun e => by rw [← hd2] at e; split at e <;> cases e)
          (by have hg := shrR_length R3.out (i := i) his (r + 1) hr
              rw [HALL.out, shrR, ← hX'] at hg; rw [hg]
              have h4 : (r + 1) * (one * (s - 1)) ≤ rows * (one * s) := Nat.mul_le_mul hr (Nat.mul_le_mul_left _ (by omega))
              rw [← R3.out.len_] at h4
              omega)
      have HC3 := Lib.hid hc3
      clear HROW H9O HB9 TVO HLO HDO KA HKP HKA B6 q6 q6f
      have H9O := Lib.hid h9o; have HB9 := Lib.hid hb9c; have TVO := Lib.hid tvo; have HLO := Lib.hid hlo; have HDO := Lib.hid hDo; have KA := Lib.hid kA
      clear hX' hc3 hrow h9o hb9c tvo hlo hDo kA n12
      go_wp2
      gi_wp2
      refine rf_tail 13 (by kernel_rfl) (by kernel_rfl) (by kernel_rfl) (inBlock_out (rfPost_out)) ?_
      simp only [List.take_succ_cons, List.take_zero, List.drop_succ_cons, List.drop_zero]
      repeat still_step
      refine wpStill_nil ?_
      go_wp2_with fail
      refine (HC3.out _ rfl).mono ?_; rintro e w4 ⟨a4, c4, rfl, h4o, h4d, h4n⟩
      have H4O := Lib.hid h4o; have H4D := Lib.hid h4d; have H4N := Lib.hid h4n
      clear h4o h4d h4n HC3
      have n4 : Nw A2 w4 := nw_trans (nw_trans (nw_alloc A2 _) (nw_drewN _ 1)) H4N.out
      have hb94 := nw_blk n4 HB9.out
      have q9f4 := blk_frozen hb94 0
      have q94 := blk_cell hb94 0
      have H94 := Lib.hid hb94; have N4 := Lib.hid n4
      clear hb94 n4 q9 q9f q5 q7
      have s12 := S12.out
      have hl1 := blk_lt HLO.out; have hl2 := blk_lt HDO.out; have hl9 := blk_lt HB9.out
      have fin : ∀ W3, W3 = w4.setCell ⟨b9, 0, none⟩ (.slice a4 X'.length c4) → W3.heap[l]? = some o ∧ ∀ o', o' = Obj.loop lp →
          GJ b sz cs (.slice (some ⟨bz, 0, none⟩) sz.length zc) (.slice (some ⟨g, 0, none⟩) cs.length cc) b9 l w2.heap.size w2 lp X' (W3.putObj l o') := by
        intro W3 hW3
        have hs1 := S1.out
        have k43 : Kp (fun k => k = b9) w4 W3 := by rw [hW3]; exact Kp.setCell (S := fun k => k = b9) (Kp.refl _ w4) (p := ⟨b9, 0, none⟩) (fun _ => rfl) _
        have k13 : Kp (fun k => k = b9) A2 W3 := (kp_of_nw N4.out _).trans k43 (fun k hk _ => hk)
        have hl3 := k13.blk HLO.out (show ¬ l = b9 by omega)
        have hD3 := k13.blk HDO.out (show ¬ w2.heap.size = b9 by omega)
        have tv3 : TwoV 77 W3 b sz cs (.slice (some ⟨bz, 0, none⟩) sz.length zc) (.slice (some ⟨g, 0, none⟩) cs.length cc) :=
          TVO.out.kp k13 (by omega) (fun k hk => by have e1 : bz = k := by injection hk
                                                    omega) (fun k hk => by have e1 : g = k := by injection hk
                                                                           omega)
        have kk := KA.out.trans k13 (fun k hk _ => .inl hk)
        have o3 : W3.ownsRow 0 3 1 (.slice a4 X'.length c4) X'.length (iv .i64 X') := by
          rw [hW3]
          refine own_set H4O.out (fun e => ?_) _
          rcases a4 with _ | d
          · cases e
          · have e1 : d.block = b9 := by injection e
            have e2 := H4D.out d rfl
            simp only [World.size_alloc, World.drew_is_drewN, World.heap_drewN] at e2
            omega
        refine ⟨hl3, fun o' ho' => ⟨tv3.putObj hl3 (by rw [HO.out]; rfl) o', kk.trans (kp_putObj W3 l o') (fun k hk _ => .inr (by omega)), by rw [ho']; exact World.putObj_heap_same (blk_lt hl3), (World.putObj_heap_other (by omega)).trans hD3, a4, c4, ?_, own_putObj o3 hl3 (by rw [HO.out]; rfl) o', ?_⟩⟩
        · rw [World.putObj_heap_other (by omega), hW3]
          exact blk_set H94.out 0 _
        · intro d hd
          have e2 := H4D.out d hd
          simp only [World.size_alloc, World.drew_is_drewN, World.heap_drewN] at e2
          omega
      have FIN := Lib.hid fin
      clear fin
      go_wp2
      have hfin := FIN.out _ rfl
      refine ⟨?_, ?_⟩
      · rw [HO.out] at hfin; exact hfin.1
      · refine .inl ⟨rfl, ?_, ?_⟩
        · rw [HX'.out]; exact hfin.2 _ (by rw [ELP.out, hb9])
        · rw [eqR, HEQR.out, hEB]; rfl
end Go.Proofs.Ytbofjdckmkifaaa

/-! ## The walks of the slab's Grow and Shrink on a slab that is none. No condition. -/
namespace Go.Proofs.Ytbofjdckmkifaaa
open Go.RowKit Go.Shelf

set_option maxRecDepth 100000 in
set_option maxHeartbeats 1000000 in
theorem growP_nil (w : World) (at_ i : Int) :
    Calls Try.prog 17 #[.pointer none, .int .i64 at_, .int .i64 i] w fun e w' => e = .returned (.int .i64 1) ∧ Nw w w' := by
  refine rf_calls 3 Try.func17 rfl ?_
  simp only [Try.ntmps17, List.size_toArray, List.length_cons, List.length_nil, Nat.reduceAdd, Nat.reduceSub, Array.replicate_succ, Array.replicate_zero, List.push_toArray, List.append_toArray, List.nil_append, List.cons_append]
  go_wp2
  go_quiet (fail)
  go_wp2
  exact rf_leave0 rfl (results_tmp rfl _ _ _) ⟨rfl, nw_trans (nw_alloc _ _) (nw_drewN _ _)⟩

set_option maxRecDepth 100000 in
set_option maxHeartbeats 1000000 in
theorem shrinkP_nil (w : World) (at_ i : Int) :
    Calls Try.prog 19 #[.pointer none, .int .i64 at_, .int .i64 i] w fun e w' => e = .returned (.int .i64 1) ∧ Nw w w' := by
  refine rf_calls 3 Try.func19 rfl ?_
  simp only [Try.ntmps19, List.size_toArray, List.length_cons, List.length_nil, Nat.reduceAdd, Nat.reduceSub, Array.replicate_succ, Array.replicate_zero, List.push_toArray, List.append_toArray, List.nil_append, List.cons_append]
  go_wp2
  go_quiet (fail)
  go_wp2
  have hend := box2_end w (.cells #[.int .i64 i] 3) (.int .i64 0) 24 nq (.int .i64 1)
  exact rf_leave0 rfl (results_cell1 rfl _ _ _ _ _ rfl rfl Try.underlying24 hend.2) ⟨rfl, hend.1⟩
end Go.Proofs.Ytbofjdckmkifaaa

/-! ## A map[int]bool of one's own as a set of numbers. Condition: what is in it is at most a million. -/
namespace Go.Proofs.Ytbofjdckmkifaaa
open Go.RowKit Go.Maps

theorem keyI : Keyed Try.prog 3 := int_keyed Try.underlying3
theorem plain_bool_inv {H : Type} {P : Program} {e : TypeId} (he : P.underlying e = some .bool) {v : Value} {z : DataW H × List MemPlace} (h : plainElem P e v = some z) : ∃ x, v = .bool x ∧ z = (.lit (.bool x), []) := by
  unfold plainElem at h
  rw [he] at h
  cases v <;> simp at h
  exact ⟨_, rfl, h.symm⟩

/-- block b of W is the set S -/
def BS (W : World) (b : Nat) (S : List Int) : Prop := ∃ (D : DataW Unit) (n : Nat), W.ownsMap Try.prog 3 (plainElem Try.prog 4) b n D ∧ n ≤ S.length ∧
  ∀ x : Int, D.atKey (.int .i64 x) (.lit (.bool false)) = .lit (.bool (decide (x ∈ S)))
theorem BS.made (w : World) : BS (w.alloc (.map #[] 0)) w.heap.size [] :=
  ⟨.map [], 0, World.ownsMap_made w _ _ _, Nat.le_refl _, fun x => by simp [DataW.atKey]⟩
theorem BS.lt {W : World} {b : Nat} {S : List Int} (h : BS W b S) : b < W.heap.size := by
  obtain ⟨D, n, h, _⟩ := h; exact h.lt
theorem BS.heap {W W' : World} {b : Nat} {S : List Int} (h : BS W b S) (hb : W'.heap[b]? = W.heap[b]?) : BS W' b S := by
  obtain ⟨D, n, ⟨es, clock, h1, h2⟩, hr⟩ := h
  exact ⟨D, n, ⟨es, clock, hb.trans h1, h2⟩, hr⟩
theorem BS.kp {T : Nat → Prop} {W W' : World} {b : Nat} {S : List Int} (h : BS W b S) (hk : Kp T W W') (hb : ¬ T b) : BS W' b S := h.heap (hk.block b h.lt hb)
theorem BS.nc {W : World} {b : Nat} {S : List Int} (h : BS W b S) {cs : Array Value} {t : TypeId} {f : Nat × Nat} : W.heap[b]? ≠ some (.cells cs t f) := by
  obtain ⟨D, n, ⟨es, clock, h1, h2⟩, hr⟩ := h
  rw [h1]; intro e; cases e
theorem BS.look {W : World} {b : Nat} {S : List Int} (h : BS W b S) (x : Int) (hx : (Lit.int .i64 x).wf = true) :
    (Instr.lookup 90 (.map (some b)) (.int .i64 x) false).run Try.prog W = .ok (.bool (decide (x ∈ S))) W := by
  obtain ⟨D, n, h, _, ha⟩ := h
  obtain ⟨v, ps, hrun, hv⟩ := h.lookup keyI Try.underlying90 (z := .bool false) (by kernel_rfl) (zd := .lit (.bool false)) (zp := []) (plainElem_bool Try.underlying4 false) (keyOf_int_mk Try.underlying3 hx)
  obtain ⟨y, rfl, hy⟩ := plain_bool_inv Try.underlying4 hv
  rw [ha x] at hy
  simp at hy
  rw [hrun, ← hy.1]
theorem BS.put {W : World} {b : Nat} {S : List Int} (h : BS W b S) (x : Int) (hx : (Lit.int .i64 x).wf = true) (hS : S.length ≤ 1000000) :
    ∃ W', (Instr.mapUpdate 90 (.map (some b)) (.int .i64 x) (.bool true)).run Try.prog W = .ok () W' ∧ BS W' b (S ++ [x]) ∧ Kp (fun k => k = b) W W' := by
  obtain ⟨D, n, h, hn, ha⟩ := h
  obtain ⟨W', hrun, h2, hg⟩ := h.update keyI Try.underlying90 (Nat.lt_of_le_of_lt (Nat.le_trans hn hS) (by decide)) (keyOf_int_mk Try.underlying3 hx) (plainElem_bool Try.underlying4 true)
  refine ⟨W', hrun, ⟨_, n + 1, h2, by simp; exact hn, fun y => ?_⟩, (kp_of_grown hg).mono (fun k hk _ => by cases hk; rfl)⟩
  by_cases e : y = x
  · subst e
    rw [atKey_put_same h.isMap (by simp [WideAt.IsKeyLit])]; simp
  · rw [atKey_put_other (by simp; exact e), ha]
    simp [e]
end Go.Proofs.Ytbofjdckmkifaaa

/-! ## What has been seen among some cells, as plain lists. No condition. -/
namespace Go.Proofs.Ytbofjdckmkifaaa
def seenBy (cs : List Int) (pre : List Nat) : List Int := pre.foldl (fun X p => if rd cs p ∈ X then X else X ++ [rd cs p]) []
theorem seenBy_old {cs : List Int} {pre : List Nat} {p : Nat} (h : rd cs p ∈ seenBy cs pre) : seenBy cs (pre ++ [p]) = seenBy cs pre := by
  unfold seenBy at *; rw [List.foldl_append]; simp only [List.foldl_cons, List.foldl_nil]; rw [if_pos h]
theorem seenBy_new {cs : List Int} {pre : List Nat} {p : Nat} (h : rd cs p ∉ seenBy cs pre) : seenBy cs (pre ++ [p]) = seenBy cs pre ++ [rd cs p] := by
  unfold seenBy at *; rw [List.foldl_append]; simp only [List.foldl_cons, List.foldl_nil]; rw [if_neg h]
theorem seenBy_hits (sz cs low high : List Int) : ∀ k, seenBy cs (hits sz low high k) = seenT sz cs low high k
  | 0 => by simp [hits, seenBy, seenT]
  | k + 1 => by
    have ih := seenBy_hits sz cs low high k
    cases hh : hitB sz low high k with
    | false =>
      rw [seenT_miss hh, ← ih, hits_skip (Nat.le_succ k) (fun r h1 h2 => by have : r = k := by omega
                                                                            subst this; exact hh)]
    | true =>
      rw [hits_hit hh]
      by_cases hm : rd cs k ∈ seenT sz cs low high k
      · rw [seenT_old hm, seenBy_old (by rw [ih]; exact hm), ih]
      · rw [seenT_new hh hm, seenBy_new (by rw [ih]; exact hm), ih]
theorem seenBy_len (sz cs low high : List Int) (k : Nat) : (seenBy cs (hits sz low high k)).length ≤ k := by
  rw [seenBy_hits]; exact seenT_len _ _ _ _ _
end Go.Proofs.Ytbofjdckmkifaaa

/-! ## The walk of the slab's Seen. Conditions: the slab is one that may be; its contents are numbers of 64 bits. -/
namespace Go.Proofs.Ytbofjdckmkifaaa
open Go.RowKit Go.Shelf
attribute [local go_sem] Oper.semAt_some

set_option maxRecDepth 100000 in
set_option maxHeartbeats 2000000 in
theorem seenP_nil (w : World) (al ah : Option Addr) (nl cl nh ch : Nat) :
    Calls Try.prog 27 #[.pointer none, .slice al nl cl, .slice ah nh ch] w fun e w' => e = .returned (.tuple #[.slice none 0 0, .int .i64 1]) ∧ Nw w w' := by
  refine rf_calls 3 Try.func27 rfl ?_
  simp only [Try.ntmps27, List.size_toArray, List.length_cons, List.length_nil, Nat.reduceAdd, Nat.reduceSub, Array.replicate_succ, Array.replicate_zero, List.push_toArray, List.append_toArray, List.nil_append, List.cons_append]
  go_wp2_with fail
  refine (placesP_nil _ _ _ _ _ _ _).mono ?_; rintro e w1 ⟨rfl, hn⟩
  have HN := Lib.hid hn; clear hn
  go_wp2
  refine rf_leave0 rfl (results_tmp2 rfl _ _ _) ⟨rfl, ?_⟩
  exact nw_trans (nw_alloc _ _) HN.out

set_option maxRecDepth 100000 in
set_option maxHeartbeats 2000000 in
theorem seenP_no (F : Nat → Prop) (w : World) (b : Nat) (sz cs low high : List Int) (al ah : Option Addr) (cl ch : Nat) (hwf : Wf sz cs) (h : Two 77 F w b sz cs) (r1 : IR .i64 w al low) (r2 : IR .i64 w ah high) (hm : mayB sz low high = false) :
    Calls Try.prog 27 #[.pointer (some ⟨b, 0, none⟩), .slice al low.length cl, .slice ah high.length ch] w fun e w' => e = .returned (.tuple #[.slice none 0 0, .int .i64 1]) ∧ Nw w w' := by
  have hp := Lib.hid (fun (W : World) (hn : Nw w W) => placesP_no F W b sz cs low high al ah cl ch hwf (h.nw hn) (r1.nw hn) (r2.nw hn) hm)
  clear hwf h r1 r2 hm
  refine rf_calls 3 Try.func27 rfl ?_
  simp only [Try.ntmps27, List.size_toArray, List.length_cons, List.length_nil, Nat.reduceAdd, Nat.reduceSub, Array.replicate_succ, Array.replicate_zero, List.push_toArray, List.append_toArray, List.nil_append, List.cons_append]
  go_wp2_with fail
  refine (hp.out _ (nw_alloc _ _)).mono ?_; rintro e w1 ⟨rfl, hn⟩
  have HN := Lib.hid hn; clear hn
  go_wp2
  refine rf_leave0 rfl (results_tmp2 rfl _ _ _) ⟨rfl, ?_⟩
  exact nw_trans (nw_alloc _ _) HN.out

/-- what stands between two rounds of Seen -/
structure SJ (b : Nat) (sz cs : List Int) (vs vc : Value) (bx mb l D B0 : Nat) (w1 : World) (lp : Loop) (m : Nat) (X : List Int) (W : World) : Prop where
  tv : TwoV 77 W b sz cs vs vc
  kp : Kp (fun k => k = bx ∨ k = mb ∨ w1.heap.size ≤ k) w1 W
  rl : W.heap[l]? = some (.loop lp)
  rD : W.heap[D]? = some (.deferred (some []))
  hm : B0 ≤ m
  own : ∃ a c, W.heap[bx]? = some (.cells #[.slice a X.length c] 30 (0, 0)) ∧ W.ownsRow 0 3 1 (.slice a X.length c) X.length (iv .i64 X) ∧ (∀ d, a = some d → m < d.block)
  set : BS W mb X

set_option maxRecDepth 100000 in
set_option maxHeartbeats 2000000 in
theorem seenP_yes (F : Nat → Prop) (w : World) (b : Nat) (sz cs low high : List Int) (al ah : Option Addr) (cl ch : Nat) (hwf : Wf sz cs) (hcs : ∀ k, k < cs.length → (Lit.int .i64 (rd cs k)).wf = true) (h : Two 77 F w b sz cs) (r1 : IR .i64 w al low) (r2 : IR .i64 w ah high)
    (hm : mayB sz low high = true) :
    Calls Try.prog 27 #[.pointer (some ⟨b, 0, none⟩), .slice al low.length cl, .slice ah high.length ch] w fun e w' =>
      ∃ a c, e = .returned (.tuple #[.slice a (seenT sz cs low high cs.length).length c, .int .i64 0]) ∧ w'.ownsRow 0 3 1 (.slice a (seenT sz cs low high cs.length).length c) (seenT sz cs low high cs.length).length (iv .i64 (seenT sz cs low high cs.length)) ∧
        (∀ d, a = some d → w.heap.size ≤ d.block) ∧ Nw w w' := by
  have hp := Lib.hid (fun (W : World) (hn : Nw w W) => placesP_yes F W b sz cs low high al ah cl ch hwf (h.nw hn) (r1.nw hn) (r2.nw hn) hm)
  obtain ⟨vs, vc, ht, hFb, hFs, hFc⟩ := h
  obtain ⟨ac, cc, rfl, hcc, hcm, hcr, hcb⟩ := own_IR ht.2.2.1
  obtain ⟨g, og, rfl, -⟩ := IR_some hcr (by have := hwf.pos'; omega)
  obtain ⟨-, hg0, -, -, hgl⟩ := hcb _ rfl
  simp only at hg0 hgl
  subst hg0
  have hT := Lib.hid ht; have HWF := Lib.hid hwf; have R1 := Lib.hid r1; have R2 := Lib.hid r2; have HM := Lib.hid hm; have HFB := Lib.hid hFb; have HFS := Lib.hid hFs; have HFC := Lib.hid hFc; have HCS := Lib.hid hcs
  clear ht hwf r1 r2 hm hFb hFs hFc hcr hcb hcs
  refine rf_calls 3 Try.func27 rfl ?_
  simp only [Try.ntmps27, List.size_toArray, List.length_cons, List.length_nil, Nat.reduceAdd, Nat.reduceSub, Array.replicate_succ, Array.replicate_zero, List.push_toArray, List.append_toArray, List.nil_append, List.cons_append]
  go_wp2_with fail
  refine (hp.out _ (nw_alloc _ _)).mono ?_; rintro e w1 ⟨bs, rfl, hbs, h1, h2, h3, h4, hn⟩
  simp at hbs
  have hn' := nw_trans (nw_alloc w (.cells #[.pointer (some ⟨b, 0, none⟩)] 23)) hn
  have k1 : w1.heap[w.heap.size]? = some (.cells #[.pointer (some ⟨b, 0, none⟩)] 23 (0, 0)) := nw_blk hn (by simp only [heap_alloc_if]; repeat (first | rw [if_pos trivial] | rw [if_pos (by omega)] | rw [if_neg (by omega)]))
  have H1 := Lib.hid h1; have H2 := Lib.hid h2; have H3 := Lib.hid h3; have H4 := Lib.hid h4; have HN := Lib.hid hn'; have K1 := Lib.hid k1
  clear h1 h2 h3 h4 hn hn' k1 hp
  obtain ⟨p0, hp0, hp0N, hc0, hh0, hhits0⟩ := first_hit HWF.out HM.out
  have hpv : placeV sz low = (p0 : Int) := by
    have := may_facts HM.out
    rw [← hp0, placeV, if_pos (by have h := HM.out; simp [mayB] at h; exact h.1.1), this.1]
  rw [hpv] at H4
  have HP0 := Lib.hid hp0
  clear hp0 hp0N hc0 hh0 hhits0 hpv
  have hmk : ∀ W : World, (Instr.makeMap 90 none).run Try.prog W = .ok (.map (some W.heap.size)) (W.alloc (.map #[] 0)) := fun W => rfl
  go_wp2
  clear hmk
  obtain ⟨w2, hw2⟩ : ∃ w2, ((w1.alloc (.cells #[.slice none 0 0] 30)).alloc (.map #[] 0)).alloc (.cells #[.map (some (w1.heap.size + 1))] 90) = w2 := ⟨_, rfl⟩
  rw [hw2]
  have n2 : Nw w1 w2 := by rw [← hw2]; exact nw_trans (nw_trans (nw_alloc _ _) (nw_alloc _ _)) (nw_alloc _ _)
  have s2 : w2.heap.size = w1.heap.size + 3 := by rw [← hw2]; simp
  have kx : w2.heap[w1.heap.size]? = some (.cells #[.slice none 0 0] 30 (0, 0)) := by rw [← hw2]; simp only [heap_alloc_if, World.size_alloc]; repeat (first | rw [if_pos trivial] | rw [if_pos (by omega)] | rw [if_neg (by omega)])
  have km : w2.heap[w1.heap.size + 2]? = some (.cells #[.map (some (w1.heap.size + 1))] 90 (0, 0)) := by rw [← hw2]; simp only [heap_alloc_if, World.size_alloc]; repeat (first | rw [if_pos trivial] | rw [if_pos (by omega)] | rw [if_neg (by omega)])
  have hbs0 : BS w2 (w1.heap.size + 1) [] := by
    have h := BS.made (w1.alloc (.cells #[.slice none 0 0] 30))
    rw [World.size_alloc] at h
    rw [← hw2]; exact h.kp (kp_of_nw (nw_alloc _ _) (fun _ => False)) (fun h => h)
  have HBS0 := Lib.hid hbs0; have KX := Lib.hid kx; have KM := Lib.hid km; have N2 := Lib.hid n2; have S2 := Lib.hid s2
  clear hbs0 kx km n2 s2 hw2
  refine (wpIn_wide (n := 3)).1 (rf_enter (gf := 73) rfl (enters_of Try.func73 (by kernel_rfl) rfl) ?_)
  intro fn W1 hn1 hs1 hl hD
  obtain ⟨lp, hlp⟩ : ∃ lp, W1.heap[w2.heap.size + 1]? = some (.loop lp) := ⟨_, hl⟩
  have elp := Obj.loop.inj (Option.some.inj (hlp.symm.trans hl))
  have ELP := Lib.hid elp; clear elp hl
  have hl := hlp; clear hlp
  have hs0 := HN.out.size
  have hbl := blk_lt hT.out.1
  have hbsl := blk_lt H1.out
  have hbsl3 := blk_lt H4.out
  have hbsl1 := blk_lt H2.out
  have hbsl2 := blk_lt H3.out
  have hgl1 : g < w.heap.size := hgl
  have T1 := ((hT.out.nw HN.out).nw N2.out).nw hn1
  have HT1 := Lib.hid T1; have HL := Lib.hid hl; have HD := Lib.hid hD; have HN1 := Lib.hid hn1; have HS1 := Lib.hid hs1
  clear T1 hl hD hn1 hs1
  have env : ∀ A, TwoV 77 A b sz cs vs (.slice (some ⟨g, 0, none⟩) cs.length cc) → Kp (fun k => k = w1.heap.size ∨ k = w1.heap.size + 1 ∨ w2.heap.size ≤ k) w2 A → PEnv F sz low high cs.length al ah cl ch (bs + 1) (bs + 2) bs b A := by
    intro A tv kp
    have hs2 := S2.out
    have kp0 : Kp (fun k => w1.heap.size ≤ k) w1 A := (kp_of_nw N2.out _).trans kp (fun k hk hlt => by omega)
    refine ⟨kp0.blk H2.out (by omega), kp0.blk H3.out (by omega), kp0.blk H1.out (by omega), ?_, ?_, cs, ⟨_, _, tv, HFB.out, HFS.out, fun k hk => HFC.out k hk⟩, HWF.out, rfl⟩
    · refine (R1.out.nw HN.out).kp kp0 (fun d hd => ?_)
      intro e
      by_cases h0 : 0 < low.length
      · have := R1.out.lt h0 hd; omega
      · have := (may_facts HM.out).1; have := HWF.out.lo; omega
    · refine (R2.out.nw HN.out).kp kp0 (fun d hd => ?_)
      intro e
      by_cases h0 : 0 < high.length
      · have := R2.out.lt h0 hd; omega
      · have := (may_facts HM.out).2.1; have := HWF.out.lo; omega
  have ENV := Lib.hid env; clear env
  refine callsIn_wide.2 ((placesIt 1 F sz low high cs.length al ah cl ch (bs + 1) (bs + 3) (bs + 2) bs b (w2.heap.size + 1) p0 HM.out HP0.out
    (fun m pre => SJ b sz cs vs (.slice (some ⟨g, 0, none⟩) cs.length cc) w1.heap.size (w1.heap.size + 1) (w2.heap.size + 1) w2.heap.size W1.heap.size w2 lp m (seenBy cs pre)) (fun m pre A hJ => ENV.out A hJ.tv hJ.kp) ?hab W1 ?hE ?hbf ?h0 ?hy).mono ?hfin)
  case hab =>
    intro m pre A B hJ hk
    have h1 := hJ.hm
    have h2 := blk_lt hJ.rl
    have h3 := HS1.out
    have h4 := S2.out
    obtain ⟨a9, c9, hx, ho, hd⟩ := hJ.own
    refine ⟨hJ.tv.kp hk (by omega) (fun k hk' e => ?_) (fun k hk' e => ?_), hJ.kp.trans hk (fun b' hb' _ => .inr (.inr (by omega))), hk.blk hJ.rl (by omega), hk.blk hJ.rD (by omega), h1, ⟨a9, c9, hk.blk hx (by omega), hk.own ho (fun k hk' e => ?_), hd⟩, hJ.set.kp hk (by omega)⟩
    · have := own_lt hT.out.2.1 hk'; omega
    · have e1 : g = k := by injection hk'
      omega
    · rcases a9 with _ | d
      · cases hk'
      · have e2 : d.block = k := by injection hk'
        have := hd d rfl; omega
  case hE => exact ENV.out W1 HT1.out (kp_of_nw HN1.out _)
  case hbf => exact nw_blk HN1.out (nw_blk N2.out H4.out)
  case h0 =>
    intro m W' hn hm1 hm2
    have hnn := nw_trans HN1.out hn
    exact ⟨HT1.out.nw hn, kp_of_nw hnn _, nw_blk hn HL.out, nw_blk hn HD.out, hm1, ⟨none, 0, nw_blk hnn KX.out, ⟨by simp [iv, seenBy], .inl ⟨rfl, by simp [seenBy]⟩⟩, fun d hd => by cases hd⟩, HBS0.out.kp (kp_of_nw hnn (fun _ => False)) (fun h => h)⟩
  case hfin =>
    rintro e W2 ⟨⟨v, rfl⟩, m, hJ⟩
    have hl2 := hJ.rl
    rw [ELP.out] at hl2
    refine rf_done hl2 (fun o' => ?_)
    obtain ⟨a9, c9, hx, ho, hd⟩ := hJ.own
    have h3 := HS1.out
    have h4 := S2.out
    have h5 := hJ.hm
    have rD3 : (W2.putObj (w2.heap.size + 1) o').heap[w2.heap.size]? = some (.deferred (some [])) := (World.putObj_heap_other (by omega)).trans hJ.rD
    have kp3 := hJ.kp.trans (kp_putObj W2 (w2.heap.size + 1) o') (fun k hk _ => .inr (.inr (by omega)))
    have o3 := own_putObj ho hJ.rl rfl o'
    have hx3 : (W2.putObj (w2.heap.size + 1) o').heap[w1.heap.size]? = _ := (World.putObj_heap_other (by omega)).trans hx
    rw [seenBy_hits] at o3 hx3
    obtain ⟨Z, hZ⟩ : ∃ Z, seenT sz cs low high cs.length = Z := ⟨_, rfl⟩
    rw [hZ] at o3 hx3
    generalize W2.putObj (w2.heap.size + 1) o' = W3 at rD3 kp3 o3 hx3 ⊢
    have q9 := blk_cell hx3 0
    have O3 := Lib.hid o3; have RD3 := Lib.hid rD3; have KP3 := Lib.hid kp3; have HZ := Lib.hid hZ
    have H5 := Lib.hid h5
    clear o3 rD3 kp3 hx3 hZ hJ hl2 h3 h4 h5 hx ho
    go_wp2
    refine rf_leave rfl RD3.out (results_tmp2 rfl _ _ _) ⟨a9, c9, by rw [HZ.out]; rfl, by rw [HZ.out]; exact own_putObj O3.out RD3.out rfl _, fun d hd' => ?_, ?_⟩
    · have := hd d hd'; have := HS1.out; have := S2.out; have := H5.out; show w.heap.size ≤ d.block; omega
    · have k4 := KP3.out.trans (kp_putObj W3 w2.heap.size (.deferred none)) (fun k hk _ => .inr (.inr (by omega)))
      have k5 : Kp (fun k => w1.heap.size ≤ k) w1 _ := (kp_of_nw N2.out _).trans k4 (fun k hk hlt => by have := S2.out; omega)
      exact Below.trans HN.out (k5.below (B := w.heap.size) (fun k hk => by omega) (by omega))
  case hy =>
    intro m p A hm1 hJ hmA hpN hph
    have HMA := Lib.hid hmA; clear hmA
    have rl := hJ.rl
    rw [ELP.out] at rl
    refine rf_round rl rfl ?_
    gi_wp2
    refine ⟨rfl, fun o ho => ?_⟩
    have h3 := HS1.out
    have h4 := S2.out
    have h5 := hJ.hm
    have hlt := blk_lt hJ.rl
    have hkA := kp_putObj A (w2.heap.size + 1) o
    have tvo := hJ.tv.putObj hJ.rl rfl o
    have hlo : (A.putObj (w2.heap.size + 1) o).heap[w2.heap.size + 1]? = some o := World.putObj_heap_same hlt
    have hDo : (A.putObj (w2.heap.size + 1) o).heap[w2.heap.size]? = some (.deferred (some [])) := (World.putObj_heap_other (by omega)).trans hJ.rD
    have hkp := hJ.kp
    obtain ⟨a9, c9, hx, ho9, hd9⟩ := hJ.own
    have h9o := own_putObj ho9 hJ.rl rfl o
    have hxo : (A.putObj (w2.heap.size + 1) o).heap[w1.heap.size]? = _ := (World.putObj_heap_other (by omega)).trans hx
    have hso := hJ.set.kp hkA (show ¬ w1.heap.size + 1 = w2.heap.size + 1 by omega)
    have hmo : (A.putObj (w2.heap.size + 1) o).heap[m]? = A.heap[m]? := World.putObj_heap_other (by omega)
    have hAs : (A.putObj (w2.heap.size + 1) o).heap.size = A.heap.size := by simp
    generalize A.putObj (w2.heap.size + 1) o = A1 at hkA tvo hlo hDo h9o hxo hso hmo hAs ⊢
    have kA := hkp.trans hkA (fun k hk _ => .inr (.inr (by omega)))
    have q0 : A1.cell? ⟨w.heap.size, 0, none⟩ = some (.pointer (some ⟨b, 0, none⟩)) := blk_cell (kA.blk (nw_blk N2.out K1.out) (by have := blk_lt K1.out; have := HN.out.size; have := hbsl; omega)) 0
    have q1 := tvo.c1
    have q2 := own_cell tvo.2.2.1 (j := p) hpN
    have q3 : A1.cell? ⟨w1.heap.size + 2, 0, none⟩ = some (.map (some (w1.heap.size + 1))) := blk_cell (kA.blk KM.out (by omega)) 0
    have q4 := blk_cell hxo 0
    have hlen := seenBy_len sz cs low high p
    have hm4 := HWF.out.most
    obtain ⟨X, hX⟩ : ∃ X, seenBy cs (hits sz low high p) = X := ⟨_, rfl⟩
    rw [hX] at h9o hxo hso q4 hlen
    obtain ⟨x, hxx⟩ : ∃ x, rd cs p = x := ⟨_, rfl⟩
    have hwx := HCS.out p hpN
    rw [hxx] at q2 hwx
    have hlk := hso.look x hwx
    have q4f := blk_frozen hxo 0
    have hl1 := blk_lt hlo; have hl2 := blk_lt hDo; have hl9 := blk_lt hxo; have hls := hso.lt
    have HMO := Lib.hid hmo; have HAS := Lib.hid hAs; have H9O := Lib.hid h9o; have H9D := Lib.hid hd9; have TVO := Lib.hid tvo; have HLO := Lib.hid hlo; have HDO := Lib.hid hDo; have KA := Lib.hid kA; have HO := Lib.hid ho; have RL := Lib.hid rl; have HXO := Lib.hid hxo; have HSO := Lib.hid hso; have HX := Lib.hid hX; have HXX := Lib.hid hxx; have PH := Lib.hid hph; have HM5 := Lib.hid h5
    have hput := hso.put x hwx (by omega)
    have HPUT := Lib.hid hput
    have fin : ∀ (W3 : World) (X' : List Int) (a' : Option Addr) (c' : Nat), X' = seenBy cs (hits sz low high (p + 1)) → Kp (fun k => k = w1.heap.size ∨ k = w1.heap.size + 1 ∨ m < k) A1 W3 → W3.heap[w1.heap.size]? = some (.cells #[.slice a' X'.length c'] 30 (0, 0)) →
        W3.ownsRow 0 3 1 (.slice a' X'.length c') X'.length (iv .i64 X') → (∀ d, a' = some d → m < d.block) → BS W3 (w1.heap.size + 1) X' →
        W3.heap[w2.heap.size + 1]? = some o ∧ ∀ o', o' = Obj.loop lp →
        (Ending.returned (Value.bool true) = .returned (.bool true) ∧ SJ b sz cs vs (.slice (some ⟨g, 0, none⟩) cs.length cc) w1.heap.size (w1.heap.size + 1) (w2.heap.size + 1) w2.heap.size W1.heap.size w2 lp m (seenBy cs (hits sz low high (p + 1))) (W3.putObj (w2.heap.size + 1) o') ∧ (W3.putObj (w2.heap.size + 1) o').heap[m]? = A.heap[m]?) := by
      intro W3 X' a' c' hX' kk hb' ho' hd' hs'
      rw [← hX']
      have hl3 := kk.blk hlo (by omega)
      have hD3 := kk.blk hDo (by omega)
      have tv3 := tvo.kp kk (by omega) (fun k hk => by have := own_lt hT.out.2.1 hk; omega) (fun k hk => by (have e1 : g = k := by injection hk); omega)
      refine ⟨hl3, fun o' ho2 => ⟨rfl, ⟨tv3.putObj hl3 (by rw [ho]; rfl) o', ?_, by rw [ho2]; exact World.putObj_heap_same (blk_lt hl3), (World.putObj_heap_other (by omega)).trans hD3, h5, ⟨a', c', (World.putObj_heap_other (by omega)).trans hb', own_putObj ho' hl3 (by rw [ho]; rfl) o', hd'⟩, hs'.kp (kp_putObj W3 _ o') (show ¬ w1.heap.size + 1 = w2.heap.size + 1 by omega)⟩, ?_⟩⟩
      · exact (kA.trans kk (fun k hk _ => by omega)).trans (kp_putObj W3 _ o') (fun k hk _ => .inr (.inr (by omega)))
      · exact (World.putObj_heap_other (by omega)).trans ((kk.block m (by have := HMA.out; omega) (by omega)).trans hmo)
    have FIN := Lib.hid fin; clear fin
    have H4 := Lib.hid h4
    clear hmo hAs h9o hd9 tvo hlo hDo hkp hkA kA ho rl hJ hxo hso hX hxx hph h5 hput ho9 hx h3 h4
    by_cases hin : x ∈ X
    · have hlk2 := hlk
      rw [show decide (x ∈ X) = true by simp [hin]] at hlk2
      have hfin := FIN.out A1 X a9 c9 (by rw [hits_hit PH.out, seenBy_old (by rw [HX.out, HXX.out]; exact hin), HX.out]) (Kp.refl _ _) HXO.out H9O.out H9D.out HSO.out
      have HFIN := Lib.hid hfin
      clear hlk hin hfin
      gi_wp2
      have hfin := HFIN.out
      exact ⟨by rw [← HO.out]; exact hfin.1, rfl, (hfin.2 _ (by rw [ELP.out])).2⟩
    · have hlk2 := hlk
      rw [show decide (x ∈ X) = false by simp [hin]] at hlk2
      obtain ⟨A2, hrun, hs2, hk2⟩ := HPUT.out
      have h9 : ∀ k, (Value.slice a9 X.length c9).ownBlock = some k → m < k := fun k hk => by
        rcases a9 with _ | d
        · cases hk
        · have e2 : d.block = k := by injection hk
          have := H9D.out d rfl; omega
      have hml : m < A1.heap.size := by have := HMA.out; have := HAS.out; omega
      have hmb : w1.heap.size + 3 < m := by have := HS1.out; have := H4.out; have := HM5.out; omega
      have o2 := hk2.own H9O.out (fun k hk => by have := h9 k hk; omega)
      obtain ⟨g9, c5, A3, hap, o3, hk3, hg3⟩ := app1run A2 (.slice a9 X.length c9) X x o2 (by omega)
      have b2 := hk2.blk HXO.out (show ¬ w1.heap.size = w1.heap.size + 1 by omega)
      have b3 := hk3.blk b2 (fun hk => by have := h9 _ hk; omega)
      have q42 := blk_cell b2 0
      have q43 := blk_cell b3 0
      have q43f := blk_frozen b3 0
      have hfin := FIN.out (A3.setCell ⟨w1.heap.size, 0, none⟩ (.slice (some ⟨g9, 0, none⟩) (X ++ [x]).length c5)) (X ++ [x]) (some ⟨g9, 0, none⟩) c5 (by rw [hits_hit PH.out, seenBy_new (by rw [HX.out, HXX.out]; exact hin), HX.out, HXX.out])
        (Kp.setCell ((hk2.mono (T := fun k => k = w1.heap.size ∨ k = w1.heap.size + 1 ∨ m < k) (fun k hk _ => .inr (.inl hk))).trans hk3 (fun k hk _ => .inr (.inr (h9 k hk)))) (p := ⟨w1.heap.size, 0, none⟩) (fun _ => .inl rfl) _)
        (blk_set b3 0 _) (own_set o3 (fun e => by
          have e2 : g9 = w1.heap.size := by injection e
          rcases hg3 with hg3 | hg3
          · have := h9 _ hg3; omega
          · have := hk2.size; omega) _)
        (fun d hd => by
          cases hd
          show m < g9
          rcases hg3 with hg3 | hg3
          · exact h9 _ hg3
          · have := hk2.size; omega)
        ((hs2.kp hk3 (fun hk => by have := h9 _ hk; omega)).kp (Kp.setCell (S := fun k => k = w1.heap.size) (Kp.refl _ A3) (p := ⟨w1.heap.size, 0, none⟩) (fun _ => rfl) _) (show ¬ w1.heap.size + 1 = w1.heap.size by omega))
      have HFIN := Lib.hid hfin
      generalize (X ++ [x]).length = nX at *
      clear hlk hin hfin o2 o3 hk2 hk3 hg3 b2 b3 h9 hml hmb hs2
      have HAP := Lib.hid hap; clear hap
      gi_wp2_with (gi_at_builtin; refine wpListIn_append_run rfl (.tmp 40) (.tmp 42) 30 rfl _ _ rfl rfl _ _ HAP.out ?_)
      have hfin := HFIN.out
      exact ⟨by rw [← HO.out]; exact hfin.1, rfl, (hfin.2 _ (by rw [ELP.out])).2⟩
end Go.Proofs.Ytbofjdckmkifaaa

