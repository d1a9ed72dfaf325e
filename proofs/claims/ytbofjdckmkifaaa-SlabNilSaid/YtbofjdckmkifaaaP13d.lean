/-
  The walk of the slab's places of a range, as a function that yields them. Conditions: the slab is one that may be, the two cells are a range; what the loop's body does leaves what is read here alone.
-/
import Derived.Test.YtbofjdckmkifaaaP13a
import Derived.Test.YtbofjdckmkifaaaO13
import Derived.Test.YtbofjdckmkifaaaRF
import Derived.Deep.RegionHeld3
import Derived.Deep.DeepCutAuto
namespace Go.Proofs.Ytbofjdckmkifaaa
open Go.RowKit Go.Shelf

/-- what the iterator reads -/
structure PEnv (F : Nat → Prop) (sz low high : List Int) (N : Nat) (al ah : Option Addr) (cl ch bl bh bs b : Nat) (A : World) : Prop where
  el : A.heap[bl]? = some (.cells #[.slice al low.length cl] 30 (0, 0))
  eh : A.heap[bh]? = some (.cells #[.slice ah high.length ch] 30 (0, 0))
  es : A.heap[bs]? = some (.cells #[.pointer (some ⟨b, 0, none⟩)] 23 (0, 0))
  rl : IR .i64 A al low
  rh : IR .i64 A ah high
  two : ∃ cs, Two 77 F A b sz cs ∧ Wf sz cs ∧ cs.length = N

set_option maxRecDepth 100000 in
set_option maxHeartbeats 2000000 in
theorem placesIt (n : Nat) (F : Nat → Prop) (sz low high : List Int) (N : Nat) (al ah : Option Addr) (cl ch bl bf bh bs b l p0 : Nat) (hm : mayB sz low high = true) (hp0 : plc sz low sz.length = p0)
    (J : Nat → List Nat → World → Prop) (hJ : ∀ m pre A, J m pre A → PEnv F sz low high N al ah cl ch bl bh bs b A) (hab : ∀ m pre A B, J m pre A → Kp (fun k => k = m) A B → J m pre B) (W : World)
    (hE : PEnv F sz low high N al ah cl ch bl bh bs b W) (hbf : W.heap[bf]? = some (.cells #[.int .i64 (p0 : Int)] 3 (0, 0)))
    (h0 : ∀ m W', Nw W W' → W.heap.size ≤ m → m < W'.heap.size → J m [] W')
    (hy : ∀ (m : Nat) (p : Nat) (A : World), W.heap.size ≤ m → J m (hits sz low high p) A → m < A.heap.size → p < N → hitB sz low high p = true →
      YieldAt Fence.wide n Try.prog l #[.int .i64 (p : Int)] A fun e B => e = .returned (.bool true) ∧ J m (hits sz low high (p + 1)) B ∧ B.heap[m]? = A.heap[m]?) :
    Calls Try.prog 73 #[.func (.yield l) #[] #[], .pointer (some ⟨bl, 0, none⟩), .pointer (some ⟨bf, 0, none⟩), .pointer (some ⟨bh, 0, none⟩), .pointer (some ⟨bs, 0, none⟩)] W fun e W' =>
      (∃ v, e = .returned v) ∧ ∃ m, J m (hits sz low high N) W' := by
  obtain ⟨l1, l2, o1, o2, hle⟩ := may_facts hm
  obtain ⟨cs, htwo, hwf, hN⟩ := hE.two
  have hlo := hwf.lo; have hhi := hwf.hi
  have c1 : W.cell? ⟨bl, 0, none⟩ = some (.slice al low.length cl) := blk_cell hE.el 0
  have c2 : W.cell? ⟨bf, 0, none⟩ = some (.int .i64 (p0 : Int)) := blk_cell hbf 0
  have hcl := Lib.hid (clone_own W.drew al cl low (by omega) (by omega) (hE.rl.nw ⟨rfl, rfl, rfl, Nat.le_refl _, fun _ _ => rfl⟩))
  rw [l1] at c1 hcl
  have HE := Lib.hid hE; have HL1 := Lib.hid l1; have HL2 := Lib.hid l2; have HO1 := Lib.hid o1; have HO2 := Lib.hid o2; have HLE := Lib.hid hle; have HM := Lib.hid hm; have HP0 := Lib.hid hp0; have hNe := Lib.hid hN; have HWF := Lib.hid hwf
  have HJ := Lib.hid hJ; have HAB := Lib.hid hab; have H0 := Lib.hid h0; have HY := Lib.hid hy
  clear hE htwo hbf l1 l2 o1 o2 hle hm hp0 hN hwf hJ hab h0 hy
  go_enter Try.func73, Try.ntmps73
  go_upto_region 0 with fail
  go_cut [6, 7] (fun s6 s7 wx => ∃ (m c' : Nat), s6 = .slice (some ⟨m, 0, none⟩) sz.length c' ∧ s7 = .int .i64 (p0 : Int) ∧ sz.length ≤ c' ∧ Hid (wx.ownsRow W.heap.size 3 1 (.slice (some ⟨m, 0, none⟩) sz.length c') sz.length (iv .i64 low)) ∧ Hid (Nw W wx))
  case first =>
    go_region_with (go_at_call 54; refine hcl.out.mono ?_; rintro e w1 ⟨m, c', rfl, ho, hc, hn⟩; have c2' := nw_cell hn c2)
    all_goals (go_wp2; go_meet; exact ⟨m, c', rfl, rfl, hc, ho, ⟨hn.os, hn.tape, hn.output, hn.size, hn.block⟩⟩)
  case rest =>
    obtain ⟨m, c', rfl, rfl, hc, HO, HN⟩ := hcut
    clear c1 c2 hcl
    go_wp2
    obtain ⟨p0', e0, hp0N, hc0, hh0, hhits0⟩ := first_hit HWF.out HM.out
    have e0' : p0' = p0 := by have := HP0.out; omega
    subst e0'
    have hsz0 := HN.out.size
    have hml := own_lt HO.out (b := m) rfl
    have hmg := own_ge HO.out (b := m) rfl
    have J0 := H0.out m wc HN.out hmg hml
    rw [← hhits0] at J0
    have HO1' : Hid (wc.ownsRow W.heap.size 3 1 (.slice (some ⟨m, 0, none⟩) sz.length c') sz.length (iv .i64 (cellL sz (p0' : Int)))) := by rw [hc0]; exact HO
    have HH0 := Lib.hid hh0; have J0' := Lib.hid J0
    have hp0N' : p0' < N := by rw [← hNe.out]; exact hp0N
    clear e0 hc0 hh0 hhits0 J0 hp0N HO
    go_loopw [7] (fun s7 wr => ∃ p : Nat, s7 = .int .i64 (p : Int) ∧ p < N ∧ Hid (hitB sz low high p = true) ∧ Hid (J m (hits sz low high p) wr) ∧ Hid (wr.ownsRow W.heap.size 3 1 (.slice (some ⟨m, 0, none⟩) sz.length c') sz.length (iv .i64 (cellL sz (p : Int))))) (fun s7 _ => N - (intOf s7).toNat)
    case atStart => exact ⟨p0', rfl, hp0N', HH0, J0', HO1'⟩
    case round =>
      clear HH0 J0' HO1' hp0N' hml
      obtain ⟨p, rfl, hpN, HH, HJp, HOp⟩ := hrel
      obtain ⟨fn, tmps, assign, body, hyr, hR⟩ := HY.out m p wr hmg HJp.out (own_lt HOp.out (b := m) rfl) hpN HH.out
      have HR := Lib.hid hR; clear hR
      go_upto_region 1 with fail
      refine (wpIn_wide (n := n + 1)).1 ?_
      gi_wp2
      refine HR.out.mono ?_
      rintro e B ⟨rfl, hJ1, hbm⟩
      have HJ1 := Lib.hid hJ1; have HBM := Lib.hid hbm
      clear hJ1 hbm HR hyr
      gi_wp2
      have hOB : B.ownsRow W.heap.size 3 1 (.slice (some ⟨m, 0, none⟩) sz.length c') sz.length (iv .i64 (cellL sz (p : Int))) := own_heap HOp.out HBM.out
      have HOB := Lib.hid hOB
      clear hOB
      go_wp2
      go_loopw [8] (fun s8 wr => ∃ k : Nat, s8 = .int .i64 ((k : Int) - 1) ∧ k ≤ sz.length ∧ (∀ i, k ≤ i → i < sz.length → rd (cellL sz (p : Int)) i = rd high i) ∧ Hid (wr.ownsRow W.heap.size 3 1 (.slice (some ⟨m, 0, none⟩) sz.length c') sz.length (iv .i64 (odo (cellL sz (p : Int)) low k))) ∧ Hid (Kp (fun b => b = m) B wr)) (fun s8 _ => (intOf s8 + 1).toNat)
      case atStart => exact ⟨sz.length, rfl, Nat.le_refl _, fun i h1 h2 => by omega, by have h := HOB.out; rw [show odo (cellL sz (p : Int)) low sz.length = cellL sz (p : Int) by have := odo_all (cellL sz (p : Int)) low; rw [cellL_length] at this; exact this]; exact h, Kp.refl _ _⟩
      case round =>
        obtain ⟨k, rfl, hk, hend, HOk, HKk⟩ := hrel
        have HEND := Lib.hid hend; clear hend
        cases k with
        | zero =>
          go_wp2
          go_quiet (fail)
          go_wp2
          refine bodyPost_ret (results_none rfl _ _ _) rfl ?_
          refine ⟨⟨_, rfl⟩, m, ?_⟩
          have hl := last_hit (low := low) (high := high) HWF.out (p := p) (by rw [hNe.out]; exact hpN) (fun j hj => HEND.out j (Nat.zero_le _) hj)
          rw [hNe.out] at hl
          rw [hl]
          exact HAB.out m _ _ _ (HAB.out m _ B _ HJ1.out HKk.out) ((Kp.refl _ _).drewN _)
        | succ j =>
          have hj : j < sz.length := by omega
          have E := HJ.out m _ _ (HAB.out m _ B _ HJ1.out HKk.out)
          obtain ⟨bh', oh', eah, hrh⟩ := E.rh j (by rw [HL2.out]; exact hj)
          obtain ⟨bl', ol', eal, hrl⟩ := E.rl j (by rw [HL1.out]; exact hj)
          have c3 : wr.cell? ⟨bh, 0, none⟩ = some (.slice (some ⟨bh', oh', none⟩) sz.length ch) := by rw [blk_cell E.eh 0, ← eah, ← HL2.out]; rfl
          have c4 : wr.cell? ⟨m, j, none⟩ = some (.int .i64 (rd (cellL sz (p : Int)) j)) := by
            have := own_cell HOk.out (j := j) (by simpa using hj)
            rw [rd_odo _ _ _ _ (by simpa using hj), if_pos (by omega)] at this; exact this
          by_cases hq : rd (cellL sz (p : Int)) j = rd high j
          · have q1 : (rd (cellL sz (p : Int)) j == rd high j) = true := by simp [hq]
            have c5 : wr.cell? ⟨bl, 0, none⟩ = some (.slice (some ⟨bl', ol', none⟩) sz.length cl) := by rw [blk_cell E.el 0, ← eal, ← HL1.out]; rfl
            have hfr := own_frozen HOk.out j
            have HQ := Lib.hid hq; have EAH := Lib.hid eah; have EAL := Lib.hid eal
            clear hq E eah eal
            go_wp2
            go_quiet (fail)
            go_wp2
            go_roundw
            case rel =>
              refine ⟨j, by go_num, by omega, fun i h1 h2 => ?_, ?_, ?_⟩
              · by_cases e : i = j
                · subst e; exact HQ.out
                · exact HEND.out i (by omega) h2
              · have h := own_store HOk.out j (.int .i64 (rd low j))
                have e : (iv .i64 (odo (cellL sz (p : Int)) low (j + 1))).set j (.int .i64 (rd low j)) = iv .i64 (odo (cellL sz (p : Int)) low j) := by
                  rw [← odo_step (cellL sz (p : Int)) low j (by simpa using hj)]; simp [iv, List.map_set]
                rw [e] at h; exact h
              · exact HKk.out.trans (((Kp.refl (fun b => b = m) _).drewN _).setCell (p := ⟨m, j, none⟩) (fun _ => rfl) _) (fun b hb _ => hb)
            case measure => simp [intOf]; try omega
          · have q1 : (rd (cellL sz (p : Int)) j == rd high j) = false := by simp [hq]
            have hcb := cellL_bd HWF.out.pos (p : Int) hj
            have hsz := HWF.out.size_le hj
            have hfr := own_frozen HOk.out j
            have hst := own_store HOk.out j (.int .i64 (rd (cellL sz (p : Int)) j + 1))
            have e : (iv .i64 (odo (cellL sz (p : Int)) low (j + 1))).set j (.int .i64 (rd (cellL sz (p : Int)) j + 1)) = iv .i64 (nxt (cellL sz (p : Int)) low j) := by simp [nxt, iv, List.map_set]
            rw [e] at hst
            have c6 : wr.cell? ⟨bs, 0, none⟩ = some (.pointer (some ⟨b, 0, none⟩)) := blk_cell E.es 0
            have hmb : ¬ bs = m := fun e => by have := blk_lt HE.out.es; omega
            have hmb' : ¬ m = bs := fun e => by have := blk_lt HE.out.es; omega
            obtain ⟨q, hq1, hqN, hqc, hqh, hqhits, hpq⟩ := next_hit (low := low) (high := high) HWF.out HM.out (p := p) (j := j) (by rw [hNe.out]; exact hpN) HH.out hj (fun i h1 h2 => HEND.out i h1 h2) hq
            have hx1 := hcb.1; have hx2 := hcb.2; have hx3 := hsz.2
            have HST := Lib.hid hst; have HQ1 := Lib.hid hq1; have HQC := Lib.hid hqc; have HQH := Lib.hid hqh; have HQT := Lib.hid hqhits; have EAH := Lib.hid eah
            have hqN' : q < N := by rw [← hNe.out]; exact hqN
            clear hq E eah eal hst e hcb hsz hq1 hqc hqh hqhits hrl hqN
            go_wp2
            go_quiet (fail)
            go_wp2_with fail
            have hk5 : Kp (fun b => b = m) B ((wr.drewN nq).setCell ⟨m, j, none⟩ (.int .i64 (rd (cellL sz (p : Int)) j + 1))) := HKk.out.trans (((Kp.refl (fun b => b = m) _).drewN _).setCell (p := ⟨m, j, none⟩) (fun _ => rfl) _) (fun b hb _ => hb)
            have ho5 : ((wr.drewN nq).setCell ⟨m, j, none⟩ (.int .i64 (rd (cellL sz (p : Int)) j + 1))).ownsRow W.heap.size 3 1 (.slice (some ⟨m, 0, none⟩) sz.length c') sz.length (iv .i64 (nxt (cellL sz (p : Int)) low j)) := HST.out
            generalize (wr.drewN nq).setCell ⟨m, j, none⟩ (.int .i64 (rd (cellL sz (p : Int)) j + 1)) = W5 at hk5 ho5 ⊢
            have J5 := HAB.out m _ B _ HJ1.out hk5
            obtain ⟨cs5, two5, wf5, n5⟩ := (HJ.out m _ _ J5).two
            have hpl := placeP F W5 b sz cs5 (nxt (cellL sz (p : Int)) low j) (some ⟨m, 0, none⟩) c' wf5 two5 (own_rd ho5)
            rw [nxt_length, cellL_length, HQ1.out] at hpl
            have HPL := Lib.hid hpl; have HO5 := Lib.hid ho5; have HJ5 := Lib.hid J5
            clear hpl ho5 J5 two5 wf5 n5 hk5
            refine HPL.out.mono ?_; rintro e w' ⟨rfl, rfl⟩
            go_wp2
            go_roundw
            case rel => exact ⟨q, rfl, hqN', HQH, (by show J m (hits sz low high q) W5; rw [HQT.out]; exact HJ5.out), (by show W5.ownsRow _ _ _ _ _ _; rw [HQC.out]; exact HO5.out)⟩
            case measure => simp [intOf]; try omega
end Go.Proofs.Ytbofjdckmkifaaa
