/-
  The walks of the slab's reference: Fill, Seen. Conditions: the slab is one that may be; the two cells lie outside it.
-/
import Derived.Test.YtbofjdckmkifaaaR13b
import Derived.Test.YtbofjdckmkifaaaApp
namespace Go.Proofs.Ytbofjdckmkifaaa
open Go.RowKit

set_option maxHeartbeats 1000000 in
theorem fill13 (F : Nat → Prop) (w : World) (b : Nat) (sz cs low high : List Int) (a1 a2 : Option Addr) (c1 c2 : Nat) (n : Int) (hwf : Wf sz cs) (h : Two 32 F w b sz cs)
    (r1 : IR .i64 w a1 low) (r2 : IR .i64 w a2 high) (d1 : 0 < low.length → ∀ d, a1 = some d → ¬ F d.block) (d2 : 0 < high.length → ∀ d, a2 = some d → ¬ F d.block) :
    Calls Try.prog 22 #[.pointer (some ⟨b, 0, none⟩), .slice a1 low.length c1, .slice a2 high.length c2, .int .i64 n] w fun e w' =>
      e = .returned (.int .i64 (if mayB sz low high then 0 else 1)) ∧ Two 32 F w' b sz (if mayB sz low high then fillL sz cs low high n else cs) ∧ Kp F w w' := by
  have hm := Lib.hid (may13 F w b sz cs low high a1 a2 c1 c2 hwf h r1 r2)
  by_cases e1 : mayB sz low high = true
  · rw [e1] at hm
    simp only [e1, if_true]
    have hl : low.length = sz.length ∧ high.length = sz.length := by simp [mayB, isCell] at e1; omega
    obtain ⟨vs, vc, ht, hFb, hFs, hFc⟩ := h
    have hc := ht.2.2.1
    obtain ⟨az, zc, rfl, hzc, hzm, hz, hzb⟩ := own_IR hc
    obtain ⟨g, oz, rfl, -⟩ := IR_some hz (by have := hwf.pos'; omega)
    obtain ⟨-, h0, hg, -, hglt⟩ := hzb _ rfl
    simp only at h0 hglt
    subst h0
    have hs := ht.2.1
    obtain ⟨asz, sc, rfl, hsc, hsm, hsz, hsb⟩ := own_IR hs
    have hgF : F g := hFc g rfl
    have hlo := hwf.lo; have hhi := hwf.hi; have hmost := hwf.most
    have d1 := d1 (by omega); have d2 := d2 (by omega)
    have hwt : ∀ k, k < sz.length → 1 ≤ rd sz k ∧ rd sz k ≤ 4096 := fun k hk => hwf.size_le hk
    have q0 := ht.c0; have q1 := ht.c1
    have T0 := Lib.hid ht; have HL := Lib.hid hl; have HW := Lib.hid hwt; have E1 := Lib.hid e1
    have HF1 := Lib.hid hFb; have HF2 := Lib.hid hFs; have HF3 := Lib.hid hFc; have HF4 := Lib.hid hgF
    clear ht hl hc hz hzb hs hsz hsb e1 hwt hFb hFs hFc hgF hg hwf
    go_enter Try.func22, Try.ntmps22
    go_wp2_with fail
    refine hm.out.mono ?_; rintro e w' ⟨rfl, n1, rfl⟩
    clear hm
    go_wp2
    go_loopw [9] (fun i wr => ∃ k : Nat, k ≤ cs.length ∧ i = .int .i64 k ∧ TwoV 32 wr b sz (fillT sz cs low high n k) (.slice asz sz.length sc) (.slice (some ⟨g, 0, none⟩) cs.length zc) ∧ Kp (fun b => b = g) w wr) (fun i _ => cs.length - (intOf i).toNat)
    case atStart => exact ⟨0, Nat.zero_le _, rfl, by rw [fillT_start]; exact T0.out.nw (nw_drewN _ _), (Kp.refl _ _).drewN _⟩
    case round =>
      clear q0 q1
      obtain ⟨k, hk, rfl, ht, hkp⟩ := hrel
      have q0 := ht.c0; have q1 := ht.c1
      by_cases hlt : k < cs.length
      · have hz : IR .i64 wr asz sz := by obtain ⟨a, c, e, _, _, hi, _⟩ := own_IR ht.2.1; cases e; exact hi
        have hcell := Lib.hid (cell13 wr sz asz sc k (by omega) (by omega) hlo hhi HW.out hz)
        have T1 := Lib.hid ht; have HK := Lib.hid hkp
        clear ht hkp hz
        go_wp2_with fail
        refine hcell.out.mono ?_; rintro e w1 ⟨gc, rfl, hgc, hblk, hnw⟩
        have t1 := T1.out.nw hnw
        have hk1 := HK.out.nwd hnw
        have hn1 : ∀ d, a1 = some d → ¬ (d.block = g) := fun d hd e => d1 d hd (e ▸ HF4.out)
        have hn2 : ∀ d, a2 = some d → ¬ (d.block = g) := fun d hd e => d2 d hd (e ▸ HF4.out)
        have hw := Lib.hid (within13 w1 (cellL sz k) low high (some ⟨gc, 0, none⟩) a1 a2 sz.length c1 c2 (by simp; omega) (by simp; omega) (by simpa using HL.out.1) (by simpa using HL.out.2) (IR_of_blk hblk) (r1.kp hk1 hn1) (r2.kp hk1 hn2))
        rw [cellL_length] at hw
        have p0 := t1.c0; have p1 := t1.c1
        have hval : w1.cell? ⟨g, k, none⟩ = some (.int .i64 (rd (fillT sz cs low high n k) k)) := by
          exact own_cell t1.2.2.1 (by simpa using hlt)
        have hfr : w1.frozen? ⟨g, k, none⟩ = false := own_frozen t1.2.2.1 k
        have T2 := Lib.hid t1; have HK2 := Lib.hid hk1
        clear t1 hk1 hn1 hn2 hblk hnw q0 q1 T1 HK
        cases hh : withinB (cellL sz k) low high sz.length with
        | true =>
          rw [hh] at hw
          go_wp2_with fail
          refine hw.out.mono ?_; rintro e w2 ⟨rfl, n2, rfl⟩
          clear hw
          have HH := Lib.hid hh; clear hh
          go_wp2
          go_roundw
          case rel => exact ⟨k + 1, by omega, by go_num, by rw [← fillT_hit _ _ _ _ _ _ hlt HH.out]; exact (T2.out.nw (nw_drewN _ _)).set1 (by decide) (by simp) k n, (HK2.out.drewN _).setCell (fun _ => rfl) _⟩
          case measure => simp [intOf]; try omega
        | false =>
          rw [hh] at hw
          go_wp2_with fail
          refine hw.out.mono ?_; rintro e w2 ⟨rfl, n2, rfl⟩
          clear hw
          have HH := Lib.hid hh; clear hh
          go_wp2
          go_roundw
          case rel => exact ⟨k + 1, by omega, by go_num, by rw [← fillT_miss _ _ _ _ _ _ HH.out]; exact T2.out.nw (nw_drewN _ _), HK2.out.drewN _⟩
          case measure => simp [intOf]; try omega
      · obtain rfl : k = cs.length := by omega
        have T1 := Lib.hid ht; have HK := Lib.hid hkp
        clear ht hkp
        go_wp2
        go_ret
        exact ⟨rfl, ⟨_, _, T1.out, HF1.out, HF2.out, HF3.out⟩, HK.out.mono (fun b hb _ => hb ▸ HF4.out)⟩
  · have e2 : mayB sz low high = false := by simpa using e1
    rw [e2] at hm
    have T0 := Lib.hid h
    simp only [e2]
    clear e1 e2 h r1 r2 d1 d2 hwf
    go_enter Try.func22, Try.ntmps22
    go_wp2_with fail
    refine hm.out.mono ?_; rintro e w' ⟨rfl, n1, rfl⟩
    clear hm
    go_wp2
    go_ret
    exact ⟨rfl, T0.out.nw (nw_drewN _ _), (Kp.refl _ _).drewN _⟩
end Go.Proofs.Ytbofjdckmkifaaa
