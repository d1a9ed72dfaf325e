/-
  The walk of the law SlabScripts where there is a slab. Conditions: its script reads as one.
-/
import Derived.Test.YtbofjdckmkifaaaL3
import Derived.Deep.RegionHeld3
import Derived.Deep.DeepCutAuto
import Derived.Deep.CutBlock
namespace Go.Proofs.Ytbofjdckmkifaaa
open Go.RowKit

theorem wf_ones (d : Nat) (n : Int) (h1 : 1 ≤ d) (h6 : d ≤ 6) : Wf (List.replicate d 1) [n] := by
  have hr : ∀ k, k < d → rd (List.replicate d (1 : Int)) k = 1 := fun k hk => by simp [rd_eq, hk]
  refine ⟨by simpa using h1, by simpa using h6, fun k hk => by rw [hr k (by simpa using hk)]; omega, ?_, by simp⟩
  have : ∀ k, k ≤ d → pr (List.replicate d (1 : Int)) k = 1 := by
    intro k
    induction k with
    | zero => intro _; rfl
    | succ k ih => intro hk; rw [pr, ih (by omega), hr k (by omega)]; rfl
  rw [List.length_replicate, this d (Nat.le_refl _)]; rfl
theorem IR.kp0 {k : IntKind} {S : Nat → Prop} {w w' : World} {a : Option Addr} {xs : List Int} (h : IR k w a xs) (hk : Kp S w w') (hs : 0 < xs.length → ∀ d, a = some d → ¬ S d.block) : IR k w' a xs :=
  fun j hj => by obtain ⟨b, o, rfl, hc⟩ := h j hj; exact ⟨b, o, rfl, hk.cell hc (hs (by omega) ⟨b, o, none⟩ rfl)⟩
/-- what stands at the end of a round: both slabs are alike, and what may be -/
def Alike2 (w wr : World) (g1 g2 : Nat) : Prop := ∃ (sz cs : List Int) (F1 F2 : Nat → Prop), Wf sz cs ∧ Vok cs ∧ Pair 77 32 w wr g1 g2 sz cs sz cs F1 F2

set_option maxRecDepth 100000 in
set_option maxHeartbeats 4000000 in
theorem scripts_go (w : World) (d : Nat) (n : Int) (a : Option Addr) (len cap : Nat) (h1 : 1 ≤ d) (h6 : d ≤ 6) (hnw : (Lit.int .i64 n).wf = true) (hs : Script w a len) (_hlen : len ≤ 9223372036854775807) :
    Calls Try.prog 3 #[.int .i64 (d : Int), .int .i64 n, .slice a len cap] w fun e w' => e = .returned (.bool true) ∧ Nw w w' := by
  have HS := Lib.hid hs; clear hs
  have HNW := Lib.hid hnw; clear hnw
  have hwf := wf_ones d n h1 h6
  go_enter Try.func3, Try.ntmps3
  go_wp2_with fail
  refine (newP_yes w d n h1 h6).mono ?_; rintro e w1 ⟨g1, rfl, t1, n1⟩
  have T1 := Lib.hid t1; have N1 := Lib.hid n1; clear t1 n1
  go_wp2_with fail
  refine (new13_yes w1 d n h1 h6).mono ?_; rintro e w2 ⟨g2, rfl, t2, n2⟩
  have hp := Pair.mk2 (w0 := w) T1.out N1.out t2 n2
  have HA : Hid (Alike2 w w2 g1 g2) := Lib.hid ⟨_, _, _, _, hwf, vok_one (x := n) HNW.out, hp⟩
  clear T1 N1 t2 n2 hp hwf h1 h6
  go_wp2_with fail
  go_loopw [11] (fun i wr => ∃ (k : Nat), k ≤ len ∧ k ≤ 40 ∧ i = .int .i64 (k : Int) ∧ Hid (Alike2 w wr g1 g2)) (fun i _ => len - (intOf i).toNat)
  case atStart => exact ⟨0, Nat.zero_le _, by omega, rfl, HA⟩
  case round =>
    clear HA
    obtain ⟨k, hk, hk4, rfl, HA⟩ := hrel
    obtain ⟨sz, cs, F1, F2, hwf, hv, hp⟩ := HA.out
    have HWF := Lib.hid hwf; have HV := Lib.hid hv; have HP := Lib.hid hp
    obtain ⟨vs2, vc2, ht2, _⟩ := hp.two
    obtain ⟨ac, cc, rfl, hcc, hcm, _, _⟩ := own_IR ht2.2.2.1
    have p1 := ht2.c1
    have hmost := hwf.most
    clear ht2 hp hv hwf hcc hcm
    by_cases hgo : k < len ∧ k < 40 ∧ cs.length ≤ 200
    · obtain ⟨q1, q2, q3⟩ := hgo
      obtain ⟨b, o, v, rfl, hop0⟩ := HS.out k q1
      have HOP := Lib.hid (hop0.nw HP.out.nw)
      have X1 : Hid ((0 < v.low.length → ∀ d, v.al = some d → ¬ F1 d.block) ∧ (0 < v.high.length → ∀ d, v.ah = some d → ¬ F1 d.block)) := Lib.hid
        ⟨fun h d hd hf => by have := hop0.rl.lt h hd; have := (HP.out.new1 _ hf).1; omega, fun h d hd hf => by have := hop0.rh.lt h hd; have := (HP.out.new1 _ hf).1; omega⟩
      have X2 : Hid ((0 < v.low.length → ∀ d, v.al = some d → ¬ F2 d.block) ∧ (0 < v.high.length → ∀ d, v.ah = some d → ¬ F2 d.block)) := Lib.hid
        ⟨fun h d hd hf => by have := hop0.rl.lt h hd; have := (HP.out.new2 _ hf).1; omega, fun h d hd hf => by have := hop0.rh.lt h hd; have := (HP.out.new2 _ hf).1; omega⟩
      clear hop0
      have c0 := HOP.out.c0; have c1 := HOP.out.c1; have c2 := HOP.out.c2; have c3 := HOP.out.c3; have c4 := HOP.out.c4; have c5 := HOP.out.c5
      have l1 := HOP.out.l1; have l2 := HOP.out.l2
      by_cases hbig : 20 < v.low.length ∨ 20 < v.high.length
      · have HNW0 := Lib.hid HP.out.nw
        have HL := Lib.hid (live_true (wr.alloc (.cells #[.int .i64 v.kind, .int .i64 v.at_, .int .i64 v.i, .int .i64 v.n, .slice v.al v.low.length v.cl, .slice v.ah v.high.length v.ch] 34)))
        clear HWF HV HP HA HOP X1 X2
        rcases (show 20 < v.low.length ∨ (v.low.length ≤ 20 ∧ 20 < v.high.length) by omega) with b1 | ⟨b1, b2⟩
        all_goals
          clear hbig
          go_wp2_with fail
          refine HL.out.mono ?_; rintro e w3 ⟨rfl, hn⟩
          have HN := Lib.hid (nw_trans HNW0.out (nw_trans (nw_alloc _ _) hn)); clear hn
          go_wp2
          go_ret
          exact ⟨rfl, HN.out⟩
      · have b1 : v.low.length ≤ 20 := by omega
        have b2 : v.high.length ≤ 20 := by omega
        clear hbig l1 l2
        go_upto_block 2 with fail
        generalize hW : wr.alloc (.cells #[.int .i64 v.kind, .int .i64 v.at_, .int .i64 v.i, .int .i64 v.n, .slice v.al v.low.length v.cl, .slice v.ah v.high.length v.ch] 34) = W1
        obtain ⟨g, hg⟩ : ∃ g, g = wr.heap.size := ⟨_, rfl⟩
        rw [← hg]
        have n1 : Nw wr W1 := hW ▸ nw_alloc _ _
        have hb : W1.heap[g]? = some (.cells #[.int .i64 v.kind, .int .i64 v.at_, .int .i64 v.i, .int .i64 v.n, .slice v.al v.low.length v.cl, .slice v.ah v.high.length v.ch] 34 (0, 0)) := by rw [hg, ← hW]; exact blk_new _ _
        have HB := Lib.hid hb; have N1 := Lib.hid n1; have HG := Lib.hid hg
        have hd : Nw W1 W1.drew := ⟨rfl, rfl, rfl, Nat.le_refl _, fun _ _ => rfl⟩
        have HP1 := Lib.hid (HP.out.kept n1)
        have HPD := Lib.hid ((HP.out.kept n1).kept hd)
        have NF1 : Hid (¬ F1 g) := Lib.hid (fun h => by have := (HP.out.new1 g h).2; omega)
        have NF2 : Hid (¬ F2 g) := Lib.hid (fun h => by have := (HP.out.new2 g h).2; omega)
        have HRL : Hid (IR .i64 W1.drew v.al v.low) := Lib.hid ((HOP.out.rl.nw n1).nw hd)
        have HRH : Hid (IR .i64 W1.drew v.ah v.high) := Lib.hid ((HOP.out.rh.nw n1).nw hd)
        have HRL1 : Hid (IR .i64 W1 v.al v.low) := Lib.hid (HOP.out.rl.nw n1)
        have HRH1 : Hid (IR .i64 W1 v.ah v.high) := Lib.hid (HOP.out.rh.nw n1)
        have HN := Lib.hid HOP.out.n_
        clear hW hb n1 hg hd c0 c1 c2 c3 c4 c5 p1 HP HOP
        go_cut [13] (fun s13 wx => s13 = .bool true ∧ Hid (Alike2 w wx g1 g2))
        case first =>
          have e0 : W1.cell? ⟨g, 0, none⟩ = some (.int .i64 v.kind) := blk_cell HB.out 0
          have e1 : W1.cell? ⟨g, 1, none⟩ = some (.int .i64 v.at_) := blk_cell HB.out 1
          have e2 : W1.cell? ⟨g, 2, none⟩ = some (.int .i64 v.i) := blk_cell HB.out 2
          have e3 : W1.cell? ⟨g, 3, none⟩ = some (.int .i64 v.n) := blk_cell HB.out 3
          have e4 : W1.cell? ⟨g, 4, none⟩ = some (.slice v.al v.low.length v.cl) := blk_cell HB.out 4
          have e5 : W1.cell? ⟨g, 5, none⟩ = some (.slice v.ah v.high.length v.ch) := blk_cell HB.out 5
          by_cases k0 : v.kind = 0
          · have z0 : (v.kind == 0) = true := by simp [k0]
            clear e0 e3 e4 e5 k0
            go_wp2_with fail
            go_region_held3 (fun w' => w'.cell? ⟨g, 1, none⟩ = some (.int .i64 v.at_) ∧ w'.cell? ⟨g, 2, none⟩ = some (.int .i64 v.i)) (first | exact ⟨f3, f4⟩ | exact ⟨f1, f2⟩ | go_keep)
              (first
                | (go_at_call 17; refine (growP HWF.out HPD.out.one _ _).mono ?_; rintro e w1' ⟨rfl, ht, hk1⟩; have hp2 := Lib.hid (HPD.out.left ht hk1); have f1 := hk1.cell (a := ⟨g, 1, none⟩) e1 NF1.out; have f2 := hk1.cell (a := ⟨g, 2, none⟩) e2 NF1.out; clear ht hk1)
                | (go_at_call 18; refine (grow13 HWF.out hp2.out.two _ _).mono ?_; rintro e w2' ⟨rfl, ht, hk1⟩; have hp3 := Lib.hid (hp2.out.right ht hk1); have f3 := hk1.cell (a := ⟨g, 1, none⟩) f1 NF2.out; have f4 := hk1.cell (a := ⟨g, 2, none⟩) f2 NF2.out; clear ht hk1))
            go_wp2
            go_meet
            exact ⟨rfl, _, _, _, _, grow2_wf HWF.out _ _, grow2_vok HV.out _ _, hp3.out⟩
          have y0 : (v.kind == 0) = false := by simp [k0]
          by_cases k1 : v.kind = 1
          · have z1 : (v.kind == 1) = true := by simp [k1]
            clear e0 e3 e4 e5 k1
            go_wp2_with fail
            go_region_held3 (fun w' => w'.cell? ⟨g, 1, none⟩ = some (.int .i64 v.at_) ∧ w'.cell? ⟨g, 2, none⟩ = some (.int .i64 v.i)) (first | exact ⟨f3, f4⟩ | exact ⟨f1, f2⟩ | go_keep)
              (first
                | (go_at_call 19; refine (shrinkP HWF.out HPD.out.one _ _).mono ?_; rintro e w1' ⟨rfl, ht, hk1⟩; have hp2 := Lib.hid (HPD.out.left ht hk1); have f1 := hk1.cell (a := ⟨g, 1, none⟩) e1 NF1.out; have f2 := hk1.cell (a := ⟨g, 2, none⟩) e2 NF1.out; clear ht hk1)
                | (go_at_call 20; refine (shrink13 HWF.out hp2.out.two _ _).mono ?_; rintro e w2' ⟨rfl, ht, hk1⟩; have hp3 := Lib.hid (hp2.out.right ht hk1); have f3 := hk1.cell (a := ⟨g, 1, none⟩) f1 NF2.out; have f4 := hk1.cell (a := ⟨g, 2, none⟩) f2 NF2.out; clear ht hk1))
            go_wp2
            go_meet
            exact ⟨rfl, _, _, _, _, shr2_wf HWF.out _ _, shr2_vok HV.out _ _, hp3.out⟩
          have y1 : (v.kind == 1) = false := by simp [k1]
          by_cases k2 : v.kind = 2
          · have z2 : (v.kind == 2) = true := by simp [k2]
            clear e0 e1 e2 k2
            go_wp2_with fail
            go_region_held3 (fun w' => w'.cell? ⟨g, 4, none⟩ = some (.slice v.al v.low.length v.cl) ∧ w'.cell? ⟨g, 5, none⟩ = some (.slice v.ah v.high.length v.ch) ∧ w'.cell? ⟨g, 3, none⟩ = some (.int .i64 v.n)) (first | exact ⟨f4, f5, f6⟩ | exact ⟨f1, f2, f3⟩ | go_keep)
              (first
                | (go_at_call 21; refine (fillP HWF.out HPD.out.one HRL.out HRH.out X1.out.1 X1.out.2 _).mono ?_; rintro e w1' ⟨rfl, ht, hk1⟩; have hp2 := Lib.hid (HPD.out.left ht hk1); have f1 := hk1.cell (a := ⟨g, 4, none⟩) e4 NF1.out; have f2 := hk1.cell (a := ⟨g, 5, none⟩) e5 NF1.out; have f3 := hk1.cell (a := ⟨g, 3, none⟩) e3 NF1.out; have HRL2 := Lib.hid (HRL.out.kp0 hk1 X1.out.1); have HRH2 := Lib.hid (HRH.out.kp0 hk1 X1.out.2); clear ht hk1)
                | (go_at_call 22; refine (fill13u HWF.out hp2.out.two HRL2.out HRH2.out X2.out.1 X2.out.2 _).mono ?_; rintro e w2' ⟨rfl, ht, hk1⟩; have hp3 := Lib.hid (hp2.out.right ht hk1); have f4 := hk1.cell (a := ⟨g, 4, none⟩) f1 NF2.out; have f5 := hk1.cell (a := ⟨g, 5, none⟩) f2 NF2.out; have f6 := hk1.cell (a := ⟨g, 3, none⟩) f3 NF2.out; clear ht hk1))
            go_wp2
            go_meet
            exact ⟨rfl, _, _, _, _, fill2_wf HWF.out _, fill2_vok HV.out HN.out, hp3.out⟩
          have y2 : (v.kind == 2) = false := by simp [k2]
          by_cases k3 : v.kind = 3
          · have z3 : (v.kind == 3) = true := by simp [k3]
            clear e0 e1 e2 e3 e5 k3
            have hp1 := HP1.out
            have HQ1 := Lib.hid (getP F1 W1 g1 sz cs v.low v.al v.cl HWF.out hp1.one HRL1.out)
            have HQ2 := Lib.hid (get13 F2 W1 g2 sz cs v.low v.al v.cl HWF.out hp1.two HRL1.out)
            have HQ3 := Lib.hid (fun n => placeP F1 (W1.drewN n) g1 sz cs v.low v.al v.cl HWF.out (hp1.one.nw (nw_drewN _ _)) (HRL1.out.nw (nw_drewN _ _)))
            have HQ4 := Lib.hid (fun n => place13 F2 (W1.drewN n) g2 sz cs v.low v.al v.cl HWF.out (hp1.two.nw (nw_drewN _ _)) (HRL1.out.nw (nw_drewN _ _)))
            clear hp1
            go_wp2_with fail
            refine HQ1.out.mono ?_; rintro e w' ⟨rfl, rfl⟩
            clear HQ1
            go_wp2_with fail
            refine HQ2.out.mono ?_; rintro e w' ⟨rfl, n1, rfl⟩
            clear HQ2
            go_wp2_with fail
            refine (HQ3.out _).mono ?_; rintro e w' ⟨rfl, rfl⟩
            clear HQ3
            go_wp2_with fail
            refine (HQ4.out _).mono ?_; rintro e w' ⟨rfl, n2, rfl⟩
            clear HQ4
            go_wp2
            go_meet
            exact ⟨rfl, _, _, _, _, HWF.out, HV.out, HP1.out.kept (by first | exact nw_drewN _ _ | exact nw_trans (nw_drewN _ _) (nw_drewN _ _))⟩
          · have y3 : (v.kind == 3) = false := by simp [k3]
            clear e0 e1 e2 e3 k0 k1 k2 k3
            have hp1 := HP1.out
            have HQ1 := Lib.hid (seenP (cl := v.cl) (ch := v.ch) HWF.out HV.out hp1.one HRL1.out HRH1.out)
            go_wp2_with fail
            refine HQ1.out.mono ?_; rintro e w' ⟨a5, c5, rfl, hir, -, hn⟩
            have e4' := nw_cell hn e4; have e5' := nw_cell hn e5
            have HQ2 := Lib.hid (seen13 (cl := v.cl) (ch := v.ch) HWF.out (hp1.two.nw hn) (HRL1.out.nw hn) (HRH1.out.nw hn))
            have HR1 := Lib.hid hir; have HN5 := Lib.hid hn
            clear HQ1 hir hn e4 e5 hp1
            go_wp2_with fail
            refine HQ2.out.mono ?_; rintro e w'' ⟨a6, c6, rfl, hir, -, hn⟩
            have HQ3 := Lib.hid (intsE w'' a5 a6 c5 c6 _ (by have := HWF.out.most; unfold seenL; split; have := seenT_len sz cs v.low v.high cs.length; omega; simp) (HR1.out.nw hn) hir)
            have HN6 := Lib.hid (nw_trans HN5.out hn)
            clear HQ2 hir hn e4' e5' HR1 HN5
            go_wp2_with fail
            refine HQ3.out.mono ?_; rintro e w3 ⟨rfl, n3, rfl⟩
            clear HQ3
            go_wp2
            go_meet
            exact ⟨rfl, _, _, _, _, HWF.out, HV.out, HP1.out.kept (nw_trans HN6.out (nw_drewN _ _))⟩
        case rest =>
          obtain ⟨rfl, HA2⟩ := hcut
          clear HP1 HPD HB N1 HG HN X1 X2 NF1 NF2 HRL HRH HRL1 HRH1 HA HWF HV
          obtain ⟨sz', cs', G1, G2, hwf, hv, hp⟩ := HA2.out
          have hpd := hp.kept (W' := wc.drew) ⟨rfl, rfl, rfl, Nat.le_refl _, fun _ _ => rfl⟩
          obtain ⟨us, uc, ht2, _⟩ := hp.two
          obtain ⟨as2, cs2, rfl, _, _, irs, _⟩ := own_IR ht2.2.1
          obtain ⟨ac2, cc2, rfl, _, _, irc, _⟩ := own_IR ht2.2.2.1
          have u0 := ht2.c0; have u1 := ht2.c1
          have hm1 := hwf.hi; have hm2 := hwf.most
          have HWF := Lib.hid hwf; have HV := Lib.hid hv; have HPD := Lib.hid hpd
          have IRS := Lib.hid (irs.nw (w' := wc.drew) ⟨rfl, rfl, rfl, Nat.le_refl _, fun _ _ => rfl⟩); have IRC := Lib.hid (irc.nw (w' := wc.drew) ⟨rfl, rfl, rfl, Nat.le_refl _, fun _ _ => rfl⟩)
          clear ht2 hp hpd hwf hv irs irc
          go_wp2_with fail
          go_region_held3 (fun w' => w'.cell? ⟨g2, 0, none⟩ = some (.slice as2 sz'.length cs2) ∧ w'.cell? ⟨g2, 1, none⟩ = some (.slice ac2 cs'.length cc2))
            (first | exact ⟨f7, f8⟩ | exact ⟨f5, f6⟩ | exact ⟨f3, f4⟩ | exact ⟨f1, f2⟩ | go_keep)
            (first
              | (go_at_call 30; refine (sizesP _ _ g1 sz' cs' HWF.out HPD.out.one).mono ?_; rintro e wa ⟨ga, ca, rfl, ho, -, hn⟩; have f1 := nw_cell hn u0; have f2 := nw_cell hn u1; have QA := Lib.hid (intsE wa _ as2 ca cs2 sz' (by omega) (own_rd ho) (IRS.out.nw hn)); have HN := Lib.hid hn; clear ho hn)
              | (go_at_call 31; refine (cellsP _ _ g1 sz' cs' HWF.out (HPD.out.one.nw HN2.out)).mono ?_; rintro e wb ⟨gb, cb, rfl, ho, -, hn⟩; have f5 := nw_cell hn f3; have f6 := nw_cell hn f4; have QB := Lib.hid (intsE wb _ ac2 cb cc2 cs' (by omega) (own_rd ho) (IRC.out.nw (nw_trans HN2.out hn))); have HN3 := Lib.hid (nw_trans HN2.out hn); clear ho hn)
              | (go_at_call 29; refine QB.out.mono ?_; rintro e wd ⟨rfl, nb, rfl⟩; have f7 := nw_cell (nw_drewN wb nb) f5; have f8 := nw_cell (nw_drewN wb nb) f6; have HN4 := Lib.hid (nw_trans HN3.out (nw_drewN wb nb)))
              | (go_at_call 29; refine QA.out.mono ?_; rintro e wd ⟨rfl, na, rfl⟩; have f3 := nw_cell (nw_drewN wa na) f1; have f4 := nw_cell (nw_drewN wa na) f2; have HN2 := Lib.hid (nw_trans HN.out (nw_drewN wa na)); clear QA))
          have HEND : Hid (Alike2 w (wb.drewN nb) g1 g2) := Lib.hid ⟨_, _, _, _, HWF.out, HV.out, HPD.out.kept HN4.out⟩
          clear HWF HV HPD IRS IRC HN HN2 HN3 HN4 QB f1 f2 f3 f4 f5 f6 f7 f8 u0 u1
          go_wp2
          go_roundw
          case rel => exact ⟨k + 1, by omega, by omega, by go_num, HEND⟩
          case measure => simp [intOf]; try omega
    · have HNW0 := Lib.hid HP.out.nw
      have HL := Lib.hid (live_true wr)
      clear HWF HV HP HA
      by_cases q1 : k < len
      · by_cases q2 : k < 40
        · have q3 : ¬ cs.length ≤ 200 := fun h => hgo ⟨q1, q2, h⟩
          clear hgo
          go_wp2_with fail
          refine HL.out.mono ?_; rintro e w3 ⟨rfl, hn⟩
          have HN := Lib.hid (nw_trans HNW0.out hn); clear hn
          go_wp2
          go_ret
          exact ⟨rfl, HN.out⟩
        · clear hgo
          go_wp2_with fail
          refine HL.out.mono ?_; rintro e w3 ⟨rfl, hn⟩
          have HN := Lib.hid (nw_trans HNW0.out hn); clear hn
          go_wp2
          go_ret
          exact ⟨rfl, HN.out⟩
      · clear hgo
        go_wp2_with fail
        refine HL.out.mono ?_; rintro e w3 ⟨rfl, hn⟩
        have HN := Lib.hid (nw_trans HNW0.out hn); clear hn
        go_wp2
        go_ret
        exact ⟨rfl, HN.out⟩
end Go.Proofs.Ytbofjdckmkifaaa
