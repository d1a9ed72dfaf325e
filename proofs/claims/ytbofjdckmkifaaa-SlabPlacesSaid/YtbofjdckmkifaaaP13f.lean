/-
  The walk of the slab's Fill. Conditions: the slab is one that may be; the two cells lie outside it.
-/
import Derived.Test.YtbofjdckmkifaaaP13e
namespace Go.Proofs.Ytbofjdckmkifaaa
open Go.RowKit Go.Shelf
attribute [local go_sem] Oper.semAt_some

set_option maxRecDepth 100000 in
set_option maxHeartbeats 2000000 in
theorem fillP_nil (w : World) (al ah : Option Addr) (nl cl nh ch : Nat) (n : Int) :
    Calls Try.prog 21 #[.pointer none, .slice al nl cl, .slice ah nh ch, .int .i64 n] w fun e w' => e = .returned (.int .i64 1) ∧ Nw w w' := by
  refine rf_calls 3 Try.func21 rfl ?_
  simp only [Try.ntmps21, List.size_toArray, List.length_cons, List.length_nil, Nat.reduceAdd, Nat.reduceSub, Array.replicate_succ, Array.replicate_zero, List.push_toArray, List.append_toArray, List.nil_append, List.cons_append]
  go_wp2_with fail
  refine (placesP_nil _ _ _ _ _ _ _).mono ?_; rintro e w1 ⟨rfl, hn⟩
  have HN := Lib.hid hn; clear hn
  go_wp2
  refine rf_leave0 rfl (results_tmp rfl _ _ _) ⟨rfl, ?_⟩
  exact nw_trans (nw_trans (nw_alloc _ _) (nw_alloc _ _)) HN.out

set_option maxRecDepth 100000 in
set_option maxHeartbeats 2000000 in
theorem fillP_no (F : Nat → Prop) (w : World) (b : Nat) (sz cs low high : List Int) (al ah : Option Addr) (cl ch : Nat) (n : Int) (hwf : Wf sz cs) (h : Two 77 F w b sz cs) (r1 : IR .i64 w al low) (r2 : IR .i64 w ah high) (hm : mayB sz low high = false) :
    Calls Try.prog 21 #[.pointer (some ⟨b, 0, none⟩), .slice al low.length cl, .slice ah high.length ch, .int .i64 n] w fun e w' => e = .returned (.int .i64 1) ∧ Nw w w' := by
  have hp := Lib.hid (fun (W : World) (hn : Nw w W) => placesP_no F W b sz cs low high al ah cl ch hwf (h.nw hn) (r1.nw hn) (r2.nw hn) hm)
  clear hwf h r1 r2 hm
  refine rf_calls 3 Try.func21 rfl ?_
  simp only [Try.ntmps21, List.size_toArray, List.length_cons, List.length_nil, Nat.reduceAdd, Nat.reduceSub, Array.replicate_succ, Array.replicate_zero, List.push_toArray, List.append_toArray, List.nil_append, List.cons_append]
  go_wp2_with fail
  refine (hp.out _ (nw_trans (nw_alloc _ _) (nw_alloc _ _))).mono ?_; rintro e w1 ⟨rfl, hn⟩
  have HN := Lib.hid hn; clear hn
  go_wp2
  refine rf_leave0 rfl (results_tmp rfl _ _ _) ⟨rfl, ?_⟩
  exact nw_trans (nw_trans (nw_alloc _ _) (nw_alloc _ _)) HN.out

/-- what stands between two rounds of Fill -/
structure FJ (b : Nat) (sz cs : List Int) (n : Int) (vs : Value) (g cc l D B0 : Nat) (w1 : World) (lp : Loop) (m : Nat) (pre : List Nat) (W : World) : Prop where
  tv : TwoV 77 W b sz (fillBy cs n pre) vs (.slice (some ⟨g, 0, none⟩) cs.length cc)
  kp : Kp (fun k => k = g ∨ w1.heap.size ≤ k) w1 W
  rl : W.heap[l]? = some (.loop lp)
  rD : W.heap[D]? = some (.deferred (some []))
  hm : B0 ≤ m
theorem TwoV.putObj {T : TypeId} {w : World} {b : Nat} {xs ys : List Int} {vs vc : Value} (h : TwoV T w b xs ys vs vc) {l : Nat} {o : Obj} (ho : w.heap[l]? = some o) (hc : o.isCells = false) (o' : Obj) : TwoV T (w.putObj l o') b xs ys vs vc := by
  have hb : ¬ b = l := fun e => by subst e; rw [h.1] at ho; cases ho; cases hc
  have h1 : ∀ (v : Value) (n : Nat) (zs : List Value), w.ownsRow 0 3 1 v n zs → ∀ k, v.ownBlock = some k → ¬ k = l := by
    intro v n zs hv k hk e
    subst e
    rcases hv.2 with ⟨rfl, _⟩ | ⟨g, cap, cur, rfl, _, hg, _⟩
    · cases hk
    · have : g = k := by injection hk
      subst this; rw [hg] at ho; cases ho; cases hc
  exact h.kp (kp_putObj w l o') hb (h1 _ _ _ h.2.1) (h1 _ _ _ h.2.2.1)

set_option maxRecDepth 100000 in
set_option maxHeartbeats 2000000 in
theorem fillP_yes (F : Nat → Prop) (w : World) (b : Nat) (sz cs low high : List Int) (al ah : Option Addr) (cl ch : Nat) (n : Int) (hwf : Wf sz cs) (h : Two 77 F w b sz cs) (r1 : IR .i64 w al low) (r2 : IR .i64 w ah high)
    (d1 : ∀ d, al = some d → ¬ F d.block) (d2 : ∀ d, ah = some d → ¬ F d.block) (hm : mayB sz low high = true) :
    Calls Try.prog 21 #[.pointer (some ⟨b, 0, none⟩), .slice al low.length cl, .slice ah high.length ch, .int .i64 n] w fun e w' => e = .returned (.int .i64 0) ∧ Two 77 F w' b sz (fillL sz cs low high n) ∧ Kp F w w' := by
  have hp := Lib.hid (fun (W : World) (hn : Nw w W) => placesP_yes F W b sz cs low high al ah cl ch hwf (h.nw hn) (r1.nw hn) (r2.nw hn) hm)
  obtain ⟨vs, vc, ht, hFb, hFs, hFc⟩ := h
  obtain ⟨ac, cc, rfl, hcc, hcm, hcr, hcb⟩ := own_IR ht.2.2.1
  obtain ⟨g, og, rfl, -⟩ := IR_some hcr (by have := hwf.pos'; omega)
  obtain ⟨-, hg0, -, -, hgl⟩ := hcb _ rfl
  simp only at hg0 hgl
  subst hg0
  have hgF : F g := hFc g rfl
  have hT := Lib.hid ht; have HWF := Lib.hid hwf; have R1 := Lib.hid r1; have R2 := Lib.hid r2; have HM := Lib.hid hm; have HGF := Lib.hid hgF; have HFB := Lib.hid hFb; have HFS := Lib.hid hFs; have HFC := Lib.hid hFc; have D1 := Lib.hid d1; have D2 := Lib.hid d2
  clear ht hwf r1 r2 hm hgF hFb hFs hFc d1 d2 hcr hcb
  refine rf_calls 3 Try.func21 rfl ?_
  simp only [Try.ntmps21, List.size_toArray, List.length_cons, List.length_nil, Nat.reduceAdd, Nat.reduceSub, Array.replicate_succ, Array.replicate_zero, List.push_toArray, List.append_toArray, List.nil_append, List.cons_append]
  go_wp2_with fail
  refine (hp.out _ (nw_trans (nw_alloc _ _) (nw_alloc _ _))).mono ?_; rintro e w1 ⟨bs, rfl, hbs, h1, h2, h3, h4, hn⟩
  simp at hbs
  have hn' := nw_trans (nw_trans (nw_alloc w (.cells #[.pointer (some ⟨b, 0, none⟩)] 23)) (nw_alloc _ (.cells #[.int .i64 n] 3))) hn
  have k1 : w1.heap[w.heap.size]? = some (.cells #[.pointer (some ⟨b, 0, none⟩)] 23 (0, 0)) := nw_blk hn (by simp only [heap_alloc_if, World.size_alloc]; repeat (first | rw [if_pos trivial] | rw [if_pos (by omega)] | rw [if_neg (by omega)]))
  have k2 : w1.heap[w.heap.size + 1]? = some (.cells #[.int .i64 n] 3 (0, 0)) := nw_blk hn (by simp only [heap_alloc_if, World.size_alloc]; repeat (first | rw [if_pos trivial] | rw [if_pos (by omega)] | rw [if_neg (by omega)]))
  have H1 := Lib.hid h1; have H2 := Lib.hid h2; have H3 := Lib.hid h3; have H4 := Lib.hid h4; have HN := Lib.hid hn'; have K1 := Lib.hid k1; have K2 := Lib.hid k2
  clear h1 h2 h3 h4 hn hn' k1 k2 hp
  obtain ⟨p0, hp0, hp0N, hc0, hh0, hhits0⟩ := first_hit HWF.out HM.out
  have hpv : placeV sz low = (p0 : Int) := by
    have := may_facts HM.out
    rw [← hp0, placeV, if_pos (by have h := HM.out; simp [mayB] at h; exact h.1.1), this.1]
  rw [hpv] at H4
  have HP0 := Lib.hid hp0
  clear hp0 hp0N hc0 hh0 hhits0 hpv
  go_wp2
  refine (wpIn_wide (n := 3)).1 (rf_enter (gf := 73) rfl (enters_of Try.func73 (by kernel_rfl) rfl) ?_)
  intro fn W1 hn1 hs1 hl hD
  obtain ⟨lp, hlp⟩ : ∃ lp, W1.heap[w1.heap.size + 1]? = some (.loop lp) := ⟨_, hl⟩
  have elp := Obj.loop.inj (Option.some.inj (hlp.symm.trans hl))
  have ELP := Lib.hid elp; clear elp hl
  have hl := hlp; clear hlp
  have hs0 := HN.out.size
  have hbl := blk_lt hT.out.1
  have hbsl := blk_lt H1.out
  have hbsl3 := blk_lt H4.out
  have hbsl1 := blk_lt H2.out
  have hbsl2 := blk_lt H3.out
  have hgl1 : g < w.heap.size := hgl
  have T1 := (hT.out.nw HN.out).nw hn1
  have HT1 := Lib.hid T1; have HL := Lib.hid hl; have HD := Lib.hid hD; have HN1 := Lib.hid hn1
  clear T1 hl hD hn1
  have env : ∀ A cs', TwoV 77 A b sz cs' vs (.slice (some ⟨g, 0, none⟩) cs.length cc) → cs'.length = cs.length → Kp (fun k => k = g ∨ w1.heap.size ≤ k) w1 A → PEnv F sz low high cs.length al ah cl ch (bs + 1) (bs + 2) bs b A := by
    intro A cs' tv hcl kp
    refine ⟨kp.blk H2.out (by omega), kp.blk H3.out (by omega), kp.blk H1.out (by omega), ?_, ?_, cs', ⟨_, _, tv, HFB.out, HFS.out, fun k hk => HFC.out k hk⟩, ?_, hcl⟩
    · refine (R1.out.nw HN.out).kp kp (fun d hd => ?_)
      intro e
      by_cases h0 : 0 < low.length
      · have := R1.out.lt h0 hd
        rcases e with e | e
        · exact D1.out d hd (e ▸ HGF.out)
        · omega
      · have := (may_facts HM.out).1; have := HWF.out.lo; omega
    · refine (R2.out.nw HN.out).kp kp (fun d hd => ?_)
      intro e
      by_cases h0 : 0 < high.length
      · have := R2.out.lt h0 hd
        rcases e with e | e
        · exact D2.out d hd (e ▸ HGF.out)
        · omega
      · have := (may_facts HM.out).2.1; have := HWF.out.lo; omega
    · have w0 := HWF.out
      exact ⟨w0.lo, w0.hi, w0.pos, by rw [hcl]; exact w0.len, by rw [hcl]; exact w0.most⟩
  have ENV := Lib.hid env; clear env
  refine callsIn_wide.2 ((placesIt 1 F sz low high cs.length al ah cl ch (bs + 1) (bs + 3) (bs + 2) bs b (w1.heap.size + 1) p0 HM.out HP0.out
    (FJ b sz cs n vs g cc (w1.heap.size + 1) w1.heap.size W1.heap.size w1 lp) (fun m pre A hJ => ENV.out A _ hJ.tv (by simp) hJ.kp) ?hab W1 ?hE ?hbf ?h0 ?hy).mono ?hfin)
  case hab =>
    intro m pre A B hJ hk
    have h1 := hJ.hm
    have h2 := blk_lt hJ.rl
    refine ⟨hJ.tv.kp hk (by omega) (fun k hk' e => ?_) (fun k hk' e => ?_), hJ.kp.trans hk (fun b' hb' _ => .inr (by omega)), hk.blk hJ.rl (by omega), hk.blk hJ.rD (by omega), h1⟩
    · have := own_lt hT.out.2.1 hk'; omega
    · have e1 : g = k := by injection hk'
      omega
  case hE => exact ENV.out W1 cs HT1.out rfl (kp_of_nw HN1.out _)
  case hbf => exact nw_blk HN1.out H4.out
  case h0 =>
    intro m W' hn hm1 hm2
    exact ⟨by rw [fillBy_nil]; exact HT1.out.nw hn, kp_of_nw (nw_trans HN1.out hn) _, nw_blk hn HL.out, nw_blk hn HD.out, hm1⟩
  case hfin =>
    rintro e W2 ⟨⟨v, rfl⟩, m, hJ⟩
    have hl2 := hJ.rl
    rw [ELP.out] at hl2
    have tv := hJ.tv
    rw [fillBy_hits] at tv
    have rl := hJ.rl
    have kp := hJ.kp
    have hdl : w1.heap.size ≠ w1.heap.size + 1 := by omega
    have rD := hJ.rD
    refine rf_done hl2 (fun o' => ?_)
    have tv3 := tv.putObj rl rfl o'
    have rD3 : (W2.putObj (w1.heap.size + 1) o').heap[w1.heap.size]? = some (.deferred (some [])) := (World.putObj_heap_other hdl).trans rD
    have kp3 := kp.trans (kp_putObj W2 (w1.heap.size + 1) o') (fun k hk _ => .inr (by omega))
    generalize W2.putObj (w1.heap.size + 1) o' = W3 at tv3 rD3 kp3 ⊢
    have TV3 := Lib.hid tv3; have RD3 := Lib.hid rD3; have KP3 := Lib.hid kp3
    clear tv3 rD3 kp3 tv rl kp hdl rD hl2 hJ
    go_wp2
    refine rf_leave rfl RD3.out (results_tmp rfl _ _ _) ⟨rfl, ⟨_, _, TV3.out.putObj RD3.out rfl _, HFB.out, HFS.out, fun k hk => HFC.out k hk⟩, ?_⟩
    have k4 := KP3.out.trans (kp_putObj W3 w1.heap.size (.deferred none)) (fun k hk _ => .inr (by omega))
    exact ((kp_of_nw HN.out F).trans k4 (fun k hk hlt => by rcases hk with hk | hk; exact hk ▸ HGF.out; omega))
  case hy =>
    intro m p A hm1 hJ hmA hpN hph
    have hm2 : w1.heap.size + 2 ≤ m := by omega
    have HS1 := Lib.hid hs1; have HMA := Lib.hid hmA
    clear hs1 hmA
    have rl := hJ.rl
    rw [ELP.out] at rl
    have hpl : p < (fillBy cs n (hits sz low high p)).length := by simpa using hpN
    have hold := own_cell hJ.tv.2.2.1 (j := p) hpl
    have hfro := own_frozen hJ.tv.2.2.1 p
    have q0 : A.cell? ⟨w.heap.size, 0, none⟩ = some (.pointer (some ⟨b, 0, none⟩)) := blk_cell (hJ.kp.blk K1.out (by omega)) 0
    have q1 : A.cell? ⟨w.heap.size + 1, 0, none⟩ = some (.int .i64 n) := blk_cell (hJ.kp.blk K2.out (by omega)) 0
    have q2 := hJ.tv.c1
    have ELP' := ELP
    refine rf_round rl rfl ?_
    gi_wp2
    refine ⟨rfl, fun o ho => ?_⟩
    have hkA := kp_putObj A (w1.heap.size + 1) o
    have hlt := blk_lt hJ.rl
    have tvo := hJ.tv.putObj hJ.rl rfl o
    have hlo : (A.putObj (w1.heap.size + 1) o).heap[w1.heap.size + 1]? = some o := World.putObj_heap_same hlt
    have hDo : (A.putObj (w1.heap.size + 1) o).heap[w1.heap.size]? = some (.deferred (some [])) := (World.putObj_heap_other (by omega)).trans hJ.rD
    have hkp := hJ.kp
    have hmm : m ≠ w1.heap.size + 1 := by omega
    have hmg : m ≠ g := by omega
    have hm3 := hJ.hm
    generalize A.putObj (w1.heap.size + 1) o = A1 at hkA tvo hlo hDo ⊢
    have c0 := hkA.cell q0 (by show ¬ (w.heap.size = w1.heap.size + 1); omega)
    have c1 := hkA.cell q1 (by show ¬ (w.heap.size + 1 = w1.heap.size + 1); omega)
    have c2 := tvo.c1
    have c3 := own_cell tvo.2.2.1 (j := p) hpl
    have c4 := own_frozen tvo.2.2.1 p
    have TVO := Lib.hid tvo; have HLO := Lib.hid hlo; have HDO := Lib.hid hDo; have HKP := Lib.hid hkp; have HKA := Lib.hid hkA; have HO := Lib.hid ho; have RL := Lib.hid rl; have PH := Lib.hid hph
    have fin : ∀ W3, W3 = (A1.setCell ⟨g, p, none⟩ (.int .i64 n)).drew → W3.heap[w1.heap.size + 1]? = some o ∧ ∀ o', o' = Obj.loop lp →
        (Ending.returned (Value.bool true) = .returned (.bool true) ∧ FJ b sz cs n vs g cc (w1.heap.size + 1) w1.heap.size W1.heap.size w1 lp m (hits sz low high (p + 1)) (W3.putObj (w1.heap.size + 1) o') ∧ (W3.putObj (w1.heap.size + 1) o').heap[m]? = A.heap[m]?) := by
      intro W3 hW3
      have k13 : Kp (fun k => k = g) A1 W3 := by rw [hW3]; exact (Kp.setCell (S := fun k => k = g) (Kp.refl _ A1) (p := ⟨g, p, none⟩) (fun _ => rfl) _).drew
      have tv3 : TwoV 77 W3 b sz (fillBy cs n (hits sz low high (p + 1))) vs (.slice (some ⟨g, 0, none⟩) cs.length cc) := by
        have h2 := TVO.out.set1 (by decide) (by simp) p n
        rw [fillBy_snoc cs n _ p hpN, ← hits_hit PH.out] at h2
        rw [hW3]; exact h2
      have hl3 := k13.blk HLO.out (show ¬ w1.heap.size + 1 = g by omega)
      refine ⟨hl3, fun o' ho' => ⟨rfl, ⟨tv3.putObj hl3 (by rw [HO.out]; rfl) o', ?_, ?_, ?_, hm3⟩, ?_⟩⟩
      · exact ((HKP.out.trans HKA.out (fun k hk _ => .inr (by omega))).trans k13 (fun k hk _ => .inl hk)).trans (kp_putObj W3 _ o') (fun k hk _ => .inr (by omega))
      · rw [ho']; exact World.putObj_heap_same (blk_lt hl3)
      · exact (World.putObj_heap_other (by omega)).trans (k13.blk HDO.out (show ¬ w1.heap.size = g by omega))
      · exact (World.putObj_heap_other hmm).trans ((k13.block m (by have := HKA.out.size; have := HMA.out; omega) hmg).trans (HKA.out.block m HMA.out hmm))
    have FIN := Lib.hid fin
    clear fin tvo hlo hDo hkp hkA hold hfro q0 q1 q2 rl ho hJ hph
    gi_wp2
    gi_region
    all_goals gi_wp2
    all_goals
      have hfin := FIN.out _ rfl
      exact ⟨by rw [← HO.out]; exact hfin.1, rfl, (hfin.2 _ (by rw [ELP.out])).2⟩
end Go.Proofs.Ytbofjdckmkifaaa
