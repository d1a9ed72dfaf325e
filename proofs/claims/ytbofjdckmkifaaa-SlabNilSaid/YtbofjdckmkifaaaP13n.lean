/-
  The walk of the slab's Seen. Conditions: the slab is one that may be; its contents are numbers of 64 bits.
-/
import Derived.Test.YtbofjdckmkifaaaP13i
import Derived.Test.YtbofjdckmkifaaaBSet
import Derived.Test.YtbofjdckmkifaaaSeenM
import Derived.Test.YtbofjdckmkifaaaAppR
namespace Go.Proofs.Ytbofjdckmkifaaa
open Go.RowKit Go.Shelf
attribute [local go_sem] Oper.semAt_some

set_option maxRecDepth 100000 in
set_option maxHeartbeats 2000000 in
theorem seenP_nil (w : World) (al ah : Option Addr) (nl cl nh ch : Nat) :
    Calls Try.prog 27 #[.pointer none, .slice al nl cl, .slice ah nh ch] w fun e w' => e = .returned (.tuple #[.slice none 0 0, .int .i64 1]) ∧ Nw w w' := by
  refine rf_calls 3 Try.func27 rfl ?_
  simp only [Try.ntmps27, List.size_toArray, List.length_cons, List.length_nil, Nat.reduceAdd, Nat.reduceSub, Array.replicate_succ, Array.replicate_zero, List.push_toArray, List.append_toArray, List.nil_append, List.cons_append]
  go_wp2_with fail
  refine (placesP_nil _ _ _ _ _ _ _).mono ?_; rintro e w1 ⟨rfl, hn⟩
  have HN := Lib.hid hn; clear hn
  go_wp2
  refine rf_leave0 rfl (results_tmp2 rfl _ _ _) ⟨rfl, ?_⟩
  exact nw_trans (nw_alloc _ _) HN.out

set_option maxRecDepth 100000 in
set_option maxHeartbeats 2000000 in
theorem seenP_no (F : Nat → Prop) (w : World) (b : Nat) (sz cs low high : List Int) (al ah : Option Addr) (cl ch : Nat) (hwf : Wf sz cs) (h : Two 77 F w b sz cs) (r1 : IR .i64 w al low) (r2 : IR .i64 w ah high) (hm : mayB sz low high = false) :
    Calls Try.prog 27 #[.pointer (some ⟨b, 0, none⟩), .slice al low.length cl, .slice ah high.length ch] w fun e w' => e = .returned (.tuple #[.slice none 0 0, .int .i64 1]) ∧ Nw w w' := by
  have hp := Lib.hid (fun (W : World) (hn : Nw w W) => placesP_no F W b sz cs low high al ah cl ch hwf (h.nw hn) (r1.nw hn) (r2.nw hn) hm)
  clear hwf h r1 r2 hm
  refine rf_calls 3 Try.func27 rfl ?_
  simp only [Try.ntmps27, List.size_toArray, List.length_cons, List.length_nil, Nat.reduceAdd, Nat.reduceSub, Array.replicate_succ, Array.replicate_zero, List.push_toArray, List.append_toArray, List.nil_append, List.cons_append]
  go_wp2_with fail
  refine (hp.out _ (nw_alloc _ _)).mono ?_; rintro e w1 ⟨rfl, hn⟩
  have HN := Lib.hid hn; clear hn
  go_wp2
  refine rf_leave0 rfl (results_tmp2 rfl _ _ _) ⟨rfl, ?_⟩
  exact nw_trans (nw_alloc _ _) HN.out

/-- what stands between two rounds of Seen -/
structure SJ (b : Nat) (sz cs : List Int) (vs vc : Value) (bx mb l D B0 : Nat) (w1 : World) (lp : Loop) (m : Nat) (X : List Int) (W : World) : Prop where
  tv : TwoV 77 W b sz cs vs vc
  kp : Kp (fun k => k = bx ∨ k = mb ∨ w1.heap.size ≤ k) w1 W
  rl : W.heap[l]? = some (.loop lp)
  rD : W.heap[D]? = some (.deferred (some []))
  hm : B0 ≤ m
  own : ∃ a c, W.heap[bx]? = some (.cells #[.slice a X.length c] 30 (0, 0)) ∧ W.ownsRow 0 3 1 (.slice a X.length c) X.length (iv .i64 X) ∧ (∀ d, a = some d → m < d.block)
  set : BS W mb X

set_option maxRecDepth 100000 in
set_option maxHeartbeats 2000000 in
theorem seenP_yes (F : Nat → Prop) (w : World) (b : Nat) (sz cs low high : List Int) (al ah : Option Addr) (cl ch : Nat) (hwf : Wf sz cs) (hcs : ∀ k, k < cs.length → (Lit.int .i64 (rd cs k)).wf = true) (h : Two 77 F w b sz cs) (r1 : IR .i64 w al low) (r2 : IR .i64 w ah high)
    (hm : mayB sz low high = true) :
    Calls Try.prog 27 #[.pointer (some ⟨b, 0, none⟩), .slice al low.length cl, .slice ah high.length ch] w fun e w' =>
      ∃ a c, e = .returned (.tuple #[.slice a (seenT sz cs low high cs.length).length c, .int .i64 0]) ∧ w'.ownsRow 0 3 1 (.slice a (seenT sz cs low high cs.length).length c) (seenT sz cs low high cs.length).length (iv .i64 (seenT sz cs low high cs.length)) ∧
        (∀ d, a = some d → w.heap.size ≤ d.block) ∧ Nw w w' := by
  have hp := Lib.hid (fun (W : World) (hn : Nw w W) => placesP_yes F W b sz cs low high al ah cl ch hwf (h.nw hn) (r1.nw hn) (r2.nw hn) hm)
  obtain ⟨vs, vc, ht, hFb, hFs, hFc⟩ := h
  obtain ⟨ac, cc, rfl, hcc, hcm, hcr, hcb⟩ := own_IR ht.2.2.1
  obtain ⟨g, og, rfl, -⟩ := IR_some hcr (by have := hwf.pos'; omega)
  obtain ⟨-, hg0, -, -, hgl⟩ := hcb _ rfl
  simp only at hg0 hgl
  subst hg0
  have hT := Lib.hid ht; have HWF := Lib.hid hwf; have R1 := Lib.hid r1; have R2 := Lib.hid r2; have HM := Lib.hid hm; have HFB := Lib.hid hFb; have HFS := Lib.hid hFs; have HFC := Lib.hid hFc; have HCS := Lib.hid hcs
  clear ht hwf r1 r2 hm hFb hFs hFc hcr hcb hcs
  refine rf_calls 3 Try.func27 rfl ?_
  simp only [Try.ntmps27, List.size_toArray, List.length_cons, List.length_nil, Nat.reduceAdd, Nat.reduceSub, Array.replicate_succ, Array.replicate_zero, List.push_toArray, List.append_toArray, List.nil_append, List.cons_append]
  go_wp2_with fail
  refine (hp.out _ (nw_alloc _ _)).mono ?_; rintro e w1 ⟨bs, rfl, hbs, h1, h2, h3, h4, hn⟩
  simp at hbs
  have hn' := nw_trans (nw_alloc w (.cells #[.pointer (some ⟨b, 0, none⟩)] 23)) hn
  have k1 : w1.heap[w.heap.size]? = some (.cells #[.pointer (some ⟨b, 0, none⟩)] 23 (0, 0)) := nw_blk hn (by simp only [heap_alloc_if, World.size_alloc]; repeat (first | rw [if_pos trivial] | rw [if_pos (by omega)] | rw [if_neg (by omega)]))
  have H1 := Lib.hid h1; have H2 := Lib.hid h2; have H3 := Lib.hid h3; have H4 := Lib.hid h4; have HN := Lib.hid hn'; have K1 := Lib.hid k1
  clear h1 h2 h3 h4 hn hn' k1 hp
  obtain ⟨p0, hp0, hp0N, hc0, hh0, hhits0⟩ := first_hit HWF.out HM.out
  have hpv : placeV sz low = (p0 : Int) := by
    have := may_facts HM.out
    rw [← hp0, placeV, if_pos (by have h := HM.out; simp [mayB] at h; exact h.1.1), this.1]
  rw [hpv] at H4
  have HP0 := Lib.hid hp0
  clear hp0 hp0N hc0 hh0 hhits0 hpv
  have hmk : ∀ W : World, (Instr.makeMap 90 none).run Try.prog W = .ok (.map (some W.heap.size)) (W.alloc (.map #[] 0)) := fun W => rfl
  go_wp2
  clear hmk
  obtain ⟨w2, hw2⟩ : ∃ w2, ((w1.alloc (.cells #[.slice none 0 0] 30)).alloc (.map #[] 0)).alloc (.cells #[.map (some (w1.heap.size + 1))] 90) = w2 := ⟨_, rfl⟩
  rw [hw2]
  have n2 : Nw w1 w2 := by rw [← hw2]; exact nw_trans (nw_trans (nw_alloc _ _) (nw_alloc _ _)) (nw_alloc _ _)
  have s2 : w2.heap.size = w1.heap.size + 3 := by rw [← hw2]; simp
  have kx : w2.heap[w1.heap.size]? = some (.cells #[.slice none 0 0] 30 (0, 0)) := by rw [← hw2]; simp only [heap_alloc_if, World.size_alloc]; repeat (first | rw [if_pos trivial] | rw [if_pos (by omega)] | rw [if_neg (by omega)])
  have km : w2.heap[w1.heap.size + 2]? = some (.cells #[.map (some (w1.heap.size + 1))] 90 (0, 0)) := by rw [← hw2]; simp only [heap_alloc_if, World.size_alloc]; repeat (first | rw [if_pos trivial] | rw [if_pos (by omega)] | rw [if_neg (by omega)])
  have hbs0 : BS w2 (w1.heap.size + 1) [] := by
    have h := BS.made (w1.alloc (.cells #[.slice none 0 0] 30))
    rw [World.size_alloc] at h
    rw [← hw2]; exact h.kp (kp_of_nw (nw_alloc _ _) (fun _ => False)) (fun h => h)
  have HBS0 := Lib.hid hbs0; have KX := Lib.hid kx; have KM := Lib.hid km; have N2 := Lib.hid n2; have S2 := Lib.hid s2
  clear hbs0 kx km n2 s2 hw2
  refine (wpIn_wide (n := 3)).1 (rf_enter (gf := 73) rfl (enters_of Try.func73 (by kernel_rfl) rfl) ?_)
  intro fn W1 hn1 hs1 hl hD
  obtain ⟨lp, hlp⟩ : ∃ lp, W1.heap[w2.heap.size + 1]? = some (.loop lp) := ⟨_, hl⟩
  have elp := Obj.loop.inj (Option.some.inj (hlp.symm.trans hl))
  have ELP := Lib.hid elp; clear elp hl
  have hl := hlp; clear hlp
  have hs0 := HN.out.size
  have hbl := blk_lt hT.out.1
  have hbsl := blk_lt H1.out
  have hbsl3 := blk_lt H4.out
  have hbsl1 := blk_lt H2.out
  have hbsl2 := blk_lt H3.out
  have hgl1 : g < w.heap.size := hgl
  have T1 := ((hT.out.nw HN.out).nw N2.out).nw hn1
  have HT1 := Lib.hid T1; have HL := Lib.hid hl; have HD := Lib.hid hD; have HN1 := Lib.hid hn1; have HS1 := Lib.hid hs1
  clear T1 hl hD hn1 hs1
  have env : ∀ A, TwoV 77 A b sz cs vs (.slice (some ⟨g, 0, none⟩) cs.length cc) → Kp (fun k => k = w1.heap.size ∨ k = w1.heap.size + 1 ∨ w2.heap.size ≤ k) w2 A → PEnv F sz low high cs.length al ah cl ch (bs + 1) (bs + 2) bs b A := by
    intro A tv kp
    have hs2 := S2.out
    have kp0 : Kp (fun k => w1.heap.size ≤ k) w1 A := (kp_of_nw N2.out _).trans kp (fun k hk hlt => by omega)
    refine ⟨kp0.blk H2.out (by omega), kp0.blk H3.out (by omega), kp0.blk H1.out (by omega), ?_, ?_, cs, ⟨_, _, tv, HFB.out, HFS.out, fun k hk => HFC.out k hk⟩, HWF.out, rfl⟩
    · refine (R1.out.nw HN.out).kp kp0 (fun d hd => ?_)
      intro e
      by_cases h0 : 0 < low.length
      · have := R1.out.lt h0 hd; omega
      · have := (may_facts HM.out).1; have := HWF.out.lo; omega
    · refine (R2.out.nw HN.out).kp kp0 (fun d hd => ?_)
      intro e
      by_cases h0 : 0 < high.length
      · have := R2.out.lt h0 hd; omega
      · have := (may_facts HM.out).2.1; have := HWF.out.lo; omega
  have ENV := Lib.hid env; clear env
  refine callsIn_wide.2 ((placesIt 1 F sz low high cs.length al ah cl ch (bs + 1) (bs + 3) (bs + 2) bs b (w2.heap.size + 1) p0 HM.out HP0.out
    (fun m pre => SJ b sz cs vs (.slice (some ⟨g, 0, none⟩) cs.length cc) w1.heap.size (w1.heap.size + 1) (w2.heap.size + 1) w2.heap.size W1.heap.size w2 lp m (seenBy cs pre)) (fun m pre A hJ => ENV.out A hJ.tv hJ.kp) ?hab W1 ?hE ?hbf ?h0 ?hy).mono ?hfin)
  case hab =>
    intro m pre A B hJ hk
    have h1 := hJ.hm
    have h2 := blk_lt hJ.rl
    have h3 := HS1.out
    have h4 := S2.out
    obtain ⟨a9, c9, hx, ho, hd⟩ := hJ.own
    refine ⟨hJ.tv.kp hk (by omega) (fun k hk' e => ?_) (fun k hk' e => ?_), hJ.kp.trans hk (fun b' hb' _ => .inr (.inr (by omega))), hk.blk hJ.rl (by omega), hk.blk hJ.rD (by omega), h1, ⟨a9, c9, hk.blk hx (by omega), hk.own ho (fun k hk' e => ?_), hd⟩, hJ.set.kp hk (by omega)⟩
    · have := own_lt hT.out.2.1 hk'; omega
    · have e1 : g = k := by injection hk'
      omega
    · rcases a9 with _ | d
      · cases hk'
      · have e2 : d.block = k := by injection hk'
        have := hd d rfl; omega
  case hE => exact ENV.out W1 HT1.out (kp_of_nw HN1.out _)
  case hbf => exact nw_blk HN1.out (nw_blk N2.out H4.out)
  case h0 =>
    intro m W' hn hm1 hm2
    have hnn := nw_trans HN1.out hn
    exact ⟨HT1.out.nw hn, kp_of_nw hnn _, nw_blk hn HL.out, nw_blk hn HD.out, hm1, ⟨none, 0, nw_blk hnn KX.out, ⟨by simp [iv, seenBy], .inl ⟨rfl, by simp [iv, seenBy]⟩⟩, fun d hd => by cases hd⟩, HBS0.out.kp (kp_of_nw hnn (fun _ => False)) (fun h => h)⟩
  case hfin =>
    rintro e W2 ⟨⟨v, rfl⟩, m, hJ⟩
    have hl2 := hJ.rl
    rw [ELP.out] at hl2
    refine rf_done hl2 (fun o' => ?_)
    obtain ⟨a9, c9, hx, ho, hd⟩ := hJ.own
    have h3 := HS1.out
    have h4 := S2.out
    have h5 := hJ.hm
    have rD3 : (W2.putObj (w2.heap.size + 1) o').heap[w2.heap.size]? = some (.deferred (some [])) := (World.putObj_heap_other (by omega)).trans hJ.rD
    have kp3 := hJ.kp.trans (kp_putObj W2 (w2.heap.size + 1) o') (fun k hk _ => .inr (.inr (by omega)))
    have o3 := own_putObj ho hJ.rl rfl o'
    have hx3 : (W2.putObj (w2.heap.size + 1) o').heap[w1.heap.size]? = _ := (World.putObj_heap_other (by omega)).trans hx
    rw [seenBy_hits] at o3 hx3
    obtain ⟨Z, hZ⟩ : ∃ Z, seenT sz cs low high cs.length = Z := ⟨_, rfl⟩
    rw [hZ] at o3 hx3
    generalize W2.putObj (w2.heap.size + 1) o' = W3 at rD3 kp3 o3 hx3 ⊢
    have q9 := blk_cell hx3 0
    have O3 := Lib.hid o3; have RD3 := Lib.hid rD3; have KP3 := Lib.hid kp3; have HZ := Lib.hid hZ
    have H5 := Lib.hid h5
    clear o3 rD3 kp3 hx3 hZ hJ hl2 h3 h4 h5 hx ho
    go_wp2
    refine rf_leave rfl RD3.out (results_tmp2 rfl _ _ _) ⟨a9, c9, by rw [HZ.out]; rfl, by rw [HZ.out]; exact own_putObj O3.out RD3.out rfl _, fun d hd' => ?_, ?_⟩
    · have := hd d hd'; have := HS1.out; have := S2.out; have := H5.out; show w.heap.size ≤ d.block; omega
    · have k4 := KP3.out.trans (kp_putObj W3 w2.heap.size (.deferred none)) (fun k hk _ => .inr (.inr (by omega)))
      have k5 : Kp (fun k => w1.heap.size ≤ k) w1 _ := (kp_of_nw N2.out _).trans k4 (fun k hk hlt => by have := S2.out; omega)
      exact Below.trans HN.out (k5.below (B := w.heap.size) (fun k hk => by omega) (by omega))
  case hy =>
    intro m p A hm1 hJ hmA hpN hph
    have HMA := Lib.hid hmA; clear hmA
    have rl := hJ.rl
    rw [ELP.out] at rl
    refine rf_round rl rfl ?_
    gi_wp2
    refine ⟨rfl, fun o ho => ?_⟩
    have h3 := HS1.out
    have h4 := S2.out
    have h5 := hJ.hm
    have hlt := blk_lt hJ.rl
    have hkA := kp_putObj A (w2.heap.size + 1) o
    have tvo := hJ.tv.putObj hJ.rl rfl o
    have hlo : (A.putObj (w2.heap.size + 1) o).heap[w2.heap.size + 1]? = some o := World.putObj_heap_same hlt
    have hDo : (A.putObj (w2.heap.size + 1) o).heap[w2.heap.size]? = some (.deferred (some [])) := (World.putObj_heap_other (by omega)).trans hJ.rD
    have hkp := hJ.kp
    obtain ⟨a9, c9, hx, ho9, hd9⟩ := hJ.own
    have h9o := own_putObj ho9 hJ.rl rfl o
    have hxo : (A.putObj (w2.heap.size + 1) o).heap[w1.heap.size]? = _ := (World.putObj_heap_other (by omega)).trans hx
    have hso := hJ.set.kp hkA (show ¬ w1.heap.size + 1 = w2.heap.size + 1 by omega)
    have hmo : (A.putObj (w2.heap.size + 1) o).heap[m]? = A.heap[m]? := World.putObj_heap_other (by omega)
    have hAs : (A.putObj (w2.heap.size + 1) o).heap.size = A.heap.size := by simp
    generalize A.putObj (w2.heap.size + 1) o = A1 at hkA tvo hlo hDo h9o hxo hso hmo hAs ⊢
    have kA := hkp.trans hkA (fun k hk _ => .inr (.inr (by omega)))
    have q0 : A1.cell? ⟨w.heap.size, 0, none⟩ = some (.pointer (some ⟨b, 0, none⟩)) := blk_cell (kA.blk (nw_blk N2.out K1.out) (by have := blk_lt K1.out; have := HN.out.size; have := hbsl; omega)) 0
    have q1 := tvo.c1
    have q2 := own_cell tvo.2.2.1 (j := p) hpN
    have q3 : A1.cell? ⟨w1.heap.size + 2, 0, none⟩ = some (.map (some (w1.heap.size + 1))) := blk_cell (kA.blk KM.out (by omega)) 0
    have q4 := blk_cell hxo 0
    have hlen := seenBy_len sz cs low high p
    have hm4 := HWF.out.most
    obtain ⟨X, hX⟩ : ∃ X, seenBy cs (hits sz low high p) = X := ⟨_, rfl⟩
    rw [hX] at h9o hxo hso q4 hlen
    obtain ⟨x, hxx⟩ : ∃ x, rd cs p = x := ⟨_, rfl⟩
    have hwx := HCS.out p hpN
    rw [hxx] at q2 hwx
    have hlk := hso.look x hwx
    have q4f := blk_frozen hxo 0
    have hl1 := blk_lt hlo; have hl2 := blk_lt hDo; have hl9 := blk_lt hxo; have hls := hso.lt
    have HMO := Lib.hid hmo; have HAS := Lib.hid hAs; have H9O := Lib.hid h9o; have H9D := Lib.hid hd9; have TVO := Lib.hid tvo; have HLO := Lib.hid hlo; have HDO := Lib.hid hDo; have KA := Lib.hid kA; have HO := Lib.hid ho; have RL := Lib.hid rl; have HXO := Lib.hid hxo; have HSO := Lib.hid hso; have HX := Lib.hid hX; have HXX := Lib.hid hxx; have PH := Lib.hid hph; have HM5 := Lib.hid h5
    have hput := hso.put x hwx (by omega)
    have HPUT := Lib.hid hput
    have fin : ∀ (W3 : World) (X' : List Int) (a' : Option Addr) (c' : Nat), X' = seenBy cs (hits sz low high (p + 1)) → Kp (fun k => k = w1.heap.size ∨ k = w1.heap.size + 1 ∨ m < k) A1 W3 → W3.heap[w1.heap.size]? = some (.cells #[.slice a' X'.length c'] 30 (0, 0)) →
        W3.ownsRow 0 3 1 (.slice a' X'.length c') X'.length (iv .i64 X') → (∀ d, a' = some d → m < d.block) → BS W3 (w1.heap.size + 1) X' →
        W3.heap[w2.heap.size + 1]? = some o ∧ ∀ o', o' = Obj.loop lp →
        (Ending.returned (Value.bool true) = .returned (.bool true) ∧ SJ b sz cs vs (.slice (some ⟨g, 0, none⟩) cs.length cc) w1.heap.size (w1.heap.size + 1) (w2.heap.size + 1) w2.heap.size W1.heap.size w2 lp m (seenBy cs (hits sz low high (p + 1))) (W3.putObj (w2.heap.size + 1) o') ∧ (W3.putObj (w2.heap.size + 1) o').heap[m]? = A.heap[m]?) := by
      intro W3 X' a' c' hX' kk hb' ho' hd' hs'
      rw [← hX']
      have hl3 := kk.blk hlo (by omega)
      have hD3 := kk.blk hDo (by omega)
      have tv3 := tvo.kp kk (by omega) (fun k hk => by have := own_lt hT.out.2.1 hk; omega) (fun k hk => by (have e1 : g = k := by injection hk); omega)
      refine ⟨hl3, fun o' ho2 => ⟨rfl, ⟨tv3.putObj hl3 (by rw [ho]; rfl) o', ?_, by rw [ho2]; exact World.putObj_heap_same (blk_lt hl3), (World.putObj_heap_other (by omega)).trans hD3, h5, ⟨a', c', (World.putObj_heap_other (by omega)).trans hb', own_putObj ho' hl3 (by rw [ho]; rfl) o', hd'⟩, hs'.kp (kp_putObj W3 _ o') (show ¬ w1.heap.size + 1 = w2.heap.size + 1 by omega)⟩, ?_⟩⟩
      · exact (kA.trans kk (fun k hk _ => by omega)).trans (kp_putObj W3 _ o') (fun k hk _ => .inr (.inr (by omega)))
      · exact (World.putObj_heap_other (by omega)).trans ((kk.block m (by have := HMA.out; omega) (by omega)).trans hmo)
    have FIN := Lib.hid fin; clear fin
    have H4 := Lib.hid h4
    clear hmo hAs h9o hd9 tvo hlo hDo hkp hkA kA ho rl hJ hxo hso hX hxx hph h5 hput ho9 hx h3 h4
    by_cases hin : x ∈ X
    · have hlk2 := hlk
      rw [show decide (x ∈ X) = true by simp [hin]] at hlk2
      have hfin := FIN.out A1 X a9 c9 (by rw [hits_hit PH.out, seenBy_old (by rw [HX.out, HXX.out]; exact hin), HX.out]) (Kp.refl _ _) HXO.out H9O.out H9D.out HSO.out
      have HFIN := Lib.hid hfin
      clear hlk hin hfin
      gi_wp2
      have hfin := HFIN.out
      exact ⟨by rw [← HO.out]; exact hfin.1, rfl, (hfin.2 _ (by rw [ELP.out])).2⟩
    · have hlk2 := hlk
      rw [show decide (x ∈ X) = false by simp [hin]] at hlk2
      obtain ⟨A2, hrun, hs2, hk2⟩ := HPUT.out
      have h9 : ∀ k, (Value.slice a9 X.length c9).ownBlock = some k → m < k := fun k hk => by
        rcases a9 with _ | d
        · cases hk
        · have e2 : d.block = k := by injection hk
          have := H9D.out d rfl; omega
      have hml : m < A1.heap.size := by have := HMA.out; have := HAS.out; omega
      have hmb : w1.heap.size + 3 < m := by have := HS1.out; have := H4.out; have := HM5.out; omega
      have o2 := hk2.own H9O.out (fun k hk => by have := h9 k hk; omega)
      obtain ⟨g9, c5, A3, hap, o3, hk3, hg3⟩ := app1run A2 (.slice a9 X.length c9) X x o2 (by omega)
      have b2 := hk2.blk HXO.out (show ¬ w1.heap.size = w1.heap.size + 1 by omega)
      have b3 := hk3.blk b2 (fun hk => by have := h9 _ hk; omega)
      have q42 := blk_cell b2 0
      have q43 := blk_cell b3 0
      have q43f := blk_frozen b3 0
      have hfin := FIN.out (A3.setCell ⟨w1.heap.size, 0, none⟩ (.slice (some ⟨g9, 0, none⟩) (X ++ [x]).length c5)) (X ++ [x]) (some ⟨g9, 0, none⟩) c5 (by rw [hits_hit PH.out, seenBy_new (by rw [HX.out, HXX.out]; exact hin), HX.out, HXX.out])
        (Kp.setCell ((hk2.mono (T := fun k => k = w1.heap.size ∨ k = w1.heap.size + 1 ∨ m < k) (fun k hk _ => .inr (.inl hk))).trans hk3 (fun k hk _ => .inr (.inr (h9 k hk)))) (p := ⟨w1.heap.size, 0, none⟩) (fun _ => .inl rfl) _)
        (blk_set b3 0 _) (own_set o3 (fun e => by
          have e2 : g9 = w1.heap.size := by injection e
          rcases hg3 with hg3 | hg3
          · have := h9 _ hg3; omega
          · have := hk2.size; omega) _)
        (fun d hd => by
          cases hd
          show m < g9
          rcases hg3 with hg3 | hg3
          · exact h9 _ hg3
          · have := hk2.size; omega)
        ((hs2.kp hk3 (fun hk => by have := h9 _ hk; omega)).kp (Kp.setCell (S := fun k => k = w1.heap.size) (Kp.refl _ A3) (p := ⟨w1.heap.size, 0, none⟩) (fun _ => rfl) _) (show ¬ w1.heap.size + 1 = w1.heap.size by omega))
      have HFIN := Lib.hid hfin
      generalize (X ++ [x]).length = nX at *
      clear hlk hin hfin o2 o3 hk2 hk3 hg3 b2 b3 h9 hml hmb hs2
      have HAP := Lib.hid hap; clear hap
      gi_wp2_with (gi_at_builtin; refine wpListIn_append_run rfl (.tmp 40) (.tmp 42) 30 rfl _ _ rfl rfl _ _ HAP.out ?_)
      have hfin := HFIN.out
      exact ⟨by rw [← HO.out]; exact hfin.1, rfl, (hfin.2 _ (by rw [ELP.out])).2⟩
end Go.Proofs.Ytbofjdckmkifaaa
