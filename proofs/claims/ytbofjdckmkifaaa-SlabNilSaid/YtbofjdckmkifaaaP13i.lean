/-
  The walk of the slab's Grow, where it grows. Conditions: the slab is one that may be.
-/
import Derived.Test.YtbofjdckmkifaaaP13h
import Derived.Test.YtbofjdckmkifaaaM13
import Derived.Test.YtbofjdckmkifaaaCat3
namespace Go.Proofs.Ytbofjdckmkifaaa
open Go.RowKit Go.Shelf
attribute [local go_sem] Oper.semAt_some

/-- what stands between two rounds of Grow, of Shrink: X has been gathered in the box b9 -/
structure GJ (b : Nat) (sz cs : List Int) (vs vc : Value) (b9 l D : Nat) (w1 : World) (lp : Loop) (X : List Int) (W : World) : Prop where
  tv : TwoV 77 W b sz cs vs vc
  kp : Kp (fun k => k = b9 ∨ w1.heap.size ≤ k) w1 W
  rl : W.heap[l]? = some (.loop lp)
  rD : W.heap[D]? = some (.deferred (some []))
  bx : ∃ a c, W.heap[b9]? = some (.cells #[.slice a X.length c] 30 (0, 0)) ∧ W.ownsRow 0 3 1 (.slice a X.length c) X.length (iv .i64 X) ∧ (∀ d, a = some d → w1.heap.size ≤ d.block ∧ d.block ≠ l ∧ d.block ≠ D)
theorem own_none {w : World} {base n c m : Nat} {e : TypeId} {xs : List Value} (h : w.ownsRow base e 1 (.slice none n c) m xs) : c = 0 := by
  rcases h.2 with ⟨hv, _⟩ | ⟨g, cap, cur, hv, _⟩
  · cases hv; rfl
  · cases hv
theorem own_putObj {w : World} {base n : Nat} {e : TypeId} {v : Value} {xs : List Value} (h : w.ownsRow base e 1 v n xs) {l : Nat} {o : Obj} (ho : w.heap[l]? = some o) (hc : o.isCells = false) (o' : Obj) : (w.putObj l o').ownsRow base e 1 v n xs :=
  (kp_putObj w l o').own h (fun k hk e => by
    subst e
    rcases h.2 with ⟨rfl, _⟩ | ⟨g, cap, cur, rfl, _, hg, _⟩
    · cases hk
    · have : g = k := by injection hk
      subst this; rw [hg] at ho; cases ho; cases hc)

set_option maxRecDepth 100000 in
set_option maxHeartbeats 2000000 in
theorem growP_ok (F : Nat → Prop) (w : World) (b : Nat) (sz cs : List Int) (a i : Nat) (hwf : Wf sz cs) (h : Two 77 F w b sz cs) (hb : growBad sz a i = false) (hN : (growN sz cs a : Int) ≤ 4096) :
    Calls Try.prog 17 #[.pointer (some ⟨b, 0, none⟩), .int .i64 (a : Int), .int .i64 (i : Int)] w fun e w' => e = .returned (.int .i64 0) ∧
      Two 77 (fun k => F k ∨ w.heap.size ≤ k) w' b (growS sz a) (growC sz cs a i) ∧ Kp F w w' := by
  have hrw := Lib.hid (fun (W : World) (hn : Nw w W) (ha : a < sz.length) => rowsP F W b sz cs a hwf (h.nw hn) ha)
  obtain ⟨vs, vc, ht, hFb, hFs, hFc⟩ := h
  obtain ⟨az, zc, rfl, hzc, hzm, hz, hzb⟩ := own_IR ht.2.1
  obtain ⟨bz, oz, rfl, hz'⟩ := IR_some hz (by have := hwf.lo; omega)
  obtain ⟨ac, cc, rfl, hcc, hcm, hcr, hcb⟩ := own_IR ht.2.2.1
  obtain ⟨g, og, rfl, hcr'⟩ := IR_some hcr (by have := hwf.pos'; omega)
  obtain ⟨-, hg0, -, -, hgl⟩ := hcb _ rfl
  obtain ⟨-, hz0, -, -, hzl⟩ := hzb _ rfl
  simp only at hg0 hgl hz0 hzl
  subst hg0; subst hz0
  simp only [Nat.zero_add] at hz'
  have h6 := hwf.hi; have hmost := hwf.most
  simp only [growBad, Bool.or_eq_false_iff, decide_eq_false_iff_not, Int.toNat_natCast] at hb
  have ha : a < sz.length := by omega
  have hi : (i : Int) < rd sz a := by omega
  obtain ⟨one, s, rows, r3⟩ := rows3 hwf ha
  have his : i + 1 ≤ s := by have := r3.s_; omega
  have nb := nw_alloc w (.cells #[.int .i64 (i : Int)] 3)
  have p0 := nw_cell nb ht.c0
  have p1 := nw_cell nb ht.c1
  have g0 := nw_cell nb (hz' a ha)
  have gN := grow_sum hwf ha
  have gq := (grow_pr hwf ha).2
  have gq1 : (cs.length : Int) / rd sz a ≤ cs.length := Int.ediv_le_self _ (by omega)
  have hsuf4 := suf_le hwf a (by omega)
  rw [suf_step sz ha] at hsuf4
  rw [r3.one_, r3.s_] at hsuf4
  have hone4 := suf_le hwf (a + 1) (by omega)
  rw [r3.one_] at hone4
  have hall4 : one * s ≤ 4096 := by have : ((one * s : Nat) : Int) = (s : Int) * one := by rw [Int.natCast_mul, Int.mul_comm]
                                    omega
  have q1 : decide ((a : Int) < 0) = false := by simp
  have q3 : decide ((a : Int) ≥ (sz.length : Int)) = false := by simp; omega
  have q3' : decide (sz.length ≤ a) = false := by simp; omega
  have q5 : decide ((i : Int) < 0) = false := by simp
  have q6 : decide ((i : Int) ≥ rd sz a) = false := by simp; omega
  have gs := hwf.size_le ha
  rw [gN] at hN
  have q7 : decide ((cs.length : Int) + (cs.length : Int) / rd sz a > 4096) = false := by simp; omega
  have hwr : IntKind.i64.wrap ((cs.length : Int) + (cs.length : Int) / rd sz a) = (cs.length : Int) + (cs.length : Int) / rd sz a := IntWalk.i64_in _ (by omega)
  have HT := Lib.hid ht; have HWF := Lib.hid hwf; have HFB := Lib.hid hFb; have HFS := Lib.hid hFs; have HFC := Lib.hid hFc; have R3 := Lib.hid r3; have HGN := Lib.hid gN; have HZ := Lib.hid hz'; have HI := Lib.hid hi
  clear hz' hz hzb hcr hcr' hcb hb gN hwf ht hFb hFs hFc r3 hi
  refine rf_calls 3 Try.func17 rfl ?_
  simp only [Try.ntmps17, List.size_toArray, List.length_cons, List.length_nil, Nat.reduceAdd, Nat.reduceSub, Array.replicate_succ, Array.replicate_zero, List.push_toArray, List.append_toArray, List.nil_append, List.cons_append]
  go_wp2
  go_quiet (fail)
  go_wp2
  go_quiet (fail)
  go_wp2_with fail
  refine (hrw.out _ (nw_trans (nw_alloc _ _) (nw_drewN _ _)) ha).mono ?_; rintro e w1 ⟨rfl, n1, hw1⟩
  have k1 : w1.heap[w.heap.size]? = some (.cells #[.int .i64 (i : Int)] 3 (0, 0)) := by
    rw [hw1]; simp only [World.drewN_drewN, World.heap_drewN]; exact World.alloc_heap_new _ _
  have s1 : w1.heap.size = w.heap.size + 1 := by rw [hw1]; simp only [World.drewN_drewN, World.heap_drewN, World.size_alloc]
  have n1 : Nw w w1 := by rw [hw1]; exact nw_trans (nw_trans (nw_alloc _ _) (nw_drewN _ _)) (nw_drewN _ _)
  obtain ⟨all, hall⟩ : ∃ all, one * s = all := ⟨_, rfl⟩
  have e1 : suf sz (a + 1) * rd sz a = (all : Int) := by rw [R3.out.one_, R3.out.s_, ← hall]; simp
  have HALL := Lib.hid hall
  rw [e1, R3.out.one_]
  clear hall hw1 hrw g0 p0 p1 nb hwr q1 q3 q3' q5 q6 q7 e1
  have T1 := HT.out.nw n1
  have p1 := nw_cell (nw_trans (nw_alloc w1 (.cells #[.int .i64 (one : Int)] 3)) (nw_alloc _ (.cells #[.slice none 0 0] 30))) T1.c1
  have K1 := Lib.hid k1; have NW1 := Lib.hid n1; have S1 := Lib.hid s1
  clear T1 k1 n1 s1
  go_wp2_with fail
  have hall1 : (1 : Int) ≤ (all : Int) := by
    have h1 := R3.out.p1; have h2 := R3.out.p2; have h3 := Nat.mul_le_mul h1 h2; have h4 := HALL.out; omega
  refine (chunkI _ _ _ _ _ hall1).mono ?_; rintro e w2 ⟨rfl, h3, h4, hn2⟩
  simp only [World.size_alloc, Nat.add_assoc, Nat.reduceAdd] at h3 h4
  have n2 := nw_trans (nw_trans (nw_alloc w1 (.cells #[.int .i64 (one : Int)] 3)) (nw_alloc _ (.cells #[.slice none 0 0] 30))) hn2
  have k7 : w2.heap[w1.heap.size]? = some (.cells #[.int .i64 (one : Int)] 3 (0, 0)) := nw_blk hn2 (by simp only [heap_alloc_if, World.size_alloc]; repeat (first | rw [if_pos trivial] | rw [if_pos (by omega)] | rw [if_neg (by omega)]))
  have k9 : w2.heap[w1.heap.size + 1]? = some (.cells #[.slice none 0 0] 30 (0, 0)) := nw_blk hn2 (by simp only [heap_alloc_if, World.size_alloc]; repeat (first | rw [if_pos trivial] | rw [if_pos (by omega)] | rw [if_neg (by omega)]))
  have H3 := Lib.hid h3; have H4 := Lib.hid h4; have K7 := Lib.hid k7; have K9 := Lib.hid k9; have NW2 := Lib.hid n2
  have s2 := hn2.size
  simp only [World.size_alloc] at s2
  clear h3 h4 k7 k9 n2 hn2 p1
  go_wp2
  refine (wpIn_wide (n := 3)).1 (rf_enter (gf := 71) rfl (enters_of Try.func71 (by kernel_rfl) rfl) ?_)
  intro fn W1 hn3 hs3 hl hD
  obtain ⟨lp, hlp⟩ : ∃ lp, W1.heap[w2.heap.size + 1]? = some (.loop lp) := ⟨_, hl⟩
  have elp := Obj.loop.inj (Option.some.inj (hlp.symm.trans hl))
  have ELP := Lib.hid elp; clear elp hl
  have hl := hlp; clear hlp
  have T1 := ((HT.out.nw NW1.out).nw NW2.out).nw hn3
  have HT1 := Lib.hid T1; have HL := Lib.hid hl; have HD := Lib.hid hD; have HN3 := Lib.hid hn3
  have hb3 := blk_lt H4.out
  have hbl : b < w.heap.size := blk_lt HT.out.1
  clear T1 hl hD hn3
  obtain ⟨b9, hb9⟩ : ∃ b9, w1.heap.size + 1 = b9 := ⟨_, rfl⟩
  obtain ⟨l, hl⟩ : ∃ l, w2.heap.size + 1 = l := ⟨_, rfl⟩
  rw [hl] at HL ⊢
  simp only [Nat.add_assoc, Nat.reduceAdd]
  rw [hb9] at K9
  refine callsIn_wide.2 ((chunkIt 1 l (w1.heap.size + 2) (w1.heap.size + 3) g 0 all rows cs.length cc
    (fun r => GJ b sz cs (.slice (some ⟨bz, 0, none⟩) sz.length zc) (.slice (some ⟨g, 0, none⟩) cs.length cc) b9 l w2.heap.size w2 lp (growR cs one all i r)) (fun _ _ => False) (by rw [R3.out.len_, HALL.out]) (by omega) hcc hcm (by omega)
    (fun r A hJ => ⟨hJ.kp.blk H3.out (by have := S1.out; omega), hJ.kp.blk H4.out (by have := S1.out; omega)⟩) (fun r A k hJ => ⟨hJ.tv, hJ.kp.drewN _, hJ.rl, hJ.rD, hJ.bx⟩) W1 ?h0 ?hy).mono ?hfin)
  case h0 =>
    refine ⟨HT1.out, kp_of_nw HN3.out _, HL.out, HD.out, none, 0, nw_blk HN3.out K9.out, ?_, fun d hd => by cases hd⟩
    exact ⟨by simp [iv, growR], .inl ⟨rfl, by simp [iv, growR]⟩⟩
  case hfin =>
    rintro e W2 ⟨⟨v, rfl⟩, hJ | ⟨r, _, hx⟩⟩
    rotate_left
    · exact hx.elim
    have hl2 := hJ.rl
    rw [ELP.out] at hl2
    refine rf_done hl2 (fun o' => ?_)
    obtain ⟨a9, c9, hb9c, h9o, h9d⟩ := hJ.bx
    have tv3 := hJ.tv.putObj hJ.rl rfl o'
    have rD3 : (W2.putObj l o').heap[w2.heap.size]? = some (.deferred (some [])) := (World.putObj_heap_other (by omega)).trans hJ.rD
    have kp3 := hJ.kp.trans (kp_putObj W2 l o') (fun k hk _ => .inr (by omega))
    have o3 := own_putObj h9o hJ.rl rfl o'
    have hs1 := S1.out
    have hlt9 := blk_lt K9.out
    have h93 : (W2.putObj l o').heap[b9]? = _ := (World.putObj_heap_other (by omega)).trans hb9c
    have hge : growR cs one all i rows = growC sz cs a i := by rw [← HALL.out]; exact growR_eq HWF.out ha HI.out R3.out
    rw [hge] at o3 h93
    clear hge
    obtain ⟨Z, hZ⟩ : ∃ Z, growC sz cs a i = Z := ⟨_, rfl⟩
    rw [hZ] at o3 h93
    have HZZ := Lib.hid hZ; clear hZ
    generalize W2.putObj l o' = W3 at tv3 rD3 kp3 o3 h93 ⊢
    have q9 := blk_cell h93 0
    have tv4 := tv3.put1 (by decide) o3 (fun k hk e => by
      have e1 : bz = k := by injection hk
      rcases a9 with _ | d
      · cases e
      · have e2 : d.block = k := by injection e
        have := (h9d d rfl).1; omega)
    obtain ⟨W4, hW4⟩ : ∃ W4, W3.setCell ⟨b, 1, none⟩ (.slice a9 Z.length c9) = W4 := ⟨_, rfl⟩
    rw [hW4] at tv4
    have tv5 := tv4.set0 (by decide) rfl a (rd sz a + 1)
    have qb := tv3.c1
    have qbf := tv3.fr 1
    have q0 := tv4.c0
    have qz := own_cell tv4.2.1 (j := a) ha
    have qzf := own_frozen tv4.2.1 a
    have hwr : IntKind.i64.wrap (rd sz a + 1) = rd sz a + 1 := IntWalk.i64_in _ (by omega)
    have kp4 : Kp (fun k => F k ∨ w.heap.size ≤ k) w W4 := by
      rw [← hW4]
      exact Kp.setCell (((kp_of_nw (nw_trans NW1.out NW2.out) _).trans kp3 (fun k hk hlt => by omega))) (fun _ => .inl HFB.out) _
    have TV5 := Lib.hid tv5; have RD3 := Lib.hid rD3; have KP4 := Lib.hid kp4; have HW4 := Lib.hid hW4
    have hbD : ¬ w2.heap.size = b := by omega
    have hzD : ¬ w2.heap.size = bz := by omega
    clear tv3 tv4 tv5 rD3 kp3 kp4 o3 hs1 hl2 hJ hb9c h9o
    go_wp2
    have hD4 : W4.heap[w2.heap.size]? = some (.deferred (some [])) := by rw [← HW4.out]; exact blk_far RD3.out hbD _
    have hD5 := blk_far hD4 (p := ⟨bz, a, none⟩) hzD (.int .i64 (rd sz a + 1))
    refine rf_leave rfl hD5 (results_tmp rfl _ _ _) ⟨rfl, ⟨_, _, by rw [HZZ.out]; exact TV5.out.putObj hD5 rfl _, .inl HFB.out, fun k hk => .inl (HFS.out k hk), fun k hk => .inr ?_⟩, ?_⟩
    · rcases a9 with _ | d
      · cases hk
      · have e2 : d.block = k := by injection hk
        have := (h9d d rfl).1; have := S1.out; omega
    · have k5 := Kp.setCell KP4.out (p := ⟨bz, a, none⟩) (fun _ => .inl (HFS.out bz rfl)) (.int .i64 (rd sz a + 1))
      refine (k5.trans (kp_putObj _ w2.heap.size _) (fun k hk _ => .inr (by have := S1.out; omega))).mono (fun k hk hlt => ?_)
      rcases hk with hk | hk
      · exact hk
      · omega
  case hy =>
    intro r A hr hJ
    have rl := hJ.rl
    rw [ELP.out] at rl
    rw [Nat.zero_add]
    refine rf_round rl rfl ?_
    gi_wp2
    refine ⟨rfl, fun o ho => ?_⟩
    have hs1 := S1.out
    have hkA := kp_putObj A l o
    have hlt := blk_lt hJ.rl
    have tvo := hJ.tv.putObj hJ.rl rfl o
    have hlo : (A.putObj l o).heap[l]? = some o := World.putObj_heap_same hlt
    have hDo : (A.putObj l o).heap[w2.heap.size]? = some (.deferred (some [])) := (World.putObj_heap_other (by omega)).trans hJ.rD
    have hkp := hJ.kp
    obtain ⟨a9, c9, hb9c, h9o, h9d⟩ := hJ.bx
    have h9o2 := own_putObj h9o hJ.rl rfl o
    have hb9c2 : (A.putObj l o).heap[b9]? = _ := (World.putObj_heap_other (by omega)).trans hb9c
    generalize A.putObj l o = A1 at hkA tvo hlo hDo h9o2 hb9c2 ⊢
    have kA := hkp.trans hkA (fun k hk _ => .inr (by omega))
    have hrowl := rowAt_length (by rw [R3.out.len_, HALL.out] : cs.length = rows * all) hr
    have hrow : IR .i64 A1 (some ⟨g, r * all, none⟩) (rowAt cs all r) := by
      have h1 := (own_rd tvo.2.2.1).drop (r * all)
      rw [Nat.zero_add] at h1
      exact h1.take all
    have q5 : A1.cell? ⟨w.heap.size, 0, none⟩ = some (.int .i64 (i : Int)) := blk_cell (kA.blk (nw_blk NW2.out K1.out) (by omega)) 0
    have q7 : A1.cell? ⟨w1.heap.size, 0, none⟩ = some (.int .i64 (one : Int)) := blk_cell (kA.blk K7.out (by omega)) 0
    have q9 := blk_cell hb9c2 0
    have q9f := blk_frozen hb9c2 0
    obtain ⟨e1, he1⟩ : ∃ e1 : Nat, (i + 1) * one = e1 := ⟨_, rfl⟩
    obtain ⟨e0, he0⟩ : ∃ e0 : Nat, i * one = e0 := ⟨_, rfl⟩
    have he1l : e1 ≤ all := by rw [← he1, ← HALL.out, Nat.mul_comm]; exact Nat.mul_le_mul_left _ his
    have he0l : e0 < all := by have h1 := R3.out.p1; rw [Nat.add_mul, Nat.one_mul, he0] at he1; omega
    have hal4 : all ≤ 4096 := by have := HALL.out; omega
    have hw1 : IntKind.i64.wrap ((i : Int) + 1) = (i : Int) + 1 := IntWalk.i64_in _ (by have := R3.out.s_; omega)
    have hw2 : IntKind.i64.wrap (((i : Int) + 1) * (one : Int)) = (e1 : Int) := by
      rw [show ((i : Int) + 1) * (one : Int) = ((e1 : Nat) : Int) by rw [← he1]; simp]
      exact IntWalk.i64_in _ (by omega)
    have hw3 : IntKind.i64.wrap ((i : Int) * (one : Int)) = (e0 : Int) := by
      rw [show (i : Int) * (one : Int) = ((e0 : Nat) : Int) by rw [← he0]; simp]
      exact IntWalk.i64_in _ (by omega)
    have he0l2 : e0 ≤ all := by omega
    have he0n : ¬ all = e0 := by omega
    have HE1 := Lib.hid he1; have HE0 := Lib.hid he0
    obtain ⟨X', hX'⟩ : ∃ X', X' = growR cs one all i r ++ (rowAt cs all r).take ((i + 1) * one) ++ (rowAt cs all r).drop (i * one) := ⟨_, rfl⟩
    have HX' := Lib.hid (show growR cs one all i (r + 1) = X' by rw [growR, hX'])
    have hc3 : ∀ W, W = (A1.alloc (Obj.cells #[Value.slice a9 (growR cs one all i r).length c9, Value.slice (some { block := g, off := r * all }) e1 all, Value.slice (some { block := g, off := r * all + e0 }) (all - e0) (all - e0)] 30)).drew → _ :=
      fun W hW => concat3 W A1.heap.size 30 a9 (some ⟨g, r * all, none⟩) (some ⟨g, r * all + e0, none⟩) c9 all (all - e0) _ e1 (all - e0) (growR cs one all i r) ((rowAt cs all r).take ((i + 1) * one)) ((rowAt cs all r).drop (i * one)) X' hX' rfl
        (by rw [List.length_take, hrowl, he1]; omega) (by rw [List.length_drop, hrowl, he0]) (by rw [hW]; exact blk_new A1 _)
        (by rw [hW]; exact (own_rd h9o2).nw (nw_trans (nw_alloc A1 _) (nw_drewN _ 1)))
        (by rw [hW]; exact ((hrow.nw (nw_trans (nw_alloc A1 _) (nw_drewN _ 1))).take _))
        (by rw [hW, ← he0]; exact ((hrow.nw (nw_trans (nw_alloc A1 _) (nw_drewN _ 1))).drop _))
        (fun e => by subst e; exact own_none h9o2) (fun e => by cases e) (fun e => by cases e)
        (by have hg := growR_length (one := one) (i := i) (by rw [R3.out.len_, HALL.out]) (by rw [he1]; exact he1l) (r + 1) hr
            rw [growR, ← hX'] at hg; rw [hg]
            have : (r + 1) * (all + one) ≤ rows * (all + one) := Nat.mul_le_mul_right _ hr
            have h5 := growN_rows HWF.out ha R3.out
            have h6 := HGN.out
            rw [HALL.out] at h5
            omega)
    have HC3 := Lib.hid hc3
    have HB9 := Lib.hid hb9c2; have H9O := Lib.hid h9o2; have H9D := Lib.hid h9d; have TVO := Lib.hid tvo; have HLO := Lib.hid hlo; have HDO := Lib.hid hDo; have HKP := Lib.hid hkp; have HKA := Lib.hid hkA; have KA := Lib.hid kA; have HO := Lib.hid ho; have RL := Lib.hid rl
    clear hX' hs1 he1 he0 hc3 hb9c2 h9o h9o2 h9d tvo hlo hDo hkp hkA kA ho rl hJ hb9c hrow hrowl
    refine wpIn_block ?_
    refine rf_tail 12 (by kernel_rfl) (by kernel_rfl) (by kernel_rfl) (inBlock_out (rfPost_out)) ?_
    simp only [List.take_succ_cons, List.take_zero, List.drop_succ_cons, List.drop_zero]
    repeat still_step
    refine wpStill_nil ?_
    go_wp2_with fail
    refine (HC3.out _ rfl).mono ?_; rintro e w4 ⟨a4, c4, rfl, h4o, h4d, h4n⟩
    have H4O := Lib.hid h4o; have H4D := Lib.hid h4d; have H4N := Lib.hid h4n
    clear h4o h4d h4n HC3
    have n4 : Nw A1 w4 := nw_trans (nw_trans (nw_alloc A1 _) (nw_drewN _ 1)) H4N.out
    have hb94 := nw_blk n4 HB9.out
    have q9f4 := blk_frozen hb94 0
    have q94 := blk_cell hb94 0
    have H94 := Lib.hid hb94; have N4 := Lib.hid n4
    clear hb94 n4 q9 q9f q5 q7
    have hl1 := blk_lt HLO.out; have hl2 := blk_lt HDO.out; have hl9 := blk_lt HB9.out
    have fin : ∀ W3, W3 = w4.setCell ⟨b9, 0, none⟩ (.slice a4 X'.length c4) → W3.heap[l]? = some o ∧ ∀ o', o' = Obj.loop lp →
        GJ b sz cs (.slice (some ⟨bz, 0, none⟩) sz.length zc) (.slice (some ⟨g, 0, none⟩) cs.length cc) b9 l w2.heap.size w2 lp X' (W3.putObj l o') := by
      intro W3 hW3
      have hs1 := S1.out
      have k43 : Kp (fun k => k = b9) w4 W3 := by rw [hW3]; exact Kp.setCell (S := fun k => k = b9) (Kp.refl _ w4) (p := ⟨b9, 0, none⟩) (fun _ => rfl) _
      have k13 : Kp (fun k => k = b9) A1 W3 := (kp_of_nw N4.out _).trans k43 (fun k hk _ => hk)
      have hl3 := k13.blk HLO.out (show ¬ l = b9 by omega)
      have hD3 := k13.blk HDO.out (show ¬ w2.heap.size = b9 by omega)
      have tv3 : TwoV 77 W3 b sz cs (.slice (some ⟨bz, 0, none⟩) sz.length zc) (.slice (some ⟨g, 0, none⟩) cs.length cc) :=
        TVO.out.kp k13 (by omega) (fun k hk => by have e1 : bz = k := by injection hk
                                                  omega) (fun k hk => by have e1 : g = k := by injection hk
                                                                         omega)
      have kk := KA.out.trans k13 (fun k hk _ => .inl hk)
      have o3 : W3.ownsRow 0 3 1 (.slice a4 X'.length c4) X'.length (iv .i64 X') := by
        rw [hW3]
        refine own_set H4O.out (fun e => ?_) _
        rcases a4 with _ | d
        · cases e
        · have e1 : d.block = b9 := by injection e
          have e2 := H4D.out d rfl
          simp only [World.size_alloc, World.drew_is_drewN, World.heap_drewN] at e2
          omega
      refine ⟨hl3, fun o' ho' => ⟨tv3.putObj hl3 (by rw [HO.out]; rfl) o', kk.trans (kp_putObj W3 l o') (fun k hk _ => .inr (by omega)), by rw [ho']; exact World.putObj_heap_same (blk_lt hl3), (World.putObj_heap_other (by omega)).trans hD3, a4, c4, ?_, own_putObj o3 hl3 (by rw [HO.out]; rfl) o', ?_⟩⟩
      · rw [World.putObj_heap_other (by omega), hW3]
        exact blk_set H94.out 0 _
      · intro d hd
        have e2 := H4D.out d hd
        simp only [World.size_alloc, World.drew_is_drewN, World.heap_drewN] at e2
        omega
    have FIN := Lib.hid fin
    clear fin
    go_wp2
    have hfin := FIN.out _ rfl
    refine ⟨?_, ?_⟩
    · rw [HO.out] at hfin; exact hfin.1
    · refine ⟨rfl, ?_⟩; rw [HX'.out]; exact hfin.2 _ (by rw [ELP.out, hb9])
end Go.Proofs.Ytbofjdckmkifaaa
