/-
  The walks of the slab: product, Place, Get, Sizes, Cells and what follows it. No condition beside those that each theorem states.
-/
import Derived.Test.YtbofjdckmkifaaaRef13
import Derived.Test.YtbofjdckmkifaaaShelf
import Derived.Test.YtbofjdckmkifaaaMem2
import Derived.Deep.RegionLaw
import Derived.Laws.CopyOwn

/-! ## The walks of the slab: product, Place, Get, Sizes, Cells. Conditions: the slab is one that may be, or none. -/
namespace Go.Proofs.Ytbofjdckmkifaaa
open Go.RowKit

set_option maxHeartbeats 1000000 in
theorem productP (w : World) (sz : List Int) (a : Option Addr) (c : Nat) (hl : sz.length ≤ 1000000) (r : IR .i64 w a sz) :
    Calls Try.prog 55 #[.slice a sz.length c] w fun e w' => e = .returned (.int .i64 (prodV sz)) ∧ w = w' := by
  by_cases h0 : sz.length = 0
  · have : sz = [] := List.eq_nil_of_length_eq_zero h0
    subst this
    simp only [List.length_nil]
    go_enter Try.func55, Try.ntmps55
    go_wp2
    go_loop [3, 8] (fun n i => n = .int .i64 1 ∧ i = .int .i64 0) (fun _ _ => 0)
    case atStart => exact ⟨rfl, rfl⟩
    case round =>
      obtain ⟨rfl, rfl⟩ := hrel
      go_wp2
      go_ret
      exact ⟨rfl, rfl⟩
  obtain ⟨b, o, rfl, r'⟩ := IR_some r (by omega)
  clear r
  obtain ⟨l, hl'⟩ : ∃ l, l = sz.length := ⟨_, rfl⟩
  rw [← hl'] at h0 hl r' ⊢
  have R := Lib.hid r'; have HL := Lib.hid hl'; clear r' hl' h0
  go_enter Try.func55, Try.ntmps55
  go_wp2
  go_loop [3, 8] (fun n i => ∃ k : Nat, k ≤ l ∧ i = .int .i64 k ∧ n = .int .i64 (pr sz k) ∧ okp sz k = true) (fun _ i => l - (intOf i).toNat)
  case atStart => exact ⟨0, Nat.zero_le _, rfl, rfl, rfl⟩
  case round =>
    obtain ⟨k, hk, rfl, rfl, hok⟩ := hrel
    have hb := okp_bd hok
    have hb1 := hb.1; have hb2 := hb.2.1
    have HO := Lib.hid hok; clear hok hb
    by_cases hlt : k < l
    · have g1 := R.out k hlt
      have hbad : ∀ h : okp sz (k + 1) = false, prodV sz = 0 := fun h => by
        have := okp_mono (show k + 1 ≤ l by omega) h
        rw [HL.out] at this
        simp [prodV, this]
      have HB := Lib.hid hbad; clear hbad
      by_cases q0 : rd sz k < 1
      · have q1 : decide (rd sz k < 1) = true := by simp; omega
        go_wp2
        go_ret
        rw [HB.out (by simp [okp]; intro _; omega)]
        exact ⟨rfl, rfl⟩
      · have q1 : decide (rd sz k < 1) = false := by simp; omega
        by_cases q2 : 4096 < rd sz k
        · have q3 : decide (rd sz k > 4096) = true := by simp; omega
          go_wp2
          go_ret
          rw [HB.out (by simp [okp]; intro _ _; omega)]
          exact ⟨rfl, rfl⟩
        · have q3 : decide (rd sz k > 4096) = false := by simp; omega
          have m0 : 0 ≤ pr sz k * rd sz k := Int.mul_nonneg (by omega) (by omega)
          have m1 : pr sz k * rd sz k ≤ 4096 * 4096 := Int.mul_le_mul hb2 (by omega) (by omega) (by omega)
          by_cases q4 : 4096 < pr sz k * rd sz k
          · have q5 : decide (pr sz k * rd sz k > 4096) = true := by simp; omega
            go_wp2
            go_ret
            rw [HB.out (by simp [okp]; intro _ _ _; omega)]
            exact ⟨rfl, rfl⟩
          · have q5 : decide (pr sz k * rd sz k > 4096) = false := by simp; omega
            have hok1 : okp sz (k + 1) = true := by simp [okp, HO.out]; omega
            have HO1 := Lib.hid hok1; clear hok1
            go_wp2
            go_round
            case rel => exact ⟨k + 1, by omega, by go_num, rfl, HO1.out⟩
            case measure => simp [intOf]; try omega
    · obtain rfl : k = l := by omega
      go_wp2
      go_ret
      have h := HO.out
      rw [HL.out] at h
      have e : prodV sz = pr sz k := by rw [prodV, if_pos h, ← HL.out]
      rw [e]
      exact ⟨rfl, rfl⟩

set_option maxHeartbeats 400000 in
theorem placeP_len (F : Nat → Prop) (w : World) (b : Nat) (sz cs c : List Int) (ac : Option Addr) (cc : Nat) (h : Two 77 F w b sz cs) (hn : c.length ≠ sz.length) :
    Calls Try.prog 25 #[.pointer (some ⟨b, 0, none⟩), .slice ac c.length cc] w fun e w' => e = .returned (.tuple #[.int .i64 0, .int .i64 1]) ∧ w = w' := by
  obtain ⟨vs, vc, ⟨hb, hs, hc, hne⟩, _⟩ := h
  obtain ⟨az, zc, rfl, hzc, _, hz, _⟩ := own_IR hs
  have h0 := blk_cell hb 0
  clear hb hs hc hne hz
  have hq : ((c.length : Int) != (sz.length : Int)) = true := by simp; omega
  have H := Lib.hid hn; clear hn
  go_enter Try.func25, Try.ntmps25
  go_wp2
  go_ret2
  exact ⟨rfl, rfl⟩

set_option maxHeartbeats 400000 in
theorem placeP_eq (F : Nat → Prop) (w : World) (b : Nat) (sz cs c : List Int) (ac : Option Addr) (cc : Nat) (hwf : Wf sz cs) (h : Two 77 F w b sz cs) (hn : c.length = sz.length) (hcc : IR .i64 w ac c) :
    Calls Try.prog 25 #[.pointer (some ⟨b, 0, none⟩), .slice ac c.length cc] w fun e w' => e = .returned (.tuple #[.int .i64 (placeV sz c), .int .i64 (placeE sz c)]) ∧ w = w' := by
  obtain ⟨vs, vc, ⟨hb, hs, hc, hne⟩, _⟩ := h
  obtain ⟨az, zc, rfl, hzc, _, hz, _⟩ := own_IR hs
  obtain ⟨bz, oz, rfl, hz'⟩ := IR_some hz (by have := hwf.lo; omega)
  obtain ⟨bc, oc, rfl, hcc'⟩ := IR_some hcc (by have := hwf.lo; omega)
  clear hz hcc
  have hz := hz'; have hcc := hcc'; clear hz' hcc'
  have h0 := blk_cell hb 0
  clear hb hs hc hne
  have hlen : (c.length : Int) ≤ 6 := by have := hwf.hi; omega
  have hq : ((c.length : Int) != (c.length : Int)) = false := by simp
  obtain ⟨l, hl⟩ : ∃ l, l = c.length := ⟨_, rfl⟩
  rw [← hn] at h0 hzc hz
  rw [← hl] at h0 hzc hlen hcc hq hz ⊢
  have hpl : ∀ k, k ≤ l → okc sz c k = true → 0 ≤ plc sz c k ∧ plc sz c k ≤ 4096 := fun k hk hok => by
    have h1 := plc_lt hwf.pos (by omega) hok
    have h2 := hwf.pr_le (k := k) (by omega)
    omega
  have hsz : ∀ k, k < l → 1 ≤ rd sz k ∧ rd sz k ≤ 4096 := fun k hk => hwf.size_le (by omega)
  have HL := Lib.hid hl; have HN := Lib.hid hn; clear hl hn
  have HW := Lib.hid hwf; clear hwf
  have HP := Lib.hid hpl; have HS := Lib.hid hsz; have HZ := Lib.hid hz; have HC := Lib.hid hcc; clear hpl hsz hz hcc
  go_enter Try.func25, Try.ntmps25
  go_wp2
  go_loop [6,23] (fun n i => ∃ k : Nat, k ≤ l ∧ i = .int .i64 k ∧ n = .int .i64 (plc sz c k) ∧ okc sz c k = true) (fun _ i => l - (intOf i).toNat)
  case atStart => exact ⟨0, Nat.zero_le _, rfl, rfl, rfl⟩
  case round =>
    obtain ⟨k, hk, rfl, rfl, hok⟩ := hrel
    have HO := Lib.hid hok; clear hok
    by_cases hlt : k < l
    · have g1 := HZ.out k hlt
      have g2 := HC.out k hlt
      have g4 := HP.out k hk HO.out
      have g5 := HS.out k hlt
      by_cases q0 : rd c k < 0
      · have q1 : decide (rd c k < 0) = true := by simp; omega
        go_wp2
        go_ret2
        have hf : isCell sz c = false := by
          have : okc sz c (k + 1) = false := by simp [okc]; intro _; omega
          have := okc_mono (show k + 1 ≤ l by omega) this
          rw [HL.out] at this
          simp [isCell, this]
        exact ⟨by simp [placeV, placeE, hf], rfl⟩
      · by_cases q3 : rd sz k ≤ rd c k
        · have q1 : decide (rd c k < 0) = false := by simp; omega
          have q2 : decide (rd c k ≥ rd sz k) = true := by simp; omega
          go_wp2
          go_ret2
          have hf : isCell sz c = false := by
            have : okc sz c (k + 1) = false := by simp [okc]; intro _ _; omega
            have := okc_mono (show k + 1 ≤ l by omega) this
            rw [HL.out] at this
            simp [isCell, this]
          exact ⟨by simp [placeV, placeE, hf], rfl⟩
        · have q1 : decide (rd c k < 0) = false := by simp; omega
          have q2 : decide (rd c k ≥ rd sz k) = false := by simp; omega
          have hok1 : okc sz c (k + 1) = true := by simp [okc, HO.out]; omega
          have g6 := HP.out (k + 1) hlt hok1
          have HO1 := Lib.hid hok1; clear hok1
          simp only [plc] at g6
          go_wp2
          go_round
          case rel => exact ⟨k + 1, by omega, by go_num, rfl, HO1.out⟩
          case measure => simp [intOf]; omega
    · obtain rfl : k = l := by omega
      go_wp2
      go_ret2
      have hf : isCell sz c = true := by
        have := HO.out
        rw [HL.out] at this
        simp [isCell, this]; exact HN.out
      exact ⟨by simp [placeV, placeE, hf, HL.out], rfl⟩

theorem placeP (F : Nat → Prop) (w : World) (b : Nat) (sz cs c : List Int) (ac : Option Addr) (cc : Nat) (hwf : Wf sz cs) (h : Two 77 F w b sz cs) (hcc : IR .i64 w ac c) :
    Calls Try.prog 25 #[.pointer (some ⟨b, 0, none⟩), .slice ac c.length cc] w fun e w' => e = .returned (.tuple #[.int .i64 (placeV sz c), .int .i64 (placeE sz c)]) ∧ w = w' := by
  by_cases hn : c.length = sz.length
  · exact placeP_eq F w b sz cs c ac cc hwf h hn hcc
  · have hf : isCell sz c = false := by simp [isCell, hn]
    simp only [placeV, placeE, hf]
    exact placeP_len F w b sz cs c ac cc h hn

set_option maxHeartbeats 400000 in
theorem getP (F : Nat → Prop) (w : World) (b : Nat) (sz cs c : List Int) (ac : Option Addr) (cc : Nat) (hwf : Wf sz cs) (h : Two 77 F w b sz cs) (hcc : IR .i64 w ac c) :
    Calls Try.prog 23 #[.pointer (some ⟨b, 0, none⟩), .slice ac c.length cc] w fun e w' => e = .returned (.tuple #[.int .i64 (getV sz cs c), .int .i64 (placeE sz c)]) ∧ w = w' := by
  have hp := Lib.hid (placeP F w b sz cs c ac cc hwf h hcc)
  have hlt := placeV_lt (c := c) hwf
  obtain ⟨vs, vc, ht, _⟩ := h
  have h1 := ht.c1
  obtain ⟨hb, hs, hc, hne⟩ := ht
  obtain ⟨az, zc, rfl, hzc, hzm, hz, _⟩ := own_IR hc
  obtain ⟨bz, oz, rfl, hz'⟩ := IR_some hz (by have := hwf.pos'; omega)
  have hm := hwf.most
  clear hb hs hc hne hz
  by_cases hf : isCell sz c = true
  · obtain ⟨p, hpe⟩ : ∃ p : Nat, placeV sz c = p := ⟨(placeV sz c).toNat, by omega⟩
    have hE : placeE sz c = 0 := by simp [placeE, hf]
    have hG : getV sz cs c = rd cs p := by
      simp only [placeV, hf, if_true] at hpe
      simp [getV, hf, hpe]
    rw [hE, hpe] at hp
    rw [hE, hG]
    rw [hpe] at hlt
    have hcell := hz' p (by omega)
    have hlt2 : p < cs.length := by omega
    clear hlt
    clear hE hpe hG hf hz'
    go_enter Try.func23, Try.ntmps23
    go_wp2_with (go_at_call 25; refine (hp.out).mono ?_; rintro e w' ⟨rfl, rfl⟩)
    go_wp2
    go_ret2
    exact ⟨rfl, rfl⟩
  · have hf : isCell sz c = false := by simpa using hf
    have hE : placeE sz c = 1 := by simp [placeE, hf]
    have hG : getV sz cs c = 0 := by simp [getV, hf]
    rw [hE] at hp
    rw [hE, hG]
    clear hE hG hf hz' hlt
    go_enter Try.func23, Try.ntmps23
    go_wp2_with (go_at_call 25; refine (hp.out).mono ?_; rintro e w' ⟨rfl, rfl⟩)
    go_wp2
    go_ret2
    exact ⟨rfl, rfl⟩


set_option maxHeartbeats 400000 in
theorem placeP_nil (w : World) (ac : Option Addr) (n cc : Nat) :
    Calls Try.prog 25 #[.pointer none, .slice ac n cc] w fun e w' => e = .returned (.tuple #[.int .i64 0, .int .i64 1]) ∧ w = w' := by
  go_enter Try.func25, Try.ntmps25
  go_wp2
  go_ret2
  exact ⟨rfl, rfl⟩
set_option maxHeartbeats 400000 in
theorem getP_nil (w : World) (ac : Option Addr) (n cc : Nat) :
    Calls Try.prog 23 #[.pointer none, .slice ac n cc] w fun e w' => e = .returned (.tuple #[.int .i64 0, .int .i64 1]) ∧ w = w' := by
  go_enter Try.func23, Try.ntmps23
  go_wp2_with (go_at_call 25; refine (placeP_nil _ _ _ _).mono ?_; rintro e w' ⟨rfl, rfl⟩)
  go_wp2
  go_ret2
  exact ⟨rfl, rfl⟩

/-! ### copies -/
theorem clone_own (w : World) (a : Option Addr) (c : Nat) (xs : List Int) (hpos : 0 < xs.length) (hl : xs.length ≤ 1000000000) (r : IR .i64 w a xs) :
    Calls Try.prog 54 #[.slice a xs.length c] w fun e w' => ∃ g c', e = .returned (.slice (some ⟨g, 0, none⟩) xs.length c') ∧ w'.ownsRow w.heap.size 3 1 (.slice (some ⟨g, 0, none⟩) xs.length c') xs.length (iv .i64 xs) ∧ xs.length ≤ c' ∧ Nw w w' := by
  obtain ⟨b, o, rfl, r'⟩ := IR_some r hpos
  refine (Try.slices_Clone_int b o xs.length c xs w (Nat.le_refl _) (by omega) r').mono fun e w' ⟨v, he, ho, _, hn⟩ => ?_
  rw [List.take_length] at ho
  obtain ⟨g, c', rfl, hc⟩ : ∃ g c', v = .slice (some ⟨g, 0, none⟩) xs.length c' ∧ xs.length ≤ c' := by
    rcases ho.2 with ⟨_, h1⟩ | ⟨g, cap, cur, rfl, hb, hg, hn, _⟩
    · omega
    · exact ⟨g, cap, rfl, hn⟩
  exact ⟨g, c', he, ho, hc, hn⟩

set_option maxHeartbeats 400000 in
theorem sizesP (F : Nat → Prop) (w : World) (b : Nat) (sz cs : List Int) (hwf : Wf sz cs) (h : Two 77 F w b sz cs) :
    Calls Try.prog 30 #[.pointer (some ⟨b, 0, none⟩)] w fun e w' => ∃ g c', e = .returned (.slice (some ⟨g, 0, none⟩) sz.length c') ∧ w'.ownsRow w.heap.size 3 1 (.slice (some ⟨g, 0, none⟩) sz.length c') sz.length (iv .i64 sz) ∧ sz.length ≤ c' ∧ Nw w w' := by
  obtain ⟨vs, vc, ht, -⟩ := h
  obtain ⟨az, zc, rfl, hzc, hzm, hz, -⟩ := own_IR ht.2.1
  have hlo := hwf.lo; have hhi := hwf.hi
  have p0 := ht.c0
  have hcl := Lib.hid (clone_own w az zc sz (by omega) (by omega) hz)
  clear ht hz hwf
  go_enter Try.func30, Try.ntmps30
  go_wp2_with fail
  refine hcl.out.mono ?_; rintro e w' ⟨g, c', rfl, ho, hc, hn⟩
  have HO := Lib.hid ho; have HN := Lib.hid hn
  clear ho hn hcl
  go_wp2
  go_ret
  exact ⟨g, c', rfl, HO.out, hc, HN.out⟩
set_option maxHeartbeats 400000 in
theorem cellsP (F : Nat → Prop) (w : World) (b : Nat) (sz cs : List Int) (hwf : Wf sz cs) (h : Two 77 F w b sz cs) :
    Calls Try.prog 31 #[.pointer (some ⟨b, 0, none⟩)] w fun e w' => ∃ g c', e = .returned (.slice (some ⟨g, 0, none⟩) cs.length c') ∧ w'.ownsRow w.heap.size 3 1 (.slice (some ⟨g, 0, none⟩) cs.length c') cs.length (iv .i64 cs) ∧ cs.length ≤ c' ∧ Nw w w' := by
  obtain ⟨vs, vc, ht, -⟩ := h
  obtain ⟨az, zc, rfl, hzc, hzm, hz, -⟩ := own_IR ht.2.2.1
  have hlo := hwf.pos'; have hhi := hwf.most
  have p0 := ht.c1
  have hcl := Lib.hid (clone_own w az zc cs (by omega) (by omega) hz)
  clear ht hz hwf
  go_enter Try.func31, Try.ntmps31
  go_wp2_with fail
  refine hcl.out.mono ?_; rintro e w' ⟨g, c', rfl, ho, hc, hn⟩
  have HO := Lib.hid ho; have HN := Lib.hid hn
  clear ho hn hcl
  go_wp2
  go_ret
  exact ⟨g, c', rfl, HO.out, hc, HN.out⟩
set_option maxHeartbeats 400000 in
theorem sizesP_nil (w : World) : Calls Try.prog 30 #[.pointer none] w fun e w' => e = .returned (.slice none 0 0) ∧ w = w' := by
  go_enter Try.func30, Try.ntmps30
  go_wp2
  go_ret
  exact ⟨rfl, rfl⟩
set_option maxHeartbeats 400000 in
theorem cellsP_nil (w : World) : Calls Try.prog 31 #[.pointer none] w fun e w' => e = .returned (.slice none 0 0) ∧ w = w' := by
  go_enter Try.func31, Try.ntmps31
  go_wp2
  go_ret
  exact ⟨rfl, rfl⟩
end Go.Proofs.Ytbofjdckmkifaaa

/-! ## The walks of the slab: rows, Of. Conditions: the slab is one that may be; the lists are not too long. -/
namespace Go.Proofs.Ytbofjdckmkifaaa
open Go.RowKit

set_option maxHeartbeats 1000000 in
theorem rowsP (F : Nat → Prop) (w : World) (b : Nat) (sz cs : List Int) (a : Nat) (hwf : Wf sz cs) (h : Two 77 F w b sz cs) (ha : a < sz.length) :
    Calls Try.prog 46 #[.pointer (some ⟨b, 0, none⟩), .int .i64 (a : Int)] w fun e w' => e = .returned (.tuple #[.int .i64 (suf sz (a + 1)), .int .i64 (suf sz (a + 1) * rd sz a)]) ∧ ∃ n, w' = w.drewN n := by
  obtain ⟨vs, vc, ht, -⟩ := h
  obtain ⟨az, zc, rfl, hzc, hzm, hz, -⟩ := own_IR ht.2.1
  obtain ⟨bz, oz, rfl, hz'⟩ := IR_some hz (by omega)
  have p0 := ht.c0
  have hhi := hwf.hi
  clear ht
  have hpd : ∀ (A : Option Addr) (c : Nat), IR .i64 w A (sz.drop (a + 1)) → Calls Try.prog 55 #[.slice A (sz.length - (a + 1)) c] w fun e w' => e = .returned (.int .i64 (suf sz (a + 1))) ∧ w = w' := by
    intro A c hA
    have := productP w (sz.drop (a + 1)) A c (by simp; omega) hA
    rw [prod_drop hwf _ (by omega)] at this
    simpa using this
  have HPD := Lib.hid hpd; clear hpd
  have g := hz' a ha
  have HZ := Lib.hid hz
  have s1 := suf_pos hwf.pos (a + 1)
  have s2 := suf_le hwf (a + 1) (by omega)
  have s3 := hwf.size_le ha
  have s4 := suf_le hwf a (by omega)
  rw [suf_step sz ha, Int.mul_comm] at s4
  have s5 := Int.mul_nonneg (show 0 ≤ suf sz (a+1) by omega) (show 0 ≤ rd sz a by omega)
  clear hz' hz hwf
  go_enter Try.func46, Try.ntmps46
  go_wp2_with fail
  · refine (HPD.out _ _ (by rw [List.drop_eq_nil_of_le (by omega)]; exact IR_nil _ _ _)).mono ?_; rintro e w' ⟨rfl, rfl⟩
    clear HPD HZ
    go_wp2
    go_quiet (fail)
    go_wp2
    go_ret2
    exact ⟨rfl, by first | exact ⟨_, rfl⟩ | exact ⟨_, World.drewN_drewN _ _ _⟩⟩
  · refine (HPD.out _ _ (HZ.out.drop (a + 1))).mono ?_; rintro e w' ⟨rfl, rfl⟩
    clear HPD HZ
    go_wp2
    go_quiet (fail)
    go_wp2
    go_ret2
    exact ⟨rfl, by first | exact ⟨_, rfl⟩ | exact ⟨_, World.drewN_drewN _ _ _⟩⟩
set_option maxHeartbeats 1000000 in
theorem ofP_no (w : World) (sz cs : List Int) (a1 a2 : Option Addr) (c1 c2 : Nat) (hl : sz.length ≤ 1000000) (hl2 : cs.length ≤ 1000000) (r1 : IR .i64 w a1 sz) (hno : ofB sz cs = false) :
    Calls Try.prog 32 #[.slice a1 sz.length c1, .slice a2 cs.length c2] w fun e w' => e = .returned (.tuple #[.pointer none, .int .i64 1]) ∧ w' = w := by
  have hp := Lib.hid (productP w sz a1 c1 hl r1)
  by_cases q0 : sz.length < 1
  · have q1 : decide ((sz.length : Int) < 1) = true := by simp; omega
    clear hno hl r1 hp
    go_enter Try.func32, Try.ntmps32
    go_wp2
    go_ret2
    exact ⟨rfl, rfl⟩
  have q1 : decide ((sz.length : Int) < 1) = false := by simp; omega
  by_cases q2 : 6 < sz.length
  · have q3 : decide ((sz.length : Int) > 6) = true := by simp; omega
    clear hno r1 hp
    go_enter Try.func32, Try.ntmps32
    go_wp2
    go_ret2
    exact ⟨rfl, rfl⟩
  have q3 : decide ((sz.length : Int) > 6) = false := by simp; omega
  by_cases q4 : cs.length = 0
  · have q5 : ((cs.length : Int) == 0) = true := by simp [List.eq_nil_of_length_eq_zero q4]
    have q5' : (cs.length == 0) = true := by simp [List.eq_nil_of_length_eq_zero q4]
    clear hno r1 hp q4
    go_enter Try.func32, Try.ntmps32
    go_wp2
    go_ret2
    exact ⟨rfl, rfl⟩
  have q5 : ((cs.length : Int) == 0) = false := by simp; intro h; subst h; simp at q4
  have hne : prodV sz ≠ (cs.length : Int) := by
    unfold prodV
    split
    · rename_i hk
      simp only [ofB, hk, Bool.true_and, Bool.and_eq_false_iff, decide_eq_false_iff_not] at hno
      omega
    · omega
  obtain ⟨p, hpe⟩ : ∃ p, p = prodV sz := ⟨_, rfl⟩
  have hbd : 0 ≤ p ∧ p ≤ 4096 := by
    rw [hpe]; unfold prodV
    split
    · rename_i hk; have := okp_bd hk; omega
    · omega
  rw [← hpe] at hp hne
  have b1 := hbd.1; have b2 := hbd.2
  have q6 : (p != (cs.length : Int)) = true := by simp; omega
  clear hno r1 hbd hpe hne
  go_enter Try.func32, Try.ntmps32
  go_wp2_with (go_at_call 55; refine hp.out.mono ?_; rintro e w' ⟨rfl, rfl⟩)
  go_wp2
  go_ret2
  exact ⟨rfl, rfl⟩

set_option maxHeartbeats 1000000 in
theorem ofP_yes (w : World) (sz cs : List Int) (a1 a2 : Option Addr) (c1 c2 : Nat) (r1 : IR .i64 w a1 sz) (r2 : IR .i64 w a2 cs) (hyes : ofB sz cs = true) :
    Calls Try.prog 32 #[.slice a1 sz.length c1, .slice a2 cs.length c2] w fun e w' => ∃ g, e = .returned (.tuple #[.pointer (some ⟨g, 0, none⟩), .int .i64 0]) ∧
      Two 77 (fun k => w.heap.size ≤ k) w' g sz cs ∧ Nw w w' := by
  have hwf := ofB_wf hyes
  have hlo := hwf.lo; have hhi := hwf.hi; have hmost := hwf.most; have hpos := hwf.pos'; have hlen := hwf.len
  have hp := Lib.hid (productP w sz a1 c1 (by omega) r1)
  have e0 : prodV sz = cs.length := by rw [prodV, if_pos (wf_okp hwf _ (Nat.le_refl _)), hlen]
  rw [e0] at hp
  have q1 : decide ((sz.length : Int) < 1) = false := by simp; omega
  have q3 : decide ((sz.length : Int) > 6) = false := by simp; omega
  have q4 : ((cs.length : Int) == 0) = false := by simp; intro h; subst h; simp at hpos
  have q5 : ((cs.length : Int) != (cs.length : Int)) = false := by simp
  obtain ⟨b1, o1, rfl, -⟩ := IR_some r1 (by omega)
  obtain ⟨b2, o2, rfl, -⟩ := IR_some r2 (by omega)
  have R1 := Lib.hid r1; have R2 := Lib.hid r2
  clear hyes hwf hlen e0 r1 r2
  go_enter Try.func32, Try.ntmps32
  go_wp2_with (go_at_call 55; refine hp.out.mono ?_; rintro e w' ⟨rfl, rfl⟩)
  refine (clone_own w _ c1 sz (by omega) (by omega) R1.out).mono ?_; rintro e w1 ⟨g1, k1, rfl, ho1, hc1, n1⟩
  have g1n : w.heap.size ≤ g1 := own_ge ho1 (b := g1) rfl
  have ho1 := own_base ho1 0 (fun _ _ => Nat.zero_le _)
  have R2' := Lib.hid (R2.out.nw n1)
  have HO1 := Lib.hid ho1; have N1 := Lib.hid n1
  clear ho1 n1 R2
  go_wp2_with fail
  refine (clone_own w1 _ c2 cs (by omega) (by omega) R2'.out).mono ?_; rintro e w2 ⟨g2, k2, rfl, ho2, hc2, n2⟩
  have g2n : w1.heap.size ≤ g2 := own_ge ho2 (b := g2) rfl
  have ho2 := own_base ho2 0 (fun _ _ => Nat.zero_le _)
  have HO2 := Lib.hid ho2; have N2 := Lib.hid n2; have G2 := Lib.hid g2n
  clear ho2 n2 R2' g2n
  go_wp2
  go_ret2
  have n12 := nw_trans N1.out N2.out
  have l1 := own_lt HO1.out (b := g1) rfl
  refine ⟨_, rfl, ⟨_, _, ⟨blk_new _ _, nw_own (nw_alloc _ _) (nw_own N2.out HO1.out), nw_own (nw_alloc _ _) HO2.out, fun k h1 h2 => ?_⟩, n12.size, ?_, ?_⟩, nw_trans n12 (nw_alloc _ _)⟩
  · have e1 : g1 = k := by injection h1
    have e2 : g2 = k := by injection h2
    have := G2.out; omega
  · intro k h1; have e1 : g1 = k := by injection h1
    omega
  · intro k h1; have e1 : g2 = k := by injection h1
    have := G2.out; have := N1.out.size; omega
end Go.Proofs.Ytbofjdckmkifaaa

/-! ## The walk of slices.Repeat of one number. Conditions: not too many. -/
namespace Go.Proofs.Ytbofjdckmkifaaa
open Go.RowKit

def repL (d k : Nat) (X Z : Value) : List Value := List.replicate k X ++ List.replicate (d - k) Z
theorem repL_step (d k m : Nat) (X Z : Value) (_h : k + m ≤ d) : splice (repL d k X Z) k (List.replicate m X) = repL d (k + m) X Z := by
  unfold splice repL
  rw [List.take_append_of_le_length (by simp), List.take_of_length_le (by simp), List.length_replicate, List.drop_append, List.drop_eq_nil_of_le (by simp)]
  simp only [List.length_replicate, List.nil_append]
  rw [List.drop_replicate, show k + m - k = m by omega, show d - k - m = d - (k + m) by omega, ← List.append_assoc, ← List.replicate_append_replicate]
theorem repL_len (d k : Nat) (X Z : Value) (h : k ≤ d) : (repL d k X Z).length = d := by simp [repL]; omega
theorem repL_get (d k j : Nat) (X Z : Value) (h : j < k) : (repL d k X Z)[j]? = some X := by
  unfold repL; rw [List.getElem?_append_left (by simpa using h)]; simp [h]

theorem infoS : (Try.prog.info? 3).map (·.size) = some 1 := by kernel_rfl
theorem mulI (w : World) (d : Nat) (hd : d ≤ 1000000) : Calls Try.prog 70 #[.int .u64 1, .int .u64 (d : Int)] w fun e w' => e = .returned (.tuple #[.int .u64 0, .int .u64 (d : Int)]) ∧ w = w' := by
  refine (Try.bits_Mul 1 d (by omega) (by omega) w).mono fun e w' ⟨he, hw⟩ => ⟨?_, hw.symm⟩
  rw [he, show 1 * d / 18446744073709551616 = 0 by omega, show 1 * d % 18446744073709551616 = d by omega]
  rfl

set_option maxRecDepth 100000 in
set_option maxHeartbeats 600000 in
theorem repeatI (w : World) (b o c : Nat) (x : Int) (d : Nat) (h1 : 1 ≤ d) (hd : d ≤ 1000000) (hx : w.cell? ⟨b, o, none⟩ = some (.int .i64 x)) :
    Calls Try.prog 45 #[.slice (some ⟨b, o, none⟩) 1 c, .int .i64 (d : Int)] w fun e w' => ∃ g, e = .returned (.slice (some ⟨g, 0, none⟩) d d) ∧ w.heap.size ≤ g ∧
      w'.heap[g]? = some (.cells (iv .i64 (List.replicate d x)).toArray 3 (0, 0)) ∧ Nw w w' := by
  have hmk := run_mk 30 3 .i64 8 Try.underlying30 infoI (by omega) d (by omega)
  have q1 : decide ((d : Int) < 0) = false := by simp
  have q2 : decide ((9223372036854775807 : Int) < (d : Int)) = false := by simp; omega
  have q3 : decide ((d : Int) > 9223372036854775807) = false := by simp; omega
  go_enter Try.func45, Try.ntmps45
  have hblk0 : (w.alloc (.cells (iv .i64 (List.replicate d 0)).toArray 3)).heap[w.heap.size]? = some (.cells (repL d 0 (.int .i64 x) (.int .i64 0)).toArray 3 (0, 0)) := by
    rw [show repL d 0 (.int .i64 x) (.int .i64 0) = iv .i64 (List.replicate d 0) by simp [repL, iv]]; exact blk_new _ _
  have hx1 : (w.alloc (.cells (iv .i64 (List.replicate d 0)).toArray 3)).cell? ⟨b, o, none⟩ = some (.int .i64 x) := nw_cell (nw_alloc _ _) hx
  have H0 := Lib.hid hblk0; have HX := Lib.hid hx1
  clear hblk0 hx1 hx
  go_wp2_with (first | (go_at_call 70; refine (mulI w d hd).mono ?_; rintro e w' ⟨rfl, rfl⟩) | (with_reducible refine wpList_copy_splice rfl (.tmp 31) (.tmp 32) 30 30 rfl 3 Try.underlying30 infoS (some ⟨w.heap.size, 0, none⟩) (some ⟨b, o, none⟩) d d 1 c rfl rfl w.heap.size 0 _ _ H0.out [.int .i64 x] ?_ ?_ ?_ ?_ w.heap.size w (nw_alloc _ _) (Nat.le_refl _) ?_))
  · show 1 = min 1 d; omega
  · intro j v hv
    have hj : j = 0 := by have := (List.getElem?_eq_some_iff.1 hv).1; simpa using this
    subst hj
    rw [Nat.add_zero, HX.out]; simpa using hv
  · simp [repL]; omega
  · intro v hv; simp at hv; subst hv; rfl
  · intro w2 hg2 hn2
    have e1 := repL_step d 0 1 (.int .i64 x) (.int .i64 0) (by omega)
    simp only [List.replicate_one, Nat.zero_add] at e1
    rw [e1] at hg2
    have G2 := Lib.hid hg2.out; have N2 := Lib.hid hn2
    clear hg2 hn2 e1 H0 HX hmk q1 q2 q3
    go_wp2
    go_loopw [8] (fun i wr => ∃ k : Nat, 1 ≤ k ∧ k ≤ d ∧ i = .int .i64 k ∧ Hid (wr.heap[w.heap.size]? = some (.cells (repL d k (.int .i64 x) (.int .i64 0)).toArray 3 (0, 0))) ∧ Hid (Nw w wr)) (fun i _ => d - (intOf i).toNat)
    case atStart => exact ⟨1, Nat.le_refl _, h1, rfl, G2, N2⟩
    case round =>
      obtain ⟨k, hk1, hk, rfl, G, N⟩ := hrel
      by_cases hlt : k < d
      · have hne : ¬ d = k := by omega
        obtain ⟨m, hm⟩ : ∃ m, m = min (d - k) k := ⟨_, rfl⟩
        have hm1 : k + m ≤ d := by omega
        have hm2 : m ≤ k := by omega
        have hm3 : 0 < m := by omega
        have hmin : (List.replicate m (Value.int .i64 x)).length = Nat.min k (d - k) := by simp; rw [hm]; exact Nat.min_comm _ _
        have HM := Lib.hid hmin
        have g' : wr.drew.heap[w.heap.size]? = some (.cells (repL d k (.int .i64 x) (.int .i64 0)).toArray 3 (0, 0)) := G.out
        have G' := Lib.hid g'
        have N' := Lib.hid (Below.drew N.out)
        have hq : 0 < (List.replicate m (Value.int .i64 x)).length → ∃ ad, (some (⟨w.heap.size, 0, none⟩ : Addr)) = some ad ∧ ∀ j v, (List.replicate m (Value.int .i64 x))[j]? = some v → wr.drew.cell? (ad.add j) = some v := by
          intro _
          refine ⟨_, rfl, fun j v hv => ?_⟩
          have hj : j < m := by have := (List.getElem?_eq_some_iff.1 hv).1; simpa using this
          have hv' : Value.int .i64 x = v := by simpa [hj] using hv
          rw [Addr.add_lit, Nat.zero_add, blk_cell g', ← hv']
          simpa using repL_get d k j (.int .i64 x) (.int .i64 0) (by omega)
        have hf : k + (List.replicate m (Value.int .i64 x)).length ≤ (repL d k (.int .i64 x) (.int .i64 0)).length := by rw [repL_len _ _ _ _ hk]; simp; omega
        have hvv : ∀ v ∈ List.replicate m (Value.int .i64 x), v.oneCell' = true := fun v hv => by rw [(List.mem_replicate.1 hv).2]; rfl
        have HQ := Lib.hid hq; have HF := Lib.hid hf; have HV := Lib.hid hvv
        have hwr : IntKind.i64.wrap ((k : Int) + (m : Int)) = (k : Int) + (m : Int) := IntWalk.i64_in _ (by omega)
        clear hm hmin g' hq hf hvv
        go_wp2
        go_region_law (refine step_copy_splice ?_ (.tmp 41) (.tmp 44) 30 30 ?_ 3 Try.underlying30 infoS (some ⟨w.heap.size, k, none⟩) (some ⟨w.heap.size, 0, none⟩) (d - k) (d - k) k d ?_ ?_ w.heap.size k (repL d k (.int .i64 x) (.int .i64 0)) 3 ?_ (List.replicate m (.int .i64 x)) ?_ ?_ ?_ ?_ w.heap.size w ?_ ?_ ?_; exact rfl; exact rfl; (go_simp); (go_simp); exact G'.out; exact HM.out; exact fun h => ⟨rfl, HQ.out h⟩; exact HF.out; exact HV.out; exact N'.out; exact Nat.le_refl _; intro w4 hg4 hn4)
        rw [repL_step d k m _ _ hm1] at hg4
        have G4 := Lib.hid hg4.out; have N4 := Lib.hid hn4
        have HWR := Lib.hid hwr
        clear hwr hg4 hn4 HQ HF HV HM G' N' G N
        go_wp2
        go_roundw
        case rel =>
          (repeat apply Exists.intro)
          exact ⟨⟨k + m, by omega, by omega, by first | go_num | (show Value.int .i64 (IntKind.i64.wrap ((k : Int) + (m : Int))) = _; rw [HWR.out]; go_num), G4, N4⟩, rfl⟩
        case measure => have hwr := HWR.out; simp [intOf, Act.put]; try omega
      · obtain rfl : k = d := by omega
        go_wp2
        go_ret
        refine ⟨w.heap.size, rfl, Nat.le_refl _, ?_, N.out⟩
        have := G.out
        rw [this]; simp [repL, iv]
end Go.Proofs.Ytbofjdckmkifaaa

/-! ## The walks of the slab: New. No condition. -/
namespace Go.Proofs.Ytbofjdckmkifaaa
open Go.RowKit

set_option maxHeartbeats 1000000 in
theorem newP_no (w : World) (d n : Int) (h : d < 1 ∨ 6 < d) :
    Calls Try.prog 14 #[.int .i64 d, .int .i64 n] w fun e w' => e = .returned (.tuple #[.pointer none, .int .i64 1]) ∧ w' = w := by
  rcases h with h | h
  · have q1 : decide (d < 1) = true := by simp; omega
    go_enter Try.func14, Try.ntmps14
    go_wp2
    go_ret2
    exact ⟨rfl, rfl⟩
  · have q1 : decide (d < 1) = false := by simp; omega
    have q2 : decide (d > 6) = true := by simp; omega
    go_enter Try.func14, Try.ntmps14
    go_wp2
    go_ret2
    exact ⟨rfl, rfl⟩

set_option maxHeartbeats 1000000 in
theorem newP_yes (w : World) (d : Nat) (n : Int) (h1 : 1 ≤ d) (h6 : d ≤ 6) :
    Calls Try.prog 14 #[.int .i64 d, .int .i64 n] w fun e w' => ∃ g, e = .returned (.tuple #[.pointer (some ⟨g, 0, none⟩), .int .i64 0]) ∧
      Two 77 (fun k => w.heap.size ≤ k) w' g (List.replicate d 1) [n] ∧ Nw w w' := by
  have q1 : decide ((d : Int) < 1) = false := by simp; omega
  have q2 : decide ((d : Int) > 6) = false := by simp; omega
  have hrep := Lib.hid (repeatI (w.alloc (.cells #[.int .i64 1] 3)) w.heap.size 0 1 1 d h1 (by omega) (by rw [blk_cell (blk_new _ _)]; rfl))
  go_enter Try.func14, Try.ntmps14
  go_wp2_with fail
  refine hrep.out.mono ?_; rintro e w1 ⟨g, rfl, hg, hb, hn⟩
  have hn' := nw_trans (nw_alloc w (.cells #[.int .i64 1] 3)) hn
  simp at hg
  have HB := Lib.hid hb; have HN := Lib.hid hn'; have HG := Lib.hid hg
  clear hb hn hn' hrep hg
  go_wp2
  go_ret2
  have b2 : (w1.alloc (.cells #[.int .i64 n] 3)).heap[w1.heap.size]? = some (.cells (iv .i64 [n]).toArray 3 (0, 0)) := blk_new _ _
  have hs := HN.out.size
  have hgl := blk_lt HB.out
  have hg := HG.out
  have b3 := blk_new (w1.alloc (.cells #[.int .i64 n] 3)) (.cells #[.slice (some ⟨g, 0, none⟩) d d, .slice (some ⟨w1.heap.size, 0, none⟩) 1 1] 77)
  rw [World.size_alloc] at b3
  refine ⟨_, rfl, ⟨_, _, ⟨b3, ?_, ?_, ?_⟩, ?_, ?_, ?_⟩, nw_trans HN.out (nw_trans (nw_alloc _ _) (nw_alloc _ _))⟩
  · refine nw_own (nw_alloc _ _) (nw_own (nw_alloc _ _) ?_)
    have := own_of_blk HB.out (by simp; omega)
    simpa using this
  · have := own_of_blk b2 (by simp)
    exact nw_own (nw_alloc _ _) this
  · intro k h1 h2
    have e1 : g = k := by injection h1
    have e2 : w1.heap.size = k := by injection h2
    omega
  · simp; omega
  · intro k h1; have e1 : g = k := by injection h1
    omega
  · intro k h1; have e1 : w1.heap.size = k := by injection h1
    omega
end Go.Proofs.Ytbofjdckmkifaaa

/-! ## The walks of slices.Grow of no slice and of slices.Concat of slices of numbers. Conditions: not too many. -/
namespace Go.Proofs.Ytbofjdckmkifaaa
open Go.RowKit
section
variable {P : Program} (w : World)
theorem run_append_zeros (t t2 ty e : TypeId) (k : IntKind) (ht : P.underlying t = some (.slice e)) (h2 : P.underlying t2 = some (.int .i64)) (hinfo : (P.info? e).map (fun i => (i.zero, i.size, i.bytes)) = some (some (.int k 0), 1, 8))
    (n : Nat) (h1 : 1 ≤ n) (hn : n ≤ 1000000000) :
    (Builtin.append_ #[t, t2] ty #[.slice none 0 0, .int .i64 (n : Int)]).run P w =
      .ok (.slice (some ⟨w.heap.size, 0, none⟩) n (grownCap w n 0 e)) (w.drew.alloc (.cells (Builtin.zeroCells #[.int k 0] n ++ Builtin.zeroCells #[.int k 0] (grownCap w n 0 e - n)) e)) := by
  obtain ⟨i, hi, hzz⟩ := Option.map_eq_some_iff.1 hinfo
  simp only [Prod.mk.injEq] at hzz
  obtain ⟨hz0, hz1, hz2⟩ := hzz
  have hw : IntKind.i64.wrap (n : Int) = (n : Int) := IntWalk.i64_in _ (by omega)
  have e0 : ¬ (n = 0) := by omega
  have e1 : ¬ ((n : Int) < 0) := by omega
  have e2 : ¬ ((n : Int) * 8 > 2 ^ 48) := by omega
  have e3 : ¬ (9223372036854775807 < (n : Int)) := by omega
  have e4 : ¬ (281474976710656 < Builtin.nextslicecap n 0 * 8) := by rw [nextslicecap_zero h1]; omega
  have e5 : ¬ (281474976710656 < (n : Int) * 8) := by omega
  have e6 : ¬ ((n : Int) ≤ 0) := by omega
  have e7 : max (n : Int) 0 = (n : Int) := by omega
  simp [Builtin.append_, run_underlying ht, run_underlying h2, sizeOf, typeInfo, zeroValue, hi, hz0, hz1, hz2, Builtin.firstCells, e0, e1, e3, e4, e5, e7, asInt, asIntOf, hw, Question.forced, newRow, grownCap]
  rfl
end
theorem zeroCells_size (z : Value) (n : Nat) : (Builtin.zeroCells #[z] n).size = n := by simp [Builtin.zeroCells]
/-- 'append(nil, make([]int, n)...)' -/
theorem wpList_append_zeros {P : Program} (w : World) {ops : Array Oper} {rest : List Oper} {o : Oper} {a : Act} {Q : Exit → Act → World → Prop} (hgd : o.guard = none) (s x : Operand) (t t2 e : TypeId) (k : IntKind)
    (ho : o.op = .call { callee := .builtin .append, args := #[s, x], argTypes := #[t, t2] }) (ht : P.underlying t = some (.slice e)) (h2 : P.underlying t2 = some (.int .i64)) (hinfo : (P.info? e).map (fun i => (i.zero, i.size, i.bytes)) = some (some (.int k 0), 1, 8))
    (n : Nat) (h1 : 1 ≤ n) (hn : n ≤ 1000000000) (hs : a.eval s = .slice none 0 0) (hx : a.eval x = .int .i64 (n : Int))
    (h : ∀ (g c : Nat) (w' : World), n ≤ c → c ≤ 9223372036854775807 → w.heap.size ≤ g → w'.ownsRow 0 e 1 (.slice (some ⟨g, 0, none⟩) 0 c) 0 [] → Nw w w' → wpList P ops Q rest (a.put o.dst (.slice (some ⟨g, 0, none⟩) n c)) w') :
    wpList P ops Q (o :: rest) a w := by
  refine wpList_plain hgd fun K hK => ?_
  have hrun := run_append_zeros (P := P) w t t2 o.type e k ht h2 hinfo n h1 hn
  have hc := grownCap_ge w n 0 e
  have hc2 := grownCap_le_maxLen w n 0 e (by simp only [maxLen]; omega)
  unfold Oper.wp
  simp [execOp, ho, resolve, invoke, builtin, hs, hx, hrun, Result.andThen]
  refine hK _ _ (h w.heap.size _ _ hc (by simp only [maxLen] at hc2; omega) (Nat.le_refl _) ⟨rfl, .inr ⟨w.heap.size, _, _, rfl, Nat.zero_le _, blk_new _ _, Nat.zero_le _, hc2, ?_, ?_⟩⟩ ?_)
  · simp [zeroCells_size]; omega
  · simp
  · exact Below.alloc (Below.drew (Below.refl _ w)) (by simp) _

set_option maxRecDepth 100000 in
set_option maxHeartbeats 1000000 in
theorem growI (w : World) (n : Nat) (hn : n ≤ 1000000000) :
    Calls Try.prog 72 #[.slice none 0 0, .int .i64 (n : Int)] w fun e w' => ∃ a c, e = .returned (.slice a 0 c) ∧ w'.ownsRow 0 3 1 (.slice a 0 c) 0 [] ∧ (∀ d, a = some d → w.heap.size ≤ d.block) ∧ Nw w w' := by
  have q1 : decide ((n : Int) < 0) = false := by simp
  by_cases h0 : n = 0
  · subst h0
    go_enter Try.func72, Try.ntmps72
    go_wp2
    go_ret
    exact ⟨none, 0, rfl, World.ownsRow_nil _ _ _ _, fun d hd => by (cases hd), Below.refl _ _⟩
  · have q2 : decide ((n : Int) > 0) = true := by simp; omega
    go_enter Try.func72, Try.ntmps72
    go_wp2_with (at_builtin; refine wpList_append_zeros _ rfl (.tmp 20) (.tmp 21) 30 3 3 .i64 rfl Try.underlying30 Try.underlying3 infoI n (by omega) hn rfl rfl ?_)
    intro g c w1 hc hcm hg ho hN
    have HO := Lib.hid ho; have HN := Lib.hid hN
    clear ho hN q1 q2
    go_wp2
    go_ret
    exact ⟨some ⟨g, 0, none⟩, c, rfl, HO.out, fun d hd => by (cases hd; exact hg), HN.out⟩
end Go.Proofs.Ytbofjdckmkifaaa

/-! ## The walk of slices.Concat of slices of numbers. Conditions: not too many. -/
namespace Go.Proofs.Ytbofjdckmkifaaa
open Go.RowKit

def catF (f : Nat → Option Addr × Nat × List Int) : Nat → List Int
  | 0 => []
  | k + 1 => catF f k ++ (f k).2.2
theorem catF_le (f : Nat → Option Addr × Nat × List Int) {k m : Nat} (h : k ≤ m) : (catF f k).length ≤ (catF f m).length := by
  induction m with
  | zero => have : k = 0 := by omega
            subst this; exact Nat.le_refl _
  | succ m ih =>
    by_cases e : k = m + 1
    · subst e; exact Nat.le_refl _
    · have := ih (by omega); simp [catF]; omega

set_option maxRecDepth 100000 in
set_option maxHeartbeats 2000000 in
theorem concatI (w : World) (gb ob m c : Nat) (f : Nat → Option Addr × Nat × List Int) (hm : m ≤ 1000) (hc : m ≤ c) (h0 : 0 < m)
    (hs : ∀ j, j < m → w.cell? ⟨gb, ob + j, none⟩ = some (.slice (f j).1 (f j).2.2.length (f j).2.1)) (hr : ∀ j, j < m → IR .i64 w (f j).1 (f j).2.2 ∧ ((f j).1 = none → (f j).2.1 = 0)) (hl : (catF f m).length ≤ 1000000000) :
    Calls Try.prog 48 #[.slice (some ⟨gb, ob, none⟩) m c] w fun e w' => ∃ a c', e = .returned (.slice a (catF f m).length c') ∧ w'.ownsRow 0 3 1 (.slice a (catF f m).length c') (catF f m).length (iv .i64 (catF f m)) ∧
      (∀ d, a = some d → w.heap.size ≤ d.block) ∧ Nw w w' := by
  have HS := Lib.hid hs; have HR := Lib.hid hr; have HL := Lib.hid hl
  clear hs hr hl
  go_enter Try.func48, Try.ntmps48
  go_wp2
  go_loop [3, 11] (fun n i => ∃ k : Nat, k ≤ m ∧ i = .int .i64 (k : Int) ∧ n = .int .i64 ((catF f k).length : Int)) (fun _ i => m - (intOf i).toNat)
  case atStart => exact ⟨0, Nat.zero_le _, rfl, rfl⟩
  case round =>
    obtain ⟨k, hk, rfl, rfl⟩ := hrel
    have hb := catF_le f hk
    have hb2 := HL.out
    by_cases hlt : k < m
    · have g1 := HS.out k hlt
      have e1 : ((catF f (k + 1)).length : Int) = (catF f k).length + (f k).2.2.length := by simp [catF]
      have hb3 := catF_le f (show k + 1 ≤ m by omega)
      have b1 : ((catF f k).length : Int) + ((f k).2.2.length : Int) ≤ 1000000000 := by rw [← e1]; omega
      have q1 : decide (((catF f k).length : Int) + ((f k).2.2.length : Int) < 0) = false := by simp; omega
      have E1 := Lib.hid e1
      clear e1 hb3 hb2 hb
      go_wp2
      go_round
      case rel => exact ⟨k + 1, by omega, by go_num, by rw [E1.out]⟩
      case measure => simp [intOf]; try omega
    · obtain rfl : k = m := by omega
      have hgr := Lib.hid (growI w (catF f k).length HL.out)
      clear hb hb2
      go_wp2_with fail
      refine hgr.out.mono ?_; rintro e w1 ⟨a1, c1, rfl, ho, hd, hn⟩
      have HO := Lib.hid ho; have HD := Lib.hid hd; have HN := Lib.hid hn
      clear ho hd hn hgr
      go_wp2
      go_loopw [6, 27] (fun v i wr => ∃ (j : Nat) (a2 : Option Addr) (c2 : Nat), j ≤ k ∧ i = .int .i64 (j : Int) ∧ v = .slice a2 (catF f j).length c2 ∧ Hid (wr.ownsRow 0 3 1 (.slice a2 (catF f j).length c2) (catF f j).length (iv .i64 (catF f j))) ∧ Hid (∀ d, a2 = some d → w.heap.size ≤ d.block) ∧ Hid (Nw w wr)) (fun _ i _ => k - (intOf i).toNat)
      case atStart => exact ⟨0, a1, c1, Nat.zero_le _, rfl, rfl, HO.out, HD, HN⟩
      case round =>
        obtain ⟨j, a2, c2, hj, rfl, rfl, HO2, HD2, HN2⟩ := hrel
        by_cases hlt2 : j < k
        · have g1 := nw_cell HN2.out (HS.out j hlt2)
          have hb3 := catF_le f (show j + 1 ≤ k by omega)
          have hb4 : (catF f (j + 1)).length = (catF f j).length + (f j).2.2.length := by simp [catF]
          have hfit : ((catF f j).length + (f j).2.2.length) * 8 ≤ 140737488355328 := by rw [← hb4]; have := HL.out; omega
          have HF := Lib.hid hfit
          clear hb3 hb4 hfit
          obtain ⟨X, hX⟩ : ∃ X, X = catF f j := ⟨_, rfl⟩
          rw [← hX] at HO2 HF ⊢
          have HX := Lib.hid hX; clear hX
          go_wp2_with (at_builtin; refine appAny rfl (.tmp 31) (.tmp 32) 30 3 .i64 8 rfl Try.underlying30 infoI (by omega) _ _ X (f j).2.2 (f j).1 (f j).2.1 rfl rfl (HR.out j hlt2).2 ((HR.out j hlt2).1.nw HN2.out) HO2.out HF.out ?_)
          intro a3 c3 w3 ho3 hk3 hd3
          have HO3 := Lib.hid ho3; have HK3 := Lib.hid hk3; have HD3 := Lib.hid hd3
          clear ho3 hk3 hd3 g1
          go_wp2
          go_roundw
          case rel =>
            have e : catF f (j + 1) = X ++ (f j).2.2 := by rw [HX.out]; rfl
            refine ⟨j + 1, a3, c3, by omega, by go_num, by rw [e]; simp, by rw [e]; have := HO3.out; show World.ownsRow _ _ _ _ _ _ _; simpa using this, fun d hd => ?_, ?_⟩
            · rcases HD3.out d hd with h | h
              · cases a2 with
                | none => cases h
                | some d' => have := HD2.out d' rfl; have h' : some d'.block = some d.block := h; injection h' with h'; omega
              · have := HN2.out.size; omega
            · refine ((kp_of_nw HN2.out (fun _ => False)).trans HK3.out ?_).nw
              intro b hb hlt
              cases a2 with
              | none => cases hb
              | some d' => have := HD2.out d' rfl; have h' : some d'.block = some b := hb; injection h' with h'; omega
          case measure => simp [intOf]; try omega
        · obtain rfl : j = k := by omega
          go_wp2
          go_ret
          exact ⟨a2, c2, rfl, HO2.out, HD2.out, HN2.out⟩
end Go.Proofs.Ytbofjdckmkifaaa

/-! ## The walk of slices.Concat of three slices of numbers. No other condition than their sum's. -/
namespace Go.Proofs.Ytbofjdckmkifaaa
open Go.RowKit

def three {α : Type} (x y z : α) : Nat → α
  | 0 => x
  | 1 => y
  | _ => z
theorem concat3 (w : World) (gb : Nat) (t : TypeId) (a0 a1 a2 : Option Addr) (c0 c1 c2 n0 n1 n2 : Nat) (X Y Z V : List Int) (hV : V = X ++ Y ++ Z) (h0 : X.length = n0) (h1 : Y.length = n1) (h2 : Z.length = n2)
    (hb : w.heap[gb]? = some (.cells #[.slice a0 n0 c0, .slice a1 n1 c1, .slice a2 n2 c2] t (0, 0))) (i0 : IR .i64 w a0 X) (i1 : IR .i64 w a1 Y) (i2 : IR .i64 w a2 Z)
    (z0 : a0 = none → c0 = 0) (z1 : a1 = none → c1 = 0) (z2 : a2 = none → c2 = 0) (hl : V.length ≤ 1000000000) :
    Calls Try.prog 48 #[.slice (some ⟨gb, 0, none⟩) 3 3] w fun e w' => ∃ a c', e = .returned (.slice a V.length c') ∧ w'.ownsRow 0 3 1 (.slice a V.length c') V.length (iv .i64 V) ∧
      (∀ d, a = some d → w.heap.size ≤ d.block) ∧ Nw w w' := by
  subst hV
  subst h0; subst h1; subst h2
  have e : catF (three (a0, c0, X) (a1, c1, Y) (a2, c2, Z)) 3 = X ++ Y ++ Z := by simp [catF, three]
  have h := concatI w gb 0 3 3 (three (a0, c0, X) (a1, c1, Y) (a2, c2, Z)) (by omega) (by omega) (by omega) ?_ ?_ (by rw [e]; exact hl)
  · rw [e] at h; exact h
  · intro j hj
    rw [Nat.zero_add]
    match j, hj with
    | 0, _ => exact blk_cell hb 0
    | 1, _ => exact blk_cell hb 1
    | 2, _ => exact blk_cell hb 2
  · intro j hj
    match j, hj with
    | 0, _ => exact ⟨i0, z0⟩
    | 1, _ => exact ⟨i1, z1⟩
    | 2, _ => exact ⟨i2, z2⟩
end Go.Proofs.Ytbofjdckmkifaaa

/-! ## The walk of slices.Chunk of numbers, as a function that yields the rows. Conditions: the rows are whole. -/
namespace Go.Proofs.Ytbofjdckmkifaaa
open Go.RowKit Go.Shelf

set_option maxHeartbeats 400000 in
theorem chunkI (w : World) (a : Option Addr) (n c : Nat) (k : Int) (hk : 1 ≤ k) :
    Calls Try.prog 47 #[.slice a n c, .int .i64 k] w fun e w' => e = .returned (.func (.func 71) #[] #[.pointer (some ⟨w.heap.size, 0, none⟩), .pointer (some ⟨w.heap.size + 1, 0, none⟩)]) ∧
      w'.heap[w.heap.size]? = some (.cells #[.slice a n c] 30 (0, 0)) ∧ w'.heap[w.heap.size + 1]? = some (.cells #[.int .i64 k] 3 (0, 0)) ∧ Nw w w' := by
  have q1 : decide (k < 1) = false := by simp; omega
  go_enter Try.func47, Try.ntmps47
  go_wp2
  go_ret
  refine ⟨rfl, ?_, ?_, nw_trans (nw_alloc _ _) (nw_alloc _ _)⟩
  all_goals (simp only [heap_alloc_if, World.size_alloc]; repeat (first | rw [if_pos trivial] | rw [if_pos (by omega)] | rw [if_neg (by omega)]))

set_option maxRecDepth 100000 in
set_option maxHeartbeats 1000000 in
theorem chunkIt (n l bl bn b o all rows len cap : Nat) (J Jx : Nat → World → Prop) (hlen : len = rows * all) (hall : 1 ≤ all) (hcap : len ≤ cap) (_hcm : cap ≤ 9223372036854775807) (hm : len ≤ 1000000)
    (hJ : ∀ r A, J r A → A.heap[bl]? = some (.cells #[.slice (some ⟨b, o, none⟩) len cap] 30 (0, 0)) ∧ A.heap[bn]? = some (.cells #[.int .i64 (all : Int)] 3 (0, 0)))
    (hab : ∀ r A k, J r A → J r (World.drewN A k)) (W : World) (h0 : J 0 W)
    (hy : ∀ r A, r < rows → J r A → YieldAt Fence.wide n Try.prog l #[.slice (some ⟨b, o + r * all, none⟩) all all] A fun e B => (e = .returned (.bool true) ∧ J (r + 1) B) ∨ (e = .returned (.bool false) ∧ Jx r B)) :
    Calls Try.prog 71 #[.func (.yield l) #[] #[], .pointer (some ⟨bl, 0, none⟩), .pointer (some ⟨bn, 0, none⟩)] W fun e W' =>
      (∃ v, e = .returned v) ∧ (J rows W' ∨ ∃ r, r < rows ∧ Jx r W') := by
  have HJ := Lib.hid hJ; have HAB := Lib.hid hab; have H0 := Lib.hid h0; have HY := Lib.hid hy; have HLEN := Lib.hid hlen
  clear hJ hab h0 hy hlen
  go_enter Try.func71, Try.ntmps71
  go_wp2
  go_loopw [4] (fun i wr => ∃ r i' : Nat, r ≤ rows ∧ i = .int .i64 (i' : Int) ∧ Hid (i' = r * all) ∧ Hid (J r wr)) (fun i _ => len - (intOf i).toNat)
  case atStart => exact ⟨0, 0, Nat.zero_le _, rfl, (show 0 = 0 * all by simp), H0⟩
  case round =>
    obtain ⟨r, i', hr, rfl, HI, HJr⟩ := hrel
    have c1 : wr.cell? ⟨bl, 0, none⟩ = some (.slice (some ⟨b, o, none⟩) len cap) := blk_cell (HJ.out r wr HJr.out).1 0
    have c2 : wr.cell? ⟨bn, 0, none⟩ = some (.int .i64 (all : Int)) := blk_cell (HJ.out r wr HJr.out).2 0
    by_cases hlt : r < rows
    · have hi : i' + all ≤ len := by rw [HI.out, HLEN.out, ← Nat.succ_mul]; exact Nat.mul_le_mul_right _ hlt
      have hne : ¬ cap = i' := by omega
      have hq : decide ((i' : Int) < (len : Int)) = true := by simp; omega
      have hmin : min (all : Int) ((len - i' : Nat) : Int) = (all : Int) := by omega
      go_wp2
      go_quiet (fail)
      go_upto_region 4 with fail
      obtain ⟨fn, tmps, assign, body, hyr, hR⟩ := HY.out r (wr.drewN nq) hlt (HAB.out _ _ _ HJr.out)
      have HR := Lib.hid hR; clear hR
      rw [← HI.out] at hyr
      refine (wpIn_wide (n := n + 1)).1 ?_
      gi_wp2
      refine HR.out.mono ?_
      rintro e B (⟨rfl, hJ1⟩ | ⟨rfl, hJ1⟩)
      · have HJ1 := Lib.hid hJ1
        clear hJ1 HR hyr hmin hq
        gi_wp2
        have c2 : B.cell? ⟨bn, 0, none⟩ = some (.int .i64 (all : Int)) := blk_cell (HJ.out _ B HJ1.out).2 0
        go_wp2
        go_roundw
        case rel => exact ⟨r + 1, i' + all, by omega, by go_num, (show i' + all = (r + 1) * all by rw [HI.out, Nat.add_mul, Nat.one_mul]), HJ1⟩
        case measure => simp [intOf]; try omega
      · have HJ1 := Lib.hid hJ1
        clear hJ1 HR hyr hmin hq
        gi_wp2
        go_wp2
        refine bodyPost_ret (results_none rfl _ _ _) rfl ?_
        exact ⟨⟨_, rfl⟩, .inr ⟨r, hlt, HJ1.out⟩⟩
    · have hr' : r = rows := by omega
      have e : i' = len := by rw [HI.out, HLEN.out, hr']
      have hq : decide ((i' : Int) < (len : Int)) = false := by simp; omega
      have hge : len ≤ i' := by omega
      have HR' := Lib.hid hr'
      clear e hr'
      go_wp2
      go_end0
      exact ⟨⟨_, rfl⟩, .inl (by rw [← HR'.out]; exact HJr.out)⟩
end Go.Proofs.Ytbofjdckmkifaaa

