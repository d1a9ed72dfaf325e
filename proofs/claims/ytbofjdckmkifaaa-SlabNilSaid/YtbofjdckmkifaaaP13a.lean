/-
  The walks of the slab: product, Place, Get, Sizes, Cells. Conditions: the slab is one that may be, or none.
-/
import Derived.Test.YtbofjdckmkifaaaR13b
import Derived.Test.YtbofjdckmkifaaaShelf
namespace Go.Proofs.Ytbofjdckmkifaaa
open Go.RowKit

set_option maxHeartbeats 1000000 in
theorem productP (w : World) (sz : List Int) (a : Option Addr) (c : Nat) (hl : sz.length ≤ 1000000) (r : IR .i64 w a sz) :
    Calls Try.prog 55 #[.slice a sz.length c] w fun e w' => e = .returned (.int .i64 (prodV sz)) ∧ w = w' := by
  by_cases h0 : sz.length = 0
  · have : sz = [] := List.eq_nil_of_length_eq_zero h0
    subst this
    simp only [List.length_nil]
    go_enter Try.func55, Try.ntmps55
    go_wp2
    go_loop [3, 8] (fun n i => n = .int .i64 1 ∧ i = .int .i64 0) (fun _ _ => 0)
    case atStart => exact ⟨rfl, rfl⟩
    case round =>
      obtain ⟨rfl, rfl⟩ := hrel
      go_wp2
      go_ret
      exact ⟨rfl, rfl⟩
  obtain ⟨b, o, rfl, r'⟩ := IR_some r (by omega)
  clear r
  obtain ⟨l, hl'⟩ : ∃ l, l = sz.length := ⟨_, rfl⟩
  rw [← hl'] at h0 hl r' ⊢
  have R := Lib.hid r'; have HL := Lib.hid hl'; clear r' hl' h0
  go_enter Try.func55, Try.ntmps55
  go_wp2
  go_loop [3, 8] (fun n i => ∃ k : Nat, k ≤ l ∧ i = .int .i64 k ∧ n = .int .i64 (pr sz k) ∧ okp sz k = true) (fun _ i => l - (intOf i).toNat)
  case atStart => exact ⟨0, Nat.zero_le _, rfl, rfl, rfl⟩
  case round =>
    obtain ⟨k, hk, rfl, rfl, hok⟩ := hrel
    have hb := okp_bd hok
    have hb1 := hb.1; have hb2 := hb.2.1
    have HO := Lib.hid hok; clear hok hb
    by_cases hlt : k < l
    · have g1 := R.out k hlt
      have hbad : ∀ h : okp sz (k + 1) = false, prodV sz = 0 := fun h => by
        have := okp_mono (show k + 1 ≤ l by omega) h
        rw [HL.out] at this
        simp [prodV, this]
      have HB := Lib.hid hbad; clear hbad
      by_cases q0 : rd sz k < 1
      · have q1 : decide (rd sz k < 1) = true := by simp; omega
        go_wp2
        go_ret
        rw [HB.out (by simp [okp]; intro _; omega)]
        exact ⟨rfl, rfl⟩
      · have q1 : decide (rd sz k < 1) = false := by simp; omega
        by_cases q2 : 4096 < rd sz k
        · have q3 : decide (rd sz k > 4096) = true := by simp; omega
          go_wp2
          go_ret
          rw [HB.out (by simp [okp]; intro _ _; omega)]
          exact ⟨rfl, rfl⟩
        · have q3 : decide (rd sz k > 4096) = false := by simp; omega
          have m0 : 0 ≤ pr sz k * rd sz k := Int.mul_nonneg (by omega) (by omega)
          have m1 : pr sz k * rd sz k ≤ 4096 * 4096 := Int.mul_le_mul hb2 (by omega) (by omega) (by omega)
          by_cases q4 : 4096 < pr sz k * rd sz k
          · have q5 : decide (pr sz k * rd sz k > 4096) = true := by simp; omega
            go_wp2
            go_ret
            rw [HB.out (by simp [okp]; intro _ _ _; omega)]
            exact ⟨rfl, rfl⟩
          · have q5 : decide (pr sz k * rd sz k > 4096) = false := by simp; omega
            have hok1 : okp sz (k + 1) = true := by simp [okp, HO.out]; omega
            have HO1 := Lib.hid hok1; clear hok1
            go_wp2
            go_round
            case rel => exact ⟨k + 1, by omega, by go_num, rfl, HO1.out⟩
            case measure => simp [intOf]; try omega
    · obtain rfl : k = l := by omega
      go_wp2
      go_ret
      have h := HO.out
      rw [HL.out] at h
      have e : prodV sz = pr sz k := by rw [prodV, if_pos h, ← HL.out]
      rw [e]
      exact ⟨rfl, rfl⟩

set_option maxHeartbeats 400000 in
theorem placeP_len (F : Nat → Prop) (w : World) (b : Nat) (sz cs c : List Int) (ac : Option Addr) (cc : Nat) (h : Two 77 F w b sz cs) (hn : c.length ≠ sz.length) :
    Calls Try.prog 25 #[.pointer (some ⟨b, 0, none⟩), .slice ac c.length cc] w fun e w' => e = .returned (.tuple #[.int .i64 0, .int .i64 1]) ∧ w = w' := by
  obtain ⟨vs, vc, ⟨hb, hs, hc, hne⟩, _⟩ := h
  obtain ⟨az, zc, rfl, hzc, _, hz, _⟩ := own_IR hs
  have h0 := blk_cell hb 0
  clear hb hs hc hne hz
  have hq : ((c.length : Int) != (sz.length : Int)) = true := by simp; omega
  have H := Lib.hid hn; clear hn
  go_enter Try.func25, Try.ntmps25
  go_wp2
  go_ret2
  exact ⟨rfl, rfl⟩

set_option maxHeartbeats 400000 in
theorem placeP_eq (F : Nat → Prop) (w : World) (b : Nat) (sz cs c : List Int) (ac : Option Addr) (cc : Nat) (hwf : Wf sz cs) (h : Two 77 F w b sz cs) (hn : c.length = sz.length) (hcc : IR .i64 w ac c) :
    Calls Try.prog 25 #[.pointer (some ⟨b, 0, none⟩), .slice ac c.length cc] w fun e w' => e = .returned (.tuple #[.int .i64 (placeV sz c), .int .i64 (placeE sz c)]) ∧ w = w' := by
  obtain ⟨vs, vc, ⟨hb, hs, hc, hne⟩, _⟩ := h
  obtain ⟨az, zc, rfl, hzc, _, hz, _⟩ := own_IR hs
  obtain ⟨bz, oz, rfl, hz'⟩ := IR_some hz (by have := hwf.lo; omega)
  obtain ⟨bc, oc, rfl, hcc'⟩ := IR_some hcc (by have := hwf.lo; omega)
  clear hz hcc
  have hz := hz'; have hcc := hcc'; clear hz' hcc'
  have h0 := blk_cell hb 0
  clear hb hs hc hne
  have hlen : (c.length : Int) ≤ 6 := by have := hwf.hi; omega
  have hq : ((c.length : Int) != (c.length : Int)) = false := by simp
  obtain ⟨l, hl⟩ : ∃ l, l = c.length := ⟨_, rfl⟩
  rw [← hn] at h0 hzc hz
  rw [← hl] at h0 hzc hlen hcc hq hz ⊢
  have hpl : ∀ k, k ≤ l → okc sz c k = true → 0 ≤ plc sz c k ∧ plc sz c k ≤ 4096 := fun k hk hok => by
    have h1 := plc_lt hwf.pos (by omega) hok
    have h2 := hwf.pr_le (k := k) (by omega)
    omega
  have hsz : ∀ k, k < l → 1 ≤ rd sz k ∧ rd sz k ≤ 4096 := fun k hk => hwf.size_le (by omega)
  have HL := Lib.hid hl; have HN := Lib.hid hn; clear hl hn
  have HW := Lib.hid hwf; clear hwf
  have HP := Lib.hid hpl; have HS := Lib.hid hsz; have HZ := Lib.hid hz; have HC := Lib.hid hcc; clear hpl hsz hz hcc
  go_enter Try.func25, Try.ntmps25
  go_wp2
  go_loop [6,23] (fun n i => ∃ k : Nat, k ≤ l ∧ i = .int .i64 k ∧ n = .int .i64 (plc sz c k) ∧ okc sz c k = true) (fun _ i => l - (intOf i).toNat)
  case atStart => exact ⟨0, Nat.zero_le _, rfl, rfl, rfl⟩
  case round =>
    obtain ⟨k, hk, rfl, rfl, hok⟩ := hrel
    have HO := Lib.hid hok; clear hok
    by_cases hlt : k < l
    · have g1 := HZ.out k hlt
      have g2 := HC.out k hlt
      have g4 := HP.out k hk HO.out
      have g5 := HS.out k hlt
      by_cases q0 : rd c k < 0
      · have q1 : decide (rd c k < 0) = true := by simp; omega
        go_wp2
        go_ret2
        have hf : isCell sz c = false := by
          have : okc sz c (k + 1) = false := by simp [okc]; intro _; omega
          have := okc_mono (show k + 1 ≤ l by omega) this
          rw [HL.out] at this
          simp [isCell, this]
        exact ⟨by simp [placeV, placeE, hf], rfl⟩
      · by_cases q3 : rd sz k ≤ rd c k
        · have q1 : decide (rd c k < 0) = false := by simp; omega
          have q2 : decide (rd c k ≥ rd sz k) = true := by simp; omega
          go_wp2
          go_ret2
          have hf : isCell sz c = false := by
            have : okc sz c (k + 1) = false := by simp [okc]; intro _ _; omega
            have := okc_mono (show k + 1 ≤ l by omega) this
            rw [HL.out] at this
            simp [isCell, this]
          exact ⟨by simp [placeV, placeE, hf], rfl⟩
        · have q1 : decide (rd c k < 0) = false := by simp; omega
          have q2 : decide (rd c k ≥ rd sz k) = false := by simp; omega
          have hok1 : okc sz c (k + 1) = true := by simp [okc, HO.out]; omega
          have g6 := HP.out (k + 1) hlt hok1
          have HO1 := Lib.hid hok1; clear hok1
          simp only [plc] at g6
          go_wp2
          go_round
          case rel => exact ⟨k + 1, by omega, by go_num, rfl, HO1.out⟩
          case measure => simp [intOf]; omega
    · obtain rfl : k = l := by omega
      go_wp2
      go_ret2
      have hf : isCell sz c = true := by
        have := HO.out
        rw [HL.out] at this
        simp [isCell, this]; exact HN.out
      exact ⟨by simp [placeV, placeE, hf, HL.out], rfl⟩

theorem placeP (F : Nat → Prop) (w : World) (b : Nat) (sz cs c : List Int) (ac : Option Addr) (cc : Nat) (hwf : Wf sz cs) (h : Two 77 F w b sz cs) (hcc : IR .i64 w ac c) :
    Calls Try.prog 25 #[.pointer (some ⟨b, 0, none⟩), .slice ac c.length cc] w fun e w' => e = .returned (.tuple #[.int .i64 (placeV sz c), .int .i64 (placeE sz c)]) ∧ w = w' := by
  by_cases hn : c.length = sz.length
  · exact placeP_eq F w b sz cs c ac cc hwf h hn hcc
  · have hf : isCell sz c = false := by simp [isCell, hn]
    simp only [placeV, placeE, hf]
    exact placeP_len F w b sz cs c ac cc h hn

set_option maxHeartbeats 400000 in
theorem getP (F : Nat → Prop) (w : World) (b : Nat) (sz cs c : List Int) (ac : Option Addr) (cc : Nat) (hwf : Wf sz cs) (h : Two 77 F w b sz cs) (hcc : IR .i64 w ac c) :
    Calls Try.prog 23 #[.pointer (some ⟨b, 0, none⟩), .slice ac c.length cc] w fun e w' => e = .returned (.tuple #[.int .i64 (getV sz cs c), .int .i64 (placeE sz c)]) ∧ w = w' := by
  have hp := Lib.hid (placeP F w b sz cs c ac cc hwf h hcc)
  have hlt := placeV_lt (c := c) hwf
  obtain ⟨vs, vc, ht, _⟩ := h
  have h1 := ht.c1
  obtain ⟨hb, hs, hc, hne⟩ := ht
  obtain ⟨az, zc, rfl, hzc, hzm, hz, _⟩ := own_IR hc
  obtain ⟨bz, oz, rfl, hz'⟩ := IR_some hz (by have := hwf.pos'; omega)
  have hm := hwf.most
  clear hb hs hc hne hz
  by_cases hf : isCell sz c = true
  · obtain ⟨p, hpe⟩ : ∃ p : Nat, placeV sz c = p := ⟨(placeV sz c).toNat, by omega⟩
    have hE : placeE sz c = 0 := by simp [placeE, hf]
    have hG : getV sz cs c = rd cs p := by
      simp only [placeV, hf, if_true] at hpe
      simp [getV, hf, hpe]
    rw [hE, hpe] at hp
    rw [hE, hG]
    rw [hpe] at hlt
    have hcell := hz' p (by omega)
    have hlt2 : p < cs.length := by omega
    clear hlt
    clear hE hpe hG hf hz'
    go_enter Try.func23, Try.ntmps23
    go_wp2_with (go_at_call 25; refine (hp.out).mono ?_; rintro e w' ⟨rfl, rfl⟩)
    go_wp2
    go_ret2
    exact ⟨rfl, rfl⟩
  · have hf : isCell sz c = false := by simpa using hf
    have hE : placeE sz c = 1 := by simp [placeE, hf]
    have hG : getV sz cs c = 0 := by simp [getV, hf]
    rw [hE] at hp
    rw [hE, hG]
    clear hE hG hf hz' hlt
    go_enter Try.func23, Try.ntmps23
    go_wp2_with (go_at_call 25; refine (hp.out).mono ?_; rintro e w' ⟨rfl, rfl⟩)
    go_wp2
    go_ret2
    exact ⟨rfl, rfl⟩


set_option maxHeartbeats 400000 in
theorem placeP_nil (w : World) (ac : Option Addr) (n cc : Nat) :
    Calls Try.prog 25 #[.pointer none, .slice ac n cc] w fun e w' => e = .returned (.tuple #[.int .i64 0, .int .i64 1]) ∧ w = w' := by
  go_enter Try.func25, Try.ntmps25
  go_wp2
  go_ret2
  exact ⟨rfl, rfl⟩
set_option maxHeartbeats 400000 in
theorem getP_nil (w : World) (ac : Option Addr) (n cc : Nat) :
    Calls Try.prog 23 #[.pointer none, .slice ac n cc] w fun e w' => e = .returned (.tuple #[.int .i64 0, .int .i64 1]) ∧ w = w' := by
  go_enter Try.func23, Try.ntmps23
  go_wp2_with (go_at_call 25; refine (placeP_nil _ _ _ _).mono ?_; rintro e w' ⟨rfl, rfl⟩)
  go_wp2
  go_ret2
  exact ⟨rfl, rfl⟩

/-! ### copies -/
theorem clone_own (w : World) (a : Option Addr) (c : Nat) (xs : List Int) (hpos : 0 < xs.length) (hl : xs.length ≤ 1000000000) (r : IR .i64 w a xs) :
    Calls Try.prog 54 #[.slice a xs.length c] w fun e w' => ∃ g c', e = .returned (.slice (some ⟨g, 0, none⟩) xs.length c') ∧ w'.ownsRow w.heap.size 3 1 (.slice (some ⟨g, 0, none⟩) xs.length c') xs.length (iv .i64 xs) ∧ xs.length ≤ c' ∧ Nw w w' := by
  obtain ⟨b, o, rfl, r'⟩ := IR_some r hpos
  refine (Try.slices_Clone_int b o xs.length c xs w (Nat.le_refl _) (by omega) r').mono fun e w' ⟨v, he, ho, _, hn⟩ => ?_
  rw [List.take_length] at ho
  obtain ⟨g, c', rfl, hc⟩ : ∃ g c', v = .slice (some ⟨g, 0, none⟩) xs.length c' ∧ xs.length ≤ c' := by
    rcases ho.2 with ⟨_, h1⟩ | ⟨g, cap, cur, rfl, hb, hg, hn, _⟩
    · omega
    · exact ⟨g, cap, rfl, hn⟩
  exact ⟨g, c', he, ho, hc, hn⟩

set_option maxHeartbeats 400000 in
theorem sizesP (F : Nat → Prop) (w : World) (b : Nat) (sz cs : List Int) (hwf : Wf sz cs) (h : Two 77 F w b sz cs) :
    Calls Try.prog 30 #[.pointer (some ⟨b, 0, none⟩)] w fun e w' => ∃ g c', e = .returned (.slice (some ⟨g, 0, none⟩) sz.length c') ∧ w'.ownsRow w.heap.size 3 1 (.slice (some ⟨g, 0, none⟩) sz.length c') sz.length (iv .i64 sz) ∧ sz.length ≤ c' ∧ Nw w w' := by
  obtain ⟨vs, vc, ht, -⟩ := h
  obtain ⟨az, zc, rfl, hzc, hzm, hz, -⟩ := own_IR ht.2.1
  have hlo := hwf.lo; have hhi := hwf.hi
  have p0 := ht.c0
  have hcl := Lib.hid (clone_own w az zc sz (by omega) (by omega) hz)
  clear ht hz hwf
  go_enter Try.func30, Try.ntmps30
  go_wp2_with fail
  refine hcl.out.mono ?_; rintro e w' ⟨g, c', rfl, ho, hc, hn⟩
  have HO := Lib.hid ho; have HN := Lib.hid hn
  clear ho hn hcl
  go_wp2
  go_ret
  exact ⟨g, c', rfl, HO.out, hc, HN.out⟩
set_option maxHeartbeats 400000 in
theorem cellsP (F : Nat → Prop) (w : World) (b : Nat) (sz cs : List Int) (hwf : Wf sz cs) (h : Two 77 F w b sz cs) :
    Calls Try.prog 31 #[.pointer (some ⟨b, 0, none⟩)] w fun e w' => ∃ g c', e = .returned (.slice (some ⟨g, 0, none⟩) cs.length c') ∧ w'.ownsRow w.heap.size 3 1 (.slice (some ⟨g, 0, none⟩) cs.length c') cs.length (iv .i64 cs) ∧ cs.length ≤ c' ∧ Nw w w' := by
  obtain ⟨vs, vc, ht, -⟩ := h
  obtain ⟨az, zc, rfl, hzc, hzm, hz, -⟩ := own_IR ht.2.2.1
  have hlo := hwf.pos'; have hhi := hwf.most
  have p0 := ht.c1
  have hcl := Lib.hid (clone_own w az zc cs (by omega) (by omega) hz)
  clear ht hz hwf
  go_enter Try.func31, Try.ntmps31
  go_wp2_with fail
  refine hcl.out.mono ?_; rintro e w' ⟨g, c', rfl, ho, hc, hn⟩
  have HO := Lib.hid ho; have HN := Lib.hid hn
  clear ho hn hcl
  go_wp2
  go_ret
  exact ⟨g, c', rfl, HO.out, hc, HN.out⟩
set_option maxHeartbeats 400000 in
theorem sizesP_nil (w : World) : Calls Try.prog 30 #[.pointer none] w fun e w' => e = .returned (.slice none 0 0) ∧ w = w' := by
  go_enter Try.func30, Try.ntmps30
  go_wp2
  go_ret
  exact ⟨rfl, rfl⟩
set_option maxHeartbeats 400000 in
theorem cellsP_nil (w : World) : Calls Try.prog 31 #[.pointer none] w fun e w' => e = .returned (.slice none 0 0) ∧ w = w' := by
  go_enter Try.func31, Try.ntmps31
  go_wp2
  go_ret
  exact ⟨rfl, rfl⟩
end Go.Proofs.Ytbofjdckmkifaaa
