/-
  The walks of the slab's reference: each call gives what the plain slab says and what follows it. No condition beside those that each theorem states.
-/
import Derived.Test.YtbofjdckmkifaaaPlain13
import Derived.Test.YtbofjdckmkifaaaMem2

/-! ## The walks of the slab's reference: each call gives what the plain slab says. Conditions: the slab is one that may be. -/
namespace Go.Proofs.Ytbofjdckmkifaaa
open Go.RowKit

/-- a struct of two slices of ints behind the pointer b, all of it within F -/
def TwoV (T : TypeId) (w : World) (b : Nat) (xs ys : List Int) (vs vc : Value) : Prop :=
  w.heap[b]? = some (.cells #[vs, vc] T (0, 0)) ∧ w.ownsRow 0 3 1 vs xs.length (iv .i64 xs) ∧ w.ownsRow 0 3 1 vc ys.length (iv .i64 ys) ∧
    ∀ k, vs.ownBlock = some k → vc.ownBlock ≠ some k
def Two (T : TypeId) (F : Nat → Prop) (w : World) (b : Nat) (xs ys : List Int) : Prop :=
  ∃ vs vc, TwoV T w b xs ys vs vc ∧ F b ∧ (∀ k, vs.ownBlock = some k → F k) ∧ (∀ k, vc.ownBlock = some k → F k)
theorem TwoV.kp {T : TypeId} {S : Nat → Prop} {w w' : World} {b : Nat} {xs ys : List Int} {vs vc : Value} (h : TwoV T w b xs ys vs vc) (hk : Kp S w w') (hb : ¬ S b) (h1 : ∀ k, vs.ownBlock = some k → ¬ S k) (h2 : ∀ k, vc.ownBlock = some k → ¬ S k) : TwoV T w' b xs ys vs vc :=
  ⟨hk.blk h.1 hb, hk.own h.2.1 h1, hk.own h.2.2.1 h2, h.2.2.2⟩
theorem TwoV.nw {T : TypeId} {w w' : World} {b : Nat} {xs ys : List Int} {vs vc : Value} (h : TwoV T w b xs ys vs vc) (hk : Nw w w') : TwoV T w' b xs ys vs vc :=
  h.kp (kp_of_nw hk (fun _ => False)) (fun h => h) (fun _ _ h => h) (fun _ _ h => h)
theorem Two.kp {T : TypeId} {F S : Nat → Prop} {w w' : World} {b : Nat} {xs ys : List Int} (h : Two T F w b xs ys) (hk : Kp S w w') (hd : ∀ k, F k → k < w.heap.size → ¬ S k) : Two T F w' b xs ys := by
  obtain ⟨vs, vc, h, hb, h1, h2⟩ := h
  exact ⟨vs, vc, h.kp hk (hd b hb (blk_lt h.1)) (fun k hk => hd k (h1 k hk) (own_lt h.2.1 hk)) (fun k hk => hd k (h2 k hk) (own_lt h.2.2.1 hk)), hb, h1, h2⟩
theorem Two.nw {T : TypeId} {F : Nat → Prop} {w w' : World} {b : Nat} {xs ys : List Int} (h : Two T F w b xs ys) (hk : Nw w w') : Two T F w' b xs ys :=
  h.kp (kp_of_nw hk (fun _ => False)) (fun _ _ _ h => h)
theorem Two.mono {T : TypeId} {F G : Nat → Prop} {w : World} {b : Nat} {xs ys : List Int} (h : Two T F w b xs ys) (hd : ∀ k, F k → k < w.heap.size → G k) : Two T G w b xs ys := by
  obtain ⟨vs, vc, h, hb, h1, h2⟩ := h
  exact ⟨vs, vc, h, hd b hb (blk_lt h.1), fun k hk => hd k (h1 k hk) (own_lt h.2.1 hk), fun k hk => hd k (h2 k hk) (own_lt h.2.2.1 hk)⟩
theorem Two.lt {T : TypeId} {F : Nat → Prop} {w : World} {b : Nat} {xs ys : List Int} (h : Two T F w b xs ys) : b < w.heap.size := by
  obtain ⟨vs, vc, h, _⟩ := h
  exact blk_lt h.1

theorem TwoV.c0 {T : TypeId} {w : World} {b : Nat} {xs ys : List Int} {vs vc : Value} (h : TwoV T w b xs ys vs vc) : w.cell? ⟨b, 0, none⟩ = some vs := blk_cell h.1 0
theorem TwoV.c1 {T : TypeId} {w : World} {b : Nat} {xs ys : List Int} {vs vc : Value} (h : TwoV T w b xs ys vs vc) : w.cell? ⟨b, 1, none⟩ = some vc := blk_cell h.1 1
theorem TwoV.fr {T : TypeId} {w : World} {b : Nat} {xs ys : List Int} {vs vc : Value} (h : TwoV T w b xs ys vs vc) (i : Nat) : w.frozen? ⟨b, i, none⟩ = false := blk_frozen h.1 i
/-- a store into the second slice -/
theorem TwoV.set1 {T : TypeId} {w : World} {b : Nat} {xs ys : List Int} {vs : Value} {g n c : Nat} (hT : 3 ≠ T) (h : TwoV T w b xs ys vs (.slice (some ⟨g, 0, none⟩) n c)) (hn : n = ys.length) (k : Nat) (x : Int) :
    TwoV T (w.setCell ⟨g, k, none⟩ (.int .i64 x)) b xs (ys.set k x) vs (.slice (some ⟨g, 0, none⟩) n c) := by
  subst hn
  obtain ⟨hb, h1, h2, hne⟩ := h
  have hgb : b ≠ g := fun e => own_ne_blk h2 hb hT (by rw [e]; rfl)
  refine ⟨blk_far hb (by simpa using hgb) _, own_set h1 (fun e => hne g e rfl) _, ?_, hne⟩
  have := own_store h2 k (.int .i64 x)
  simpa [iv, List.map_set] using this
theorem TwoV.set0 {T : TypeId} {w : World} {b : Nat} {xs ys : List Int} {vc : Value} {g n c : Nat} (hT : 3 ≠ T) (h : TwoV T w b xs ys (.slice (some ⟨g, 0, none⟩) n c) vc) (hn : n = xs.length) (k : Nat) (x : Int) :
    TwoV T (w.setCell ⟨g, k, none⟩ (.int .i64 x)) b (xs.set k x) ys (.slice (some ⟨g, 0, none⟩) n c) vc := by
  subst hn
  obtain ⟨hb, h1, h2, hne⟩ := h
  have hgb : b ≠ g := fun e => own_ne_blk h1 hb hT (by rw [e]; rfl)
  refine ⟨blk_far hb (by simpa using hgb) _, ?_, own_set h2 (fun e => hne g rfl e) _, hne⟩
  have := own_store h1 k (.int .i64 x)
  simpa [iv, List.map_set] using this
/-- another slice in a field -/
theorem TwoV.put1 {T : TypeId} {w : World} {b : Nat} {xs ys zs : List Int} {vs vc v : Value} (hT : 3 ≠ T) (h : TwoV T w b xs ys vs vc) (hv : w.ownsRow 0 3 1 v zs.length (iv .i64 zs)) (hne : ∀ k, vs.ownBlock = some k → v.ownBlock ≠ some k) :
    TwoV T (w.setCell ⟨b, 1, none⟩ v) b xs zs vs v := by
  obtain ⟨hb, h1, h2, _⟩ := h
  exact ⟨blk_set hb 1 v, own_set h1 (own_ne_blk h1 hb hT) _, own_set hv (own_ne_blk hv hb hT) _, hne⟩
theorem TwoV.put0 {T : TypeId} {w : World} {b : Nat} {xs ys zs : List Int} {vs vc v : Value} (hT : 3 ≠ T) (h : TwoV T w b xs ys vs vc) (hv : w.ownsRow 0 3 1 v zs.length (iv .i64 zs)) (hne : ∀ k, v.ownBlock = some k → vc.ownBlock ≠ some k) :
    TwoV T (w.setCell ⟨b, 0, none⟩ v) b zs ys v vc := by
  obtain ⟨hb, h1, h2, _⟩ := h
  exact ⟨blk_set hb 0 v, own_set hv (own_ne_blk hv hb hT) _, own_set h2 (own_ne_blk h2 hb hT) _, hne⟩
/-! ### Place, Get -/
theorem bool_and_f {a b : Bool} (h : a = false) : (a && b) = false := by simp [h]
set_option maxHeartbeats 400000 in
theorem place13_len (F : Nat → Prop) (w : World) (b : Nat) (sz cs c : List Int) (ac : Option Addr) (cc : Nat) (h : Two 32 F w b sz cs) (hn : c.length ≠ sz.length) :
    Calls Try.prog 26 #[.pointer (some ⟨b, 0, none⟩), .slice ac c.length cc] w fun e w' => e = .returned (.tuple #[.int .i64 0, .int .i64 1]) ∧ ∃ n, w' = w.drewN n := by
  obtain ⟨vs, vc, ⟨hb, hs, hc, hne⟩, _⟩ := h
  obtain ⟨az, zc, rfl, hzc, _, hz, _⟩ := own_IR hs
  have h0 := blk_cell hb 0
  clear hb hs hc hne hz
  have hq : ((c.length : Int) != (sz.length : Int)) = true := by simp; omega
  have H := Lib.hid hn; clear hn
  go_enter Try.func26, Try.ntmps26
  go_wp2
  go_ret2
  exact ⟨rfl, 0, rfl⟩

set_option maxHeartbeats 400000 in
theorem place13_eq (F : Nat → Prop) (w : World) (b : Nat) (sz cs c : List Int) (ac : Option Addr) (cc : Nat) (hwf : Wf sz cs) (h : Two 32 F w b sz cs) (hn : c.length = sz.length) (hcc : IR .i64 w ac c) :
    Calls Try.prog 26 #[.pointer (some ⟨b, 0, none⟩), .slice ac c.length cc] w fun e w' => e = .returned (.tuple #[.int .i64 (placeV sz c), .int .i64 (placeE sz c)]) ∧ ∃ n, w' = w.drewN n := by
  obtain ⟨vs, vc, ⟨hb, hs, hc, hne⟩, _⟩ := h
  obtain ⟨az, zc, rfl, hzc, _, hz, _⟩ := own_IR hs
  obtain ⟨bz, oz, rfl, hz'⟩ := IR_some hz (by have := hwf.lo; omega)
  obtain ⟨bc, oc, rfl, hcc'⟩ := IR_some hcc (by have := hwf.lo; omega)
  clear hz hcc
  have hz := hz'; have hcc := hcc'; clear hz' hcc'
  have h0 := blk_cell hb 0
  clear hb hs hc hne
  have hlen : (c.length : Int) ≤ 6 := by have := hwf.hi; omega
  have hq : ((c.length : Int) != (c.length : Int)) = false := by simp
  obtain ⟨l, hl⟩ : ∃ l, l = c.length := ⟨_, rfl⟩
  rw [← hn] at h0 hzc hz
  rw [← hl] at h0 hzc hlen hcc hq hz ⊢
  have hpl : ∀ k, k ≤ l → okc sz c k = true → 0 ≤ plc sz c k ∧ plc sz c k ≤ 4096 := fun k hk hok => by
    have h1 := plc_lt hwf.pos (by omega) hok
    have h2 := hwf.pr_le (k := k) (by omega)
    omega
  have hsz : ∀ k, k < l → 1 ≤ rd sz k ∧ rd sz k ≤ 4096 := fun k hk => hwf.size_le (by omega)
  have HL := Lib.hid hl; have HN := Lib.hid hn; clear hl hn
  have HW := Lib.hid hwf; clear hwf
  have HP := Lib.hid hpl; have HS := Lib.hid hsz; have HZ := Lib.hid hz; have HC := Lib.hid hcc; clear hpl hsz hz hcc
  go_enter Try.func26, Try.ntmps26
  go_wp2
  go_loopw [6,7] (fun n i wr => ∃ k : Nat, k ≤ l ∧ i = .int .i64 k ∧ n = .int .i64 (plc sz c k) ∧ okc sz c k = true ∧ ∃ nq, wr = w.drewN nq) (fun _ i _ => l - (intOf i).toNat)
  case atStart => exact ⟨0, Nat.zero_le _, rfl, rfl, rfl, 0, rfl⟩
  case round =>
    obtain ⟨k, hk, rfl, rfl, hok, nq, rfl⟩ := hrel
    have HO := Lib.hid hok; clear hok
    by_cases hlt : k < l
    · have g1 := HZ.out k hlt
      have g2 := HC.out k hlt
      have g4 := HP.out k hk HO.out
      have g5 := HS.out k hlt
      by_cases q0 : rd c k < 0
      · have q1 : decide (rd c k < 0) = true := by simp; omega
        go_wp2
        go_quiet (fail)
        go_wp2
        go_ret2
        have hf : isCell sz c = false := by
          have : okc sz c (k + 1) = false := by simp [okc]; intro _; omega
          have := okc_mono (show k + 1 ≤ l by omega) this
          rw [HL.out] at this
          simp [isCell, this]
        simp only [placeV, placeE, hf]
        exact ⟨rfl, _, World.drewN_drewN _ _ _⟩
      · by_cases q3 : rd sz k ≤ rd c k
        · have q1 : decide (rd c k < 0) = false := by simp; omega
          have q2 : decide (rd c k ≥ rd sz k) = true := by simp; omega
          go_wp2
          go_quiet (fail)
          go_wp2
          go_ret2
          have hf : isCell sz c = false := by
            have : okc sz c (k + 1) = false := by simp [okc]; intro _ _; omega
            have := okc_mono (show k + 1 ≤ l by omega) this
            rw [HL.out] at this
            simp [isCell, this]
          simp only [placeV, placeE, hf]
          exact ⟨rfl, _, World.drewN_drewN _ _ _⟩
        · have q1 : decide (rd c k < 0) = false := by simp; omega
          have q2 : decide (rd c k ≥ rd sz k) = false := by simp; omega
          have hok1 : okc sz c (k + 1) = true := by simp [okc, HO.out]; omega
          have g6 := HP.out (k + 1) hlt hok1
          have HO1 := Lib.hid hok1; clear hok1
          simp only [plc] at g6
          go_wp2
          go_quiet (fail)
          go_wp2
          go_quiet (fail)
          go_wp2
          go_roundw
          case rel => exact ⟨k + 1, by omega, by go_num, rfl, HO1.out, _, rfl⟩
          case measure => simp [intOf]; omega
    · obtain rfl : k = l := by omega
      go_wp2
      go_ret2
      have hf : isCell sz c = true := by
        have := HO.out
        rw [HL.out] at this
        simp [isCell, this]; exact HN.out
      simp only [placeV, placeE, hf]
      refine ⟨?_, _, rfl⟩
      simp [HL.out]

theorem place13 (F : Nat → Prop) (w : World) (b : Nat) (sz cs c : List Int) (ac : Option Addr) (cc : Nat) (hwf : Wf sz cs) (h : Two 32 F w b sz cs) (hcc : IR .i64 w ac c) :
    Calls Try.prog 26 #[.pointer (some ⟨b, 0, none⟩), .slice ac c.length cc] w fun e w' => e = .returned (.tuple #[.int .i64 (placeV sz c), .int .i64 (placeE sz c)]) ∧ ∃ n, w' = w.drewN n := by
  by_cases hn : c.length = sz.length
  · exact place13_eq F w b sz cs c ac cc hwf h hn hcc
  · have hf : isCell sz c = false := by simp [isCell, hn]
    simp only [placeV, placeE, hf]
    exact place13_len F w b sz cs c ac cc h hn

end Go.Proofs.Ytbofjdckmkifaaa

/-! ## The walks of the slab's reference: a content, the cells in order, ranges. Conditions: the slab is one that may be. -/
namespace Go.Proofs.Ytbofjdckmkifaaa
open Go.RowKit

set_option maxHeartbeats 400000 in
theorem get13 (F : Nat → Prop) (w : World) (b : Nat) (sz cs c : List Int) (ac : Option Addr) (cc : Nat) (hwf : Wf sz cs) (h : Two 32 F w b sz cs) (hcc : IR .i64 w ac c) :
    Calls Try.prog 24 #[.pointer (some ⟨b, 0, none⟩), .slice ac c.length cc] w fun e w' => e = .returned (.tuple #[.int .i64 (getV sz cs c), .int .i64 (placeE sz c)]) ∧ ∃ n, w' = w.drewN n := by
  have hp := Lib.hid (place13 F w b sz cs c ac cc hwf h hcc)
  have hlt := placeV_lt (c := c) hwf
  obtain ⟨vs, vc, ht, _⟩ := h
  have h1 := ht.c1
  obtain ⟨hb, hs, hc, hne⟩ := ht
  obtain ⟨az, zc, rfl, hzc, hzm, hz, _⟩ := own_IR hc
  obtain ⟨bz, oz, rfl, hz'⟩ := IR_some hz (by have := hwf.pos'; omega)
  have hm := hwf.most
  clear hb hs hc hne hz
  by_cases hf : isCell sz c = true
  · obtain ⟨p, hpe⟩ : ∃ p : Nat, placeV sz c = p := ⟨(placeV sz c).toNat, by omega⟩
    have hE : placeE sz c = 0 := by simp [placeE, hf]
    have hG : getV sz cs c = rd cs p := by
      simp only [placeV, hf, if_true] at hpe
      simp [getV, hf, hpe]
    rw [hE, hpe] at hp
    rw [hE, hG]
    rw [hpe] at hlt
    have hcell := hz' p (by omega)
    have hlt2 : p < cs.length := by omega
    clear hlt
    clear hE hpe hG hf hz'
    go_enter Try.func24, Try.ntmps24
    go_wp2_with (go_at_call 26; refine (hp.out).mono ?_; rintro e w' ⟨rfl, n, rfl⟩)
    go_wp2
    go_ret2
    exact ⟨rfl, _, rfl⟩
  · have hf : isCell sz c = false := by simpa using hf
    have hE : placeE sz c = 1 := by simp [placeE, hf]
    have hG : getV sz cs c = 0 := by simp [getV, hf]
    rw [hE] at hp
    rw [hE, hG]
    clear hE hG hf hz' hlt
    go_enter Try.func24, Try.ntmps24
    go_wp2_with (go_at_call 26; refine (hp.out).mono ?_; rintro e w' ⟨rfl, n, rfl⟩)
    go_wp2
    go_ret2
    exact ⟨rfl, _, rfl⟩

/-! ### Cell, within, may -/
theorem infoI : (Try.prog.info? 3).map (fun i => (i.zero, i.size, i.bytes)) = some (some (.int .i64 0), 1, 8) := by kernel_rfl

set_option maxHeartbeats 400000 in
theorem cell13 (w : World) (sz : List Int) (az : Option Addr) (zc : Nat) (n : Int) (hn0 : 0 ≤ n) (hn1 : n ≤ 1000000) (h0 : 1 ≤ sz.length) (hl : sz.length ≤ 6) (hp : ∀ k, k < sz.length → 1 ≤ rd sz k ∧ rd sz k ≤ 4096) (hz : IR .i64 w az sz) :
    Calls Try.prog 35 #[.slice az sz.length zc, .int .i64 n] w fun e w' => ∃ g, e = .returned (.slice (some ⟨g, 0, none⟩) sz.length sz.length) ∧ w.heap.size ≤ g ∧ w'.heap[g]? = some (.cells (iv .i64 (cellL sz n)).toArray 3 (0, 0)) ∧ Nw w w' := by
  have hmk := run_mk 30 3 .i64 8 Try.underlying30 infoI (by omega) sz.length (by omega)
  obtain ⟨bz, oz, rfl, hz'⟩ := IR_some hz (by omega)
  obtain ⟨l, hl'⟩ : ∃ l, l = sz.length := ⟨_, rfl⟩
  rw [← hl'] at hmk hz' h0 hl hp ⊢
  have HZ := Lib.hid hz'; have HP := Lib.hid hp; have HL := Lib.hid hl'; clear hz' hp hl' hz
  go_enter Try.func35, Try.ntmps35
  go_wp2
  go_loopw [1, 6] (fun m i wr => ∃ k : Nat, k ≤ l ∧ i = .int .i64 ((k : Int) - 1) ∧ m = .int .i64 (n / suf sz k) ∧ 0 ≤ n / suf sz k ∧ n / suf sz k ≤ 1000000 ∧ wr.heap[w.heap.size]? = some (.cells (iv .i64 (cellT sz n k)).toArray 3 (0, 0)) ∧ Nw w wr) (fun _ i _ => ((intOf i) + 1).toNat)
  case atStart =>
    have e : suf sz l = 1 := suf_end sz (by have := HL.out; omega)
    refine ⟨l, Nat.le_refl _, rfl, by rw [e, Int.ediv_one], by rw [e, Int.ediv_one]; exact hn0, by rw [e, Int.ediv_one]; exact hn1, ?_, nw_alloc _ _⟩
    rw [HL.out, cellT_start]; exact blk_new _ _
  case round =>
    obtain ⟨k, hk, rfl, rfl, hm0, hm1, hblk, hnw⟩ := hrel
    obtain ⟨m, hm⟩ : ∃ m, m = n / suf sz k := ⟨_, rfl⟩
    rw [← hm] at hm0 hm1 ⊢
    cases k with
    | zero =>
      clear hmk
      have HB := Lib.hid hblk; have HN := Lib.hid hnw; have HM := Lib.hid hm; clear hblk hnw hm
      go_wp2
      go_ret
      exact ⟨w.heap.size, rfl, Nat.le_refl _, by rw [← cellT_end]; exact HB.out, HN.out⟩
    | succ k =>
      have hs := HP.out k (by omega)
      have hc := nw_cell hnw (HZ.out k (by omega))
      have hlen : (cellT sz n (k + 1)).length = sz.length := cellT_length _ _ _
      have hget := blk_cell hblk k
      have hfr := blk_frozen hblk k
      have hget' : wr.cell? ⟨w.heap.size, k, none⟩ = some (.int .i64 (rd (cellT sz n (k + 1)) k)) := by
        rw [hget]; simpa using iv_get .i64 (cellT sz n (k + 1)) (j := k) (by rw [hlen]; have := HL.out; omega)
      have hd : m % rd sz k = dig sz n k := by rw [hm]; rfl
      have hq : m / rd sz k = n / suf sz k := by
        have h1 := suf_pos (fun k hk => (HP.out k (by have := HL.out; omega)).1) (k + 1)
        rw [hm, Int.ediv_ediv_of_nonneg (by omega), Int.mul_comm, ← suf_step sz (by have := HL.out; omega)]
      have hq0 : 0 ≤ m / rd sz k := Int.ediv_nonneg hm0 (by omega)
      have hq1 : m / rd sz k ≤ m := Int.ediv_le_self _ hm0
      have hr0 : 0 ≤ m % rd sz k := Int.emod_nonneg _ (by omega)
      have hr1 : m % rd sz k < rd sz k := Int.emod_lt_of_pos _ (by omega)
      have hset : (wr.setCell ⟨w.heap.size, k, none⟩ (.int .i64 (m % rd sz k))).heap[w.heap.size]? = some (.cells (iv .i64 (cellT sz n k)).toArray 3 (0, 0)) := by
        rw [blk_set hblk, iv_set, hd, cellT_step _ _ _ (by have := HL.out; omega)]
      have hkp : Nw w (wr.setCell ⟨w.heap.size, k, none⟩ (.int .i64 (m % rd sz k))) := hnw.setCell (Nat.le_refl _) _
      have hc2 : (wr.setCell ⟨w.heap.size, k, none⟩ (.int .i64 (m % rd sz k))).cell? ⟨bz, oz + k, none⟩ = some (.int .i64 (rd sz k)) := nw_cell hkp (HZ.out k (by omega))
      have HB := Lib.hid hblk; have HN := Lib.hid hnw; have HM := Lib.hid hm; have HD := Lib.hid hd; have HQ := Lib.hid hq; have HS := Lib.hid hset; have HK := Lib.hid hkp; have HL2 := Lib.hid hlen
      clear hblk hnw hm hd hq hset hkp hlen hget hmk
      go_wp2
      go_roundw
      case rel => exact ⟨k, by omega, by go_num, by rw [← HQ.out], by rw [← HQ.out]; exact hq0, by rw [← HQ.out]; omega, HS.out, HK.out⟩
      case measure => simp [intOf]; try omega

set_option maxHeartbeats 400000 in
theorem within13 (w : World) (c low high : List Int) (a1 a2 a3 : Option Addr) (c1 c2 c3 : Nat) (h0 : 1 ≤ c.length) (hm : c.length ≤ 6) (hl : low.length = c.length) (hh : high.length = c.length)
    (r1 : IR .i64 w a1 c) (r2 : IR .i64 w a2 low) (r3 : IR .i64 w a3 high) :
    Calls Try.prog 53 #[.slice a1 c.length c1, .slice a2 low.length c2, .slice a3 high.length c3] w fun e w' => e = .returned (.bool (withinB c low high c.length)) ∧ ∃ n, w' = w.drewN n := by
  obtain ⟨b1, o1, rfl, r1'⟩ := IR_some r1 (by omega)
  obtain ⟨b2, o2, rfl, r2'⟩ := IR_some r2 (by omega)
  obtain ⟨b3, o3, rfl, r3'⟩ := IR_some r3 (by omega)
  clear r1 r2 r3
  rw [hl] at r2'; rw [hh] at r3'; rw [hl, hh]
  obtain ⟨l, hl'⟩ : ∃ l, l = c.length := ⟨_, rfl⟩
  rw [← hl'] at h0 hm r1' r2' r3' ⊢
  have R1 := Lib.hid r1'; have R2 := Lib.hid r2'; have R3 := Lib.hid r3'; clear r1' r2' r3' hl hh hl'
  go_enter Try.func53, Try.ntmps53
  go_wp2
  go_loopw [7] (fun i wr => ∃ k : Nat, k ≤ l ∧ i = .int .i64 k ∧ withinB c low high k = true ∧ ∃ nq, wr = w.drewN nq) (fun i _ => l - (intOf i).toNat)
  case atStart => exact ⟨0, Nat.zero_le _, rfl, rfl, 0, rfl⟩
  case round =>
    obtain ⟨k, hk, rfl, hok, nq, rfl⟩ := hrel
    have HO := Lib.hid hok; clear hok
    by_cases hlt : k < l
    · have g1 := R1.out k hlt
      have g2 := R2.out k hlt
      have g3 := R3.out k hlt
      by_cases q0 : rd c k < rd low k
      · have q1 : decide (rd c k < rd low k) = true := by simp; omega
        go_wp2
        go_quiet (fail)
        go_wp2
        go_ret
        have hf : withinB c low high l = false := withinB_mono (show k + 1 ≤ l by omega) (by simp [withinB]; intro _ _; omega)
        rw [hf]
        exact ⟨rfl, by first | exact ⟨_, rfl⟩ | exact ⟨_, World.drewN_drewN _ _ _⟩⟩
      · by_cases q3 : rd high k < rd c k
        · have q1 : decide (rd c k < rd low k) = false := by simp; omega
          have q2 : decide (rd c k > rd high k) = true := by simp; omega
          go_wp2
          go_quiet (fail)
          go_wp2
          go_ret
          have hf : withinB c low high l = false := withinB_mono (show k + 1 ≤ l by omega) (by simp [withinB]; intro _ _; omega)
          rw [hf]
          exact ⟨rfl, by first | exact ⟨_, rfl⟩ | exact ⟨_, World.drewN_drewN _ _ _⟩⟩
        · have q1 : decide (rd c k < rd low k) = false := by simp; omega
          have q2 : decide (rd c k > rd high k) = false := by simp; omega
          have hok1 : withinB c low high (k + 1) = true := by simp [withinB, HO.out]; omega
          have HO1 := Lib.hid hok1; clear hok1
          go_wp2
          go_quiet (fail)
          go_wp2
          go_roundw
          case rel => exact ⟨k + 1, by omega, by go_num, HO1.out, by first | exact ⟨_, rfl⟩ | exact ⟨_, World.drewN_drewN _ _ _⟩⟩
          case measure => simp [intOf]; try omega
    · obtain rfl : k = l := by omega
      go_wp2
      go_ret
      rw [HO.out]
      exact ⟨rfl, _, rfl⟩

set_option maxHeartbeats 1000000 in
theorem may13 (F : Nat → Prop) (w : World) (b : Nat) (sz cs low high : List Int) (a1 a2 : Option Addr) (c1 c2 : Nat) (hwf : Wf sz cs) (h : Two 32 F w b sz cs) (r1 : IR .i64 w a1 low) (r2 : IR .i64 w a2 high) :
    Calls Try.prog 52 #[.pointer (some ⟨b, 0, none⟩), .slice a1 low.length c1, .slice a2 high.length c2] w fun e w' => e = .returned (.bool (mayB sz low high)) ∧ ∃ n, w' = w.drewN n := by
  have hp1 := Lib.hid (place13 F w b sz cs low a1 c1 hwf h r1)
  have hp2 := Lib.hid (fun n => place13 F (w.drewN n) b sz cs high a2 c2 hwf (h.nw (nw_drewN w n)) (r2.nw (nw_drewN w n)))
  by_cases e1 : isCell sz low = true
  · by_cases e2 : isCell sz high = true
    · have E1 : placeE sz low = 0 := by simp [placeE, e1]
      have E2 : placeE sz high = 0 := by simp [placeE, e2]
      have l1 : low.length = sz.length := by simp [isCell] at e1; exact e1.1
      have l2 : high.length = sz.length := by simp [isCell] at e2; exact e2.1
      have hmay : mayB sz low high = leB low high low.length := by simp [mayB, e1, e2]
      rw [hmay]
      rw [E1] at hp1; rw [E2] at hp2
      have h6 := hwf.hi
      have h1 := hwf.lo
      obtain ⟨b1, o1, rfl, r1'⟩ := IR_some r1 (by omega)
      obtain ⟨b2, o2, rfl, r2'⟩ := IR_some r2 (by omega)
      obtain ⟨l, hl'⟩ : ∃ l, l = low.length := ⟨_, rfl⟩
      rw [show high.length = low.length by omega] at r2' hp2 ⊢
      rw [← hl'] at r1' r2' hp1 hp2 ⊢
      have h7 : l ≤ 6 := by omega
      obtain ⟨p1, hq1⟩ : ∃ p, p = placeV sz low := ⟨_, rfl⟩
      obtain ⟨p2, hq2⟩ : ∃ p, p = placeV sz high := ⟨_, rfl⟩
      rw [← hq1] at hp1; rw [← hq2] at hp2
      have R1 := Lib.hid r1'; have R2 := Lib.hid r2'; clear r1' r2' r1 r2 l1 l2 hl' h e1 e2 E1 E2 hmay hwf h6 h1 hq1 hq2
      go_enter Try.func52, Try.ntmps52
      go_wp2_with fail
      refine hp1.out.mono ?_; rintro e w' ⟨rfl, n1, rfl⟩
      go_wp2_with fail
      refine (hp2.out n1).mono ?_; rintro e w' ⟨rfl, n2, rfl⟩
      clear hp1 hp2
      go_wp2
      go_loopw [11] (fun i wr => ∃ k : Nat, k ≤ l ∧ i = .int .i64 k ∧ leB low high k = true ∧ ∃ nq, wr = w.drewN nq) (fun i _ => l - (intOf i).toNat)
      case atStart => exact ⟨0, Nat.zero_le _, rfl, rfl, _, rfl⟩
      case round =>
        obtain ⟨k, hk, rfl, hok, nq, rfl⟩ := hrel
        have HO := Lib.hid hok; clear hok
        by_cases hlt : k < l
        · have g1 := R1.out k hlt
          have g2 := R2.out k hlt
          by_cases q0 : rd high k < rd low k
          · have q1 : decide (rd low k > rd high k) = true := by simp; omega
            go_wp2
            go_quiet (fail)
            go_wp2
            go_ret
            have hf : leB low high l = false := leB_mono (show k + 1 ≤ l by omega) (by simp [leB]; intro _; omega)
            rw [hf]
            exact ⟨rfl, by first | exact ⟨_, rfl⟩ | exact ⟨_, World.drewN_drewN _ _ _⟩⟩
          · have q1 : decide (rd low k > rd high k) = false := by simp; omega
            have hok1 : leB low high (k + 1) = true := by simp [leB, HO.out]; omega
            have HO1 := Lib.hid hok1; clear hok1
            go_wp2
            go_quiet (fail)
            go_wp2
            go_roundw
            case rel => exact ⟨k + 1, by omega, by go_num, HO1.out, by first | exact ⟨_, rfl⟩ | exact ⟨_, World.drewN_drewN _ _ _⟩⟩
            case measure => simp [intOf]; try omega
        · obtain rfl : k = l := by omega
          go_wp2
          go_ret
          rw [HO.out]
          exact ⟨rfl, _, rfl⟩
    · have e2' : isCell sz high = false := by simpa using e2
      have E1 : placeE sz low = 0 := by simp [placeE, e1]
      have E2 : placeE sz high = 1 := by simp [placeE, e2']
      have hmay : mayB sz low high = false := by simp [mayB, e2']
      rw [hmay]
      rw [E1] at hp1; rw [E2] at hp2
      clear e1 e2 e2' E1 E2 hmay r1 r2 h hwf
      go_enter Try.func52, Try.ntmps52
      go_wp2_with fail
      refine hp1.out.mono ?_; rintro e w' ⟨rfl, n1, rfl⟩
      go_wp2_with fail
      refine (hp2.out n1).mono ?_; rintro e w' ⟨rfl, n2, rfl⟩
      go_wp2
      go_ret
      exact ⟨rfl, by first | exact ⟨_, rfl⟩ | exact ⟨_, World.drewN_drewN _ _ _⟩⟩
  · have e1' : isCell sz low = false := by simpa using e1
    have E1 : placeE sz low = 1 := by simp [placeE, e1']
    have hmay : mayB sz low high = false := by simp [mayB, e1']
    rw [hmay]
    rw [E1] at hp1
    obtain ⟨p2, hq2⟩ : ∃ p, p = placeV sz high := ⟨_, rfl⟩
    obtain ⟨e2, hq3⟩ : ∃ p, p = placeE sz high := ⟨_, rfl⟩
    rw [← hq2, ← hq3] at hp2
    clear e1 e1' E1 hmay r1 r2 h hwf hq2 hq3
    go_enter Try.func52, Try.ntmps52
    go_wp2_with fail
    refine hp1.out.mono ?_; rintro e w' ⟨rfl, n1, rfl⟩
    go_wp2_with fail
    refine (hp2.out n1).mono ?_; rintro e w' ⟨rfl, n2, rfl⟩
    go_wp2
    go_ret
    exact ⟨rfl, by first | exact ⟨_, rfl⟩ | exact ⟨_, World.drewN_drewN _ _ _⟩⟩
end Go.Proofs.Ytbofjdckmkifaaa

/-! ## The walks of the slab's reference: Fill, Seen. Conditions: the slab is one that may be; the two cells lie outside it. -/
namespace Go.Proofs.Ytbofjdckmkifaaa
open Go.RowKit

set_option maxHeartbeats 1000000 in
theorem fill13 (F : Nat → Prop) (w : World) (b : Nat) (sz cs low high : List Int) (a1 a2 : Option Addr) (c1 c2 : Nat) (n : Int) (hwf : Wf sz cs) (h : Two 32 F w b sz cs)
    (r1 : IR .i64 w a1 low) (r2 : IR .i64 w a2 high) (d1 : 0 < low.length → ∀ d, a1 = some d → ¬ F d.block) (d2 : 0 < high.length → ∀ d, a2 = some d → ¬ F d.block) :
    Calls Try.prog 22 #[.pointer (some ⟨b, 0, none⟩), .slice a1 low.length c1, .slice a2 high.length c2, .int .i64 n] w fun e w' =>
      e = .returned (.int .i64 (if mayB sz low high then 0 else 1)) ∧ Two 32 F w' b sz (if mayB sz low high then fillL sz cs low high n else cs) ∧ Kp F w w' := by
  have hm := Lib.hid (may13 F w b sz cs low high a1 a2 c1 c2 hwf h r1 r2)
  by_cases e1 : mayB sz low high = true
  · rw [e1] at hm
    simp only [e1, if_true]
    have hl : low.length = sz.length ∧ high.length = sz.length := by simp [mayB, isCell] at e1; omega
    obtain ⟨vs, vc, ht, hFb, hFs, hFc⟩ := h
    have hc := ht.2.2.1
    obtain ⟨az, zc, rfl, hzc, hzm, hz, hzb⟩ := own_IR hc
    obtain ⟨g, oz, rfl, -⟩ := IR_some hz (by have := hwf.pos'; omega)
    obtain ⟨-, h0, hg, -, hglt⟩ := hzb _ rfl
    simp only at h0 hglt
    subst h0
    have hs := ht.2.1
    obtain ⟨asz, sc, rfl, hsc, hsm, hsz, hsb⟩ := own_IR hs
    have hgF : F g := hFc g rfl
    have hlo := hwf.lo; have hhi := hwf.hi; have hmost := hwf.most
    have d1 := d1 (by omega); have d2 := d2 (by omega)
    have hwt : ∀ k, k < sz.length → 1 ≤ rd sz k ∧ rd sz k ≤ 4096 := fun k hk => hwf.size_le hk
    have q0 := ht.c0; have q1 := ht.c1
    have T0 := Lib.hid ht; have HL := Lib.hid hl; have HW := Lib.hid hwt; have E1 := Lib.hid e1
    have HF1 := Lib.hid hFb; have HF2 := Lib.hid hFs; have HF3 := Lib.hid hFc; have HF4 := Lib.hid hgF
    clear ht hl hc hz hzb hs hsz hsb e1 hwt hFb hFs hFc hgF hg hwf
    go_enter Try.func22, Try.ntmps22
    go_wp2_with fail
    refine hm.out.mono ?_; rintro e w' ⟨rfl, n1, rfl⟩
    clear hm
    go_wp2
    go_loopw [9] (fun i wr => ∃ k : Nat, k ≤ cs.length ∧ i = .int .i64 k ∧ TwoV 32 wr b sz (fillT sz cs low high n k) (.slice asz sz.length sc) (.slice (some ⟨g, 0, none⟩) cs.length zc) ∧ Kp (fun b => b = g) w wr) (fun i _ => cs.length - (intOf i).toNat)
    case atStart => exact ⟨0, Nat.zero_le _, rfl, by rw [fillT_start]; exact T0.out.nw (nw_drewN _ _), (Kp.refl _ _).drewN _⟩
    case round =>
      clear q0 q1
      obtain ⟨k, hk, rfl, ht, hkp⟩ := hrel
      have q0 := ht.c0; have q1 := ht.c1
      by_cases hlt : k < cs.length
      · have hz : IR .i64 wr asz sz := by obtain ⟨a, c, e, _, _, hi, _⟩ := own_IR ht.2.1; cases e; exact hi
        have hcell := Lib.hid (cell13 wr sz asz sc k (by omega) (by omega) hlo hhi HW.out hz)
        have T1 := Lib.hid ht; have HK := Lib.hid hkp
        clear ht hkp hz
        go_wp2_with fail
        refine hcell.out.mono ?_; rintro e w1 ⟨gc, rfl, hgc, hblk, hnw⟩
        have t1 := T1.out.nw hnw
        have hk1 := HK.out.nwd hnw
        have hn1 : ∀ d, a1 = some d → ¬ (d.block = g) := fun d hd e => d1 d hd (e ▸ HF4.out)
        have hn2 : ∀ d, a2 = some d → ¬ (d.block = g) := fun d hd e => d2 d hd (e ▸ HF4.out)
        have hw := Lib.hid (within13 w1 (cellL sz k) low high (some ⟨gc, 0, none⟩) a1 a2 sz.length c1 c2 (by simp; omega) (by simp; omega) (by simpa using HL.out.1) (by simpa using HL.out.2) (IR_of_blk hblk) (r1.kp hk1 hn1) (r2.kp hk1 hn2))
        rw [cellL_length] at hw
        have p0 := t1.c0; have p1 := t1.c1
        have hval : w1.cell? ⟨g, k, none⟩ = some (.int .i64 (rd (fillT sz cs low high n k) k)) := by
          exact own_cell t1.2.2.1 (by simpa using hlt)
        have hfr : w1.frozen? ⟨g, k, none⟩ = false := own_frozen t1.2.2.1 k
        have T2 := Lib.hid t1; have HK2 := Lib.hid hk1
        clear t1 hk1 hn1 hn2 hblk hnw q0 q1 T1 HK
        cases hh : withinB (cellL sz k) low high sz.length with
        | true =>
          rw [hh] at hw
          go_wp2_with fail
          refine hw.out.mono ?_; rintro e w2 ⟨rfl, n2, rfl⟩
          clear hw
          have HH := Lib.hid hh; clear hh
          go_wp2
          go_roundw
          case rel => exact ⟨k + 1, by omega, by go_num, by rw [← fillT_hit _ _ _ _ _ _ hlt HH.out]; exact (T2.out.nw (nw_drewN _ _)).set1 (by decide) (by simp) k n, (HK2.out.drewN _).setCell (fun _ => rfl) _⟩
          case measure => simp [intOf]; try omega
        | false =>
          rw [hh] at hw
          go_wp2_with fail
          refine hw.out.mono ?_; rintro e w2 ⟨rfl, n2, rfl⟩
          clear hw
          have HH := Lib.hid hh; clear hh
          go_wp2
          go_roundw
          case rel => exact ⟨k + 1, by omega, by go_num, by rw [← fillT_miss _ _ _ _ _ _ HH.out]; exact T2.out.nw (nw_drewN _ _), HK2.out.drewN _⟩
          case measure => simp [intOf]; try omega
      · obtain rfl : k = cs.length := by omega
        have T1 := Lib.hid ht; have HK := Lib.hid hkp
        clear ht hkp
        go_wp2
        go_ret
        exact ⟨rfl, ⟨_, _, T1.out, HF1.out, HF2.out, HF3.out⟩, HK.out.mono (fun b hb _ => hb ▸ HF4.out)⟩
  · have e2 : mayB sz low high = false := by simpa using e1
    rw [e2] at hm
    have T0 := Lib.hid h
    simp only [e2]
    clear e1 e2 h r1 r2 d1 d2 hwf
    go_enter Try.func22, Try.ntmps22
    go_wp2_with fail
    refine hm.out.mono ?_; rintro e w' ⟨rfl, n1, rfl⟩
    clear hm
    go_wp2
    go_ret
    exact ⟨rfl, T0.out.nw (nw_drewN _ _), (Kp.refl _ _).drewN _⟩
end Go.Proofs.Ytbofjdckmkifaaa

/-! ## The walks of the slab's reference: Seen. Conditions: the slab is one that may be. -/
namespace Go.Proofs.Ytbofjdckmkifaaa
open Go.RowKit

set_option maxHeartbeats 1000000 in
theorem seen13_no (w : World) (b : Nat) (sz low high : List Int) (a1 a2 : Option Addr) (c1 c2 : Nat) (e1 : mayB sz low high = false)
    (hm : Hid (Calls Try.prog 52 #[.pointer (some ⟨b, 0, none⟩), .slice a1 low.length c1, .slice a2 high.length c2] w fun e w' => e = .returned (.bool (mayB sz low high)) ∧ ∃ n, w' = w.drewN n)) :
    Calls Try.prog 28 #[.pointer (some ⟨b, 0, none⟩), .slice a1 low.length c1, .slice a2 high.length c2] w fun e w' =>
      e = .returned (.tuple #[.slice none 0 0, .int .i64 1]) ∧ Nw w w' := by
  rw [e1] at hm
  clear e1
  go_enter Try.func28, Try.ntmps28
  go_wp2_with fail
  refine hm.out.mono ?_; rintro e w' ⟨rfl, n1, rfl⟩
  clear hm
  go_wp2
  go_ret2
  exact ⟨rfl, nw_drewN _ _⟩

set_option maxHeartbeats 2000000 in
theorem seen13_yes (F : Nat → Prop) (w : World) (b : Nat) (sz cs low high : List Int) (a1 a2 : Option Addr) (c1 c2 : Nat) (hwf : Wf sz cs) (h : Two 32 F w b sz cs)
    (r1 : IR .i64 w a1 low) (r2 : IR .i64 w a2 high) (e1 : mayB sz low high = true) :
    Calls Try.prog 28 #[.pointer (some ⟨b, 0, none⟩), .slice a1 low.length c1, .slice a2 high.length c2] w fun e w' =>
      ∃ a c, e = .returned (.tuple #[.slice a (seenT sz cs low high cs.length).length c, .int .i64 0]) ∧ w'.ownsRow 0 3 1 (.slice a (seenT sz cs low high cs.length).length c) (seenT sz cs low high cs.length).length (iv .i64 (seenT sz cs low high cs.length)) ∧
        (∀ d, a = some d → w.heap.size ≤ d.block) ∧ Nw w w' := by
  have hm := Lib.hid (may13 F w b sz cs low high a1 a2 c1 c2 hwf h r1 r2)
  rw [e1] at hm
  have hl : low.length = sz.length ∧ high.length = sz.length := by simp [mayB, isCell] at e1; omega
  obtain ⟨vs, vc, ht, -⟩ := h
  have hc := ht.2.2.1
  obtain ⟨az, zc, rfl, hzc, hzm, hz, hzb⟩ := own_IR hc
  obtain ⟨g, oz, rfl, -⟩ := IR_some hz (by have := hwf.pos'; omega)
  obtain ⟨-, h0, hg, -, hglt⟩ := hzb _ rfl
  simp only at h0 hglt
  subst h0
  have hs := ht.2.1
  obtain ⟨asz, sc, rfl, hsc, hsm, hsz, hsb⟩ := own_IR hs
  have hlo := hwf.lo; have hhi := hwf.hi; have hmost := hwf.most
  have hwt : ∀ k, k < sz.length → 1 ≤ rd sz k ∧ rd sz k ≤ 4096 := fun k hk => hwf.size_le hk
  have q0 := ht.c0; have q1 := ht.c1
  have T0 := Lib.hid ht; have HL := Lib.hid hl; have HW := Lib.hid hwt; have E1 := Lib.hid e1
  clear ht hl hc hz hzb hs hsz hsb e1 hwt hg hwf
  go_enter Try.func28, Try.ntmps28
  go_wp2_with fail
  refine hm.out.mono ?_; rintro e w' ⟨rfl, n1, rfl⟩
  clear hm
  go_wp2
  go_loopw [8, 9] (fun v i wr => ∃ (k : Nat) (a : Option Addr) (c : Nat), k ≤ cs.length ∧ i = .int .i64 k ∧ v = .slice a (seenT sz cs low high k).length c ∧ wr.ownsRow 0 3 1 (.slice a (seenT sz cs low high k).length c) (seenT sz cs low high k).length (iv .i64 (seenT sz cs low high k)) ∧
    (∀ d, a = some d → w.heap.size ≤ d.block) ∧ Nw w wr) (fun _ i _ => cs.length - (intOf i).toNat)
  case atStart => exact ⟨0, none, 0, Nat.zero_le _, rfl, rfl, World.ownsRow_nil _ _ _ _, fun d hd => by (cases hd), nw_drewN _ _⟩
  case round =>
    clear q0 q1
    obtain ⟨k, a, c, hk, rfl, rfl, ho, had, hnw⟩ := hrel
    have ht := T0.out.nw hnw
    have q0 := ht.c0; have q1 := ht.c1
    have hsl := seenT_len sz cs low high k
    by_cases hlt : k < cs.length
    · have hz : IR .i64 wr asz sz := by obtain ⟨a, c, e, _, _, hi, _⟩ := own_IR ht.2.1; cases e; exact hi
      have hcell := Lib.hid (cell13 wr sz asz sc k (by omega) (by omega) hlo hhi HW.out hz)
      have HK := Lib.hid hnw; have HO := Lib.hid ho; have HA := Lib.hid had
      clear hnw hz ho ht had
      go_wp2_with fail
      refine hcell.out.mono ?_; rintro e w1 ⟨gc, rfl, hgc, hblk, hnw1⟩
      have hk1 := nw_trans HK.out hnw1
      have t1 := T0.out.nw hk1
      have hw := Lib.hid (within13 w1 (cellL sz k) low high (some ⟨gc, 0, none⟩) a1 a2 sz.length c1 c2 (by simp; omega) (by simp; omega) (by simpa using HL.out.1) (by simpa using HL.out.2) (IR_of_blk hblk) (r1.nw hk1) (r2.nw hk1))
      rw [cellL_length] at hw
      have p0 := t1.c0; have p1 := t1.c1
      have hval : w1.cell? ⟨g, k, none⟩ = some (.int .i64 (rd cs k)) := own_cell t1.2.2.1 hlt
      have ho1 := nw_own hnw1 HO.out
      have HO1 := Lib.hid ho1; have HK1 := Lib.hid hk1
      clear t1 hk1 hblk hnw1 q0 q1 HK ho1 HO hcell
      cases hh : withinB (cellL sz k) low high sz.length with
      | false =>
        rw [hh] at hw
        go_wp2_with fail
        refine hw.out.mono ?_; rintro e w2 ⟨rfl, n2, rfl⟩
        clear hw
        have HH := Lib.hid hh; clear hh
        go_wp2
        go_roundw
        case rel => exact ⟨k + 1, a, c, by omega, by go_num, by rw [seenT_miss HH.out], by rw [seenT_miss HH.out]; exact nw_own (nw_drewN _ _) HO1.out, HA.out, nw_trans HK1.out (nw_drewN _ _)⟩
        case measure => simp [intOf]; try omega
      | true =>
        rw [hh] at hw
        go_wp2_with fail
        refine hw.out.mono ?_; rintro e w2 ⟨rfl, n2, rfl⟩
        clear hw
        have HH := Lib.hid hh; clear hh
        obtain ⟨S, hS⟩ : ∃ S, S = seenT sz cs low high k := ⟨_, rfl⟩
        rw [← hS] at hsl ⊢
        have HS := Lib.hid hS; clear hS
        have hir : IR .i64 w1 a S := by
          have h1 := HO1.out
          rw [← HS.out] at h1
          obtain ⟨a', c', e, _, _, hi, _⟩ := own_IR h1; cases e; exact hi
        have HI := Lib.hid hir; clear hir
        go_wp2
        obtain ⟨wo, hwo⟩ : ∃ wo : World, wo = w1.drewN n2 := ⟨_, rfl⟩
        go_loopw [10, 11] (fun hb i wr => ∃ (m : Nat), m ≤ S.length ∧ i = .int .i64 m ∧ hb = .bool (decide (rd cs k ∈ S.take m)) ∧ ∃ nq, wr = w1.drewN nq) (fun _ i _ => S.length - (intOf i).toNat)
        case atStart => exact ⟨0, Nat.zero_le _, rfl, by simp, _, rfl⟩
        case round =>
          obtain ⟨m, hm, rfl, rfl, nq, rfl⟩ := hrel
          by_cases hml : m < S.length
          · obtain ⟨b', o', rfl, hcm⟩ := HI.out m hml
            have hst := mem_take_succ S m hml (rd cs k)
            by_cases hin : rd cs k ∈ S.take m
            · have hd : decide (rd cs k ∈ S.take m) = true := by simpa using hin
              have hd2 : decide (rd cs k ∈ S.take (m + 1)) = true := by simpa using hst.2 (.inl hin)
              rw [hd]
              have HD := Lib.hid hd2
              clear hd hd2 hst hin hcm
              go_wp2
              go_quiet (fail)
              go_wp2
              go_roundw
              case rel => exact ⟨m + 1, by omega, by go_num, by rw [HD.out], by first | exact ⟨_, rfl⟩ | exact ⟨_, World.drewN_drewN _ _ _⟩⟩
              case measure => simp [intOf]; try omega
            · have hd : decide (rd cs k ∈ S.take m) = false := by simpa using hin
              have hd2 : decide (rd cs k ∈ S.take (m + 1)) = (rd S m == rd cs k) := by rw [Bool.eq_iff_iff]; simp [hst, hin]
              rw [hd]
              have HD := Lib.hid hd2
              clear hd hd2 hst hin
              go_wp2
              go_quiet (fail)
              go_wp2
              go_roundw
              case rel => exact ⟨m + 1, by omega, by go_num, by rw [HD.out], by first | exact ⟨_, rfl⟩ | exact ⟨_, World.drewN_drewN _ _ _⟩⟩
              case measure => simp [intOf]; try omega
          · obtain rfl : m = S.length := by omega
            rw [List.take_length]
            by_cases hin : rd cs k ∈ S
            · have hd : decide (rd cs k ∈ S) = true := by simpa using hin
              rw [hd]
              have HN := Lib.hid hin
              clear hd hin
              go_wp2
              go_roundw
              case rel =>
                have e : seenT sz cs low high (k + 1) = seenT sz cs low high k := seenT_old (by rw [← HS.out]; exact HN.out)
                refine ⟨k + 1, a, c, by omega, by go_num, by rw [e, HS.out], by rw [e]; exact nw_own (nw_drewN _ _) HO1.out, HA.out, nw_trans HK1.out (nw_drewN _ _)⟩
              case measure => simp [intOf]; try omega
            · have hd : decide (rd cs k ∈ S) = false := by simpa using hin
              rw [hd]
              have HN := Lib.hid hin
              clear hd hin
              have ho2 := nw_own (nw_drewN w1 nq) HO1.out
              rw [← HS.out] at ho2
              have HO2 := Lib.hid ho2; clear ho2
              go_wp2_with (at_builtin; refine app1 rfl (.tmp 59) (.tmp 67) 30 3 .i64 8 rfl Try.underlying30 infoI (by omega) _ _ S _ rfl rfl HO2.out (by omega) ?_)
              intro g2 c2' w3 ho3 hc3 hk3 hat
              go_wp2
              go_roundw
              case rel =>
                have e : seenT sz cs low high (k + 1) = S ++ [rd cs k] := by rw [seenT_new HH.out (by rw [← HS.out]; exact HN.out), HS.out]
                refine ⟨k + 1, some ⟨g2, 0, none⟩, c2', by omega, by go_num, by rw [e]; simp, by rw [e]; simpa using ho3, ?_, ?_⟩
                · intro d hd; cases hd
                  rcases hat with hat | hat
                  · cases a with
                    | none => cases hat
                    | some d' => have := HA.out d' rfl; have h' : some d'.block = some g2 := hat; injection h' with h'; show w.heap.size ≤ g2; omega
                  · have := HK1.out.size; have h' : w1.heap.size ≤ g2 := hat; show w.heap.size ≤ g2; omega
                · refine ((kp_of_nw (nw_trans HK1.out (nw_drewN _ _)) (fun _ => False)).trans hk3 ?_).nw
                  intro b hb hlt
                  cases a with
                  | none => cases hb
                  | some d' => have := HA.out d' rfl; have h' : some d'.block = some b := hb; injection h' with h'; omega
              case measure => simp [intOf]; try omega
    · obtain rfl : k = cs.length := by omega
      have HK := Lib.hid hnw; have HO := Lib.hid ho; have HA := Lib.hid had
      clear hnw ho ht had
      go_wp2
      go_ret2
      exact ⟨a, c, rfl, HO.out, HA.out, HK.out⟩
end Go.Proofs.Ytbofjdckmkifaaa

/-! ## The walks of the slab's reference: product, Of, New. Conditions: the lists are not too long. -/
namespace Go.Proofs.Ytbofjdckmkifaaa
open Go.RowKit

set_option maxHeartbeats 1000000 in
theorem product13 (w : World) (sz : List Int) (a : Option Addr) (c : Nat) (hl : sz.length ≤ 1000000) (r : IR .i64 w a sz) :
    Calls Try.prog 49 #[.slice a sz.length c] w fun e w' => e = .returned (.int .i64 (prodV sz)) ∧ w = w' := by
  by_cases h0 : sz.length = 0
  · have : sz = [] := List.eq_nil_of_length_eq_zero h0
    subst this
    simp only [List.length_nil]
    go_enter Try.func49, Try.ntmps49
    go_wp2
    go_loop [3, 4] (fun n i => n = .int .i64 1 ∧ i = .int .i64 0) (fun _ _ => 0)
    case atStart => exact ⟨rfl, rfl⟩
    case round =>
      obtain ⟨rfl, rfl⟩ := hrel
      go_wp2
      go_ret
      exact ⟨rfl, rfl⟩
  obtain ⟨b, o, rfl, r'⟩ := IR_some r (by omega)
  clear r
  obtain ⟨l, hl'⟩ : ∃ l, l = sz.length := ⟨_, rfl⟩
  rw [← hl'] at h0 hl r' ⊢
  have R := Lib.hid r'; have HL := Lib.hid hl'; clear r' hl' h0
  go_enter Try.func49, Try.ntmps49
  go_wp2
  go_loop [3, 4] (fun n i => ∃ k : Nat, k ≤ l ∧ i = .int .i64 k ∧ n = .int .i64 (pr sz k) ∧ okp sz k = true) (fun _ i => l - (intOf i).toNat)
  case atStart => exact ⟨0, Nat.zero_le _, rfl, rfl, rfl⟩
  case round =>
    obtain ⟨k, hk, rfl, rfl, hok⟩ := hrel
    have hb := okp_bd hok
    have hb1 := hb.1; have hb2 := hb.2.1
    have HO := Lib.hid hok; clear hok hb
    by_cases hlt : k < l
    · have g1 := R.out k hlt
      have hbad : ∀ h : okp sz (k + 1) = false, prodV sz = 0 := fun h => by
        have := okp_mono (show k + 1 ≤ l by omega) h
        rw [HL.out] at this
        simp [prodV, this]
      have HB := Lib.hid hbad; clear hbad
      by_cases q0 : rd sz k < 1
      · have q1 : decide (rd sz k < 1) = true := by simp; omega
        go_wp2
        go_ret
        rw [HB.out (by simp [okp]; intro _; omega)]
        exact ⟨rfl, rfl⟩
      · have q1 : decide (rd sz k < 1) = false := by simp; omega
        by_cases q2 : 4096 < rd sz k
        · have q3 : decide (rd sz k > 4096) = true := by simp; omega
          go_wp2
          go_ret
          rw [HB.out (by simp [okp]; intro _ _; omega)]
          exact ⟨rfl, rfl⟩
        · have q3 : decide (rd sz k > 4096) = false := by simp; omega
          have m0 : 0 ≤ pr sz k * rd sz k := Int.mul_nonneg (by omega) (by omega)
          have m1 : pr sz k * rd sz k ≤ 4096 * 4096 := Int.mul_le_mul hb2 (by omega) (by omega) (by omega)
          by_cases q4 : 4096 < pr sz k * rd sz k
          · have q5 : decide (pr sz k * rd sz k > 4096) = true := by simp; omega
            go_wp2
            go_ret
            rw [HB.out (by simp [okp]; intro _ _ _; omega)]
            exact ⟨rfl, rfl⟩
          · have q5 : decide (pr sz k * rd sz k > 4096) = false := by simp; omega
            have hok1 : okp sz (k + 1) = true := by simp [okp, HO.out]; omega
            have HO1 := Lib.hid hok1; clear hok1
            go_wp2
            go_round
            case rel => exact ⟨k + 1, by omega, by go_num, rfl, HO1.out⟩
            case measure => simp [intOf]; try omega
    · obtain rfl : k = l := by omega
      go_wp2
      go_ret
      have h := HO.out
      rw [HL.out] at h
      have e : prodV sz = pr sz k := by rw [prodV, if_pos h, ← HL.out]
      rw [e]
      exact ⟨rfl, rfl⟩

theorem lenNe {a b : Nat} (h : a ≠ b) : ((a : Int) != (b : Int)) = true := by simp; omega

set_option maxHeartbeats 1000000 in
theorem of13_no (w : World) (sz cs : List Int) (a1 a2 : Option Addr) (c1 c2 : Nat) (hl : sz.length ≤ 1000000) (_hl2 : cs.length ≤ 1000000) (r1 : IR .i64 w a1 sz) (hno : ofB sz cs = false) :
    Calls Try.prog 33 #[.slice a1 sz.length c1, .slice a2 cs.length c2] w fun e w' => e = .returned (.tuple #[.pointer none, .int .i64 1]) ∧ w' = w := by
  have hp := Lib.hid (product13 w sz a1 c1 hl r1)
  by_cases q0 : sz.length < 1
  · have q1 : decide ((sz.length : Int) < 1) = true := by simp; omega
    clear hno hl r1 hp
    go_enter Try.func33, Try.ntmps33
    go_wp2
    go_ret2
    exact ⟨rfl, rfl⟩
  have q1 : decide ((sz.length : Int) < 1) = false := by simp; omega
  by_cases q2 : 6 < sz.length
  · have q3 : decide ((sz.length : Int) > 6) = true := by simp; omega
    clear hno r1 hp
    go_enter Try.func33, Try.ntmps33
    go_wp2
    go_ret2
    exact ⟨rfl, rfl⟩
  have q3 : decide ((sz.length : Int) > 6) = false := by simp; omega
  cases hk : okp sz sz.length with
  | false =>
    have e0 : prodV sz = 0 := by simp [prodV, hk]
    rw [e0] at hp
    clear hno r1 e0 hk
    go_enter Try.func33, Try.ntmps33
    go_wp2_with (go_at_call 49; refine hp.out.mono ?_; rintro e w' ⟨rfl, rfl⟩)
    go_wp2
    go_ret2
    exact ⟨rfl, rfl⟩
  | true =>
    have e0 : prodV sz = pr sz sz.length := by simp [prodV, hk]
    rw [e0] at hp
    have hbd := okp_bd hk
    have hne : pr sz sz.length ≠ (cs.length : Int) := by
      simp only [ofB, hk, Bool.true_and, Bool.and_eq_false_iff, decide_eq_false_iff_not] at hno
      omega
    obtain ⟨p, hpe⟩ : ∃ p, p = pr sz sz.length := ⟨_, rfl⟩
    rw [← hpe] at hp hbd hne
    have b1 := hbd.1; have b2 := hbd.2.1
    have q4 : (p == 0) = false := by simp; omega
    have q5 : (p != (cs.length : Int)) = true := by simp; omega
    clear hno r1 e0 hk hbd hpe hne
    go_enter Try.func33, Try.ntmps33
    go_wp2_with (go_at_call 49; refine hp.out.mono ?_; rintro e w' ⟨rfl, rfl⟩)
    go_wp2
    go_ret2
    exact ⟨rfl, rfl⟩

set_option maxHeartbeats 1000000 in
theorem of13_yes (w : World) (sz cs : List Int) (a1 a2 : Option Addr) (c1 c2 : Nat) (r1 : IR .i64 w a1 sz) (r2 : IR .i64 w a2 cs) (hyes : ofB sz cs = true) :
    Calls Try.prog 33 #[.slice a1 sz.length c1, .slice a2 cs.length c2] w fun e w' => ∃ g, e = .returned (.tuple #[.pointer (some ⟨g, 0, none⟩), .int .i64 0]) ∧
      Two 32 (fun k => w.heap.size ≤ k) w' g sz cs ∧ Nw w w' := by
  have hwf := ofB_wf hyes
  have hlo := hwf.lo; have hhi := hwf.hi; have hmost := hwf.most; have hpos := hwf.pos'; have hlen := hwf.len
  have hp := Lib.hid (product13 w sz a1 c1 (by omega) r1)
  have e0 : prodV sz = cs.length := by rw [prodV, if_pos (wf_okp hwf _ (Nat.le_refl _)), hlen]
  rw [e0] at hp
  have q1 : decide ((sz.length : Int) < 1) = false := by simp; omega
  have q3 : decide ((sz.length : Int) > 6) = false := by simp; omega
  have q4 : ((cs.length : Int) == 0) = false := by simp; intro h; subst h; simp at hpos
  have q5 : ((cs.length : Int) != (cs.length : Int)) = false := by simp
  obtain ⟨b1, o1, rfl, -⟩ := IR_some r1 (by omega)
  obtain ⟨b2, o2, rfl, -⟩ := IR_some r2 (by omega)
  have R1 := Lib.hid r1; have R2 := Lib.hid r2
  clear hyes hwf hlen e0 r1 r2
  go_enter Try.func33, Try.ntmps33
  go_wp2_with (first | (go_at_call 49; refine hp.out.mono ?_; rintro e w' ⟨rfl, rfl⟩) | (at_builtin; refine appI rfl (.const (.slice none 0 0)) (.tmp 26) 30 3 .i64 8 rfl Try.underlying30 infoI (by omega) _ _ [] sz b1 o1 c1 rfl rfl R1.out (World.ownsRow_nil _ _ _ _) (by simp; omega) (by simp; omega) ?_))
  intro g1 k1 w1 ho1 hc1 hk1 hat1
  have n1 : Nw w w1 := (hk1.mono (T := fun _ => False) (fun b hb _ => by cases hb)).nw
  have g1n : w.heap.size ≤ g1 := by rcases hat1 with h | h; cases h; exact h
  have R2' := Lib.hid (R2.out.nw n1)
  have HO1 := Lib.hid ho1; have N1 := Lib.hid n1
  clear ho1 hk1 hat1 n1 R2
  go_wp2_with (at_builtin; refine appI rfl (.const (.slice none 0 0)) (.tmp 28) 30 3 .i64 8 rfl Try.underlying30 infoI (by omega) _ _ [] cs b2 o2 c2 rfl rfl R2'.out (World.ownsRow_nil _ _ _ _) (by simp; omega) (by simp; omega) ?_)
  intro g2 k2 w2 ho2 hc2 hk2 hat2
  have n2 : Nw w1 w2 := (hk2.mono (T := fun _ => False) (fun b hb _ => by cases hb)).nw
  have g2n : w1.heap.size ≤ g2 := by rcases hat2 with h | h; cases h; exact h
  have HO2 := Lib.hid ho2; have N2 := Lib.hid n2; have G2 := Lib.hid g2n
  clear ho2 hk2 hat2 n2 R2' g2n
  go_wp2
  go_ret2
  have n12 := nw_trans N1.out N2.out
  have l1 := own_lt HO1.out (b := g1) rfl
  refine ⟨_, rfl, ⟨_, _, ⟨blk_new _ _, nw_own (nw_alloc _ _) (nw_own N2.out HO1.out), nw_own (nw_alloc _ _) HO2.out, fun k h1 h2 => ?_⟩, n12.size, ?_, ?_⟩, nw_trans n12 (nw_alloc _ _)⟩
  · have e1 : g1 = k := by injection h1
    have e2 : g2 = k := by injection h2
    have := G2.out; omega
  · intro k h1; have e1 : g1 = k := by injection h1
    omega
  · intro k h1; have e1 : g2 = k := by injection h1
    have := G2.out; have := N1.out.size; omega
end Go.Proofs.Ytbofjdckmkifaaa

/-! ## The walks of the slab's reference: New. No condition. -/
namespace Go.Proofs.Ytbofjdckmkifaaa
open Go.RowKit

set_option maxHeartbeats 1000000 in
theorem new13_no (w : World) (d n : Int) (h : d < 1 ∨ 6 < d) :
    Calls Try.prog 15 #[.int .i64 d, .int .i64 n] w fun e w' => e = .returned (.tuple #[.pointer none, .int .i64 1]) ∧ w' = w := by
  rcases h with h | h
  · have q1 : decide (d < 1) = true := by simp; omega
    go_enter Try.func15, Try.ntmps15
    go_wp2
    go_ret2
    exact ⟨rfl, rfl⟩
  · have q1 : decide (d < 1) = false := by simp; omega
    have q2 : decide (d > 6) = true := by simp; omega
    go_enter Try.func15, Try.ntmps15
    go_wp2
    go_ret2
    exact ⟨rfl, rfl⟩

theorem TwoV.mk0 {T : TypeId} {w : World} {b : Nat} {xs ys : List Int} {vs vc v : Value} (hT : 3 ≠ T) (hb : w.heap[b]? = some (.cells #[v, vc] T (0, 0))) (hx : w.ownsRow 0 3 1 vs xs.length (iv .i64 xs)) (hy : w.ownsRow 0 3 1 vc ys.length (iv .i64 ys))
    (hne : ∀ k, vs.ownBlock = some k → vc.ownBlock ≠ some k) : TwoV T (w.setCell ⟨b, 0, none⟩ vs) b xs ys vs vc :=
  ⟨blk_set hb 0 vs, own_set hx (own_ne_blk hx hb hT) _, own_set hy (own_ne_blk hy hb hT) _, hne⟩
theorem TwoV.mk1 {T : TypeId} {w : World} {b : Nat} {xs ys : List Int} {vs vc v : Value} (hT : 3 ≠ T) (hb : w.heap[b]? = some (.cells #[vs, v] T (0, 0))) (hx : w.ownsRow 0 3 1 vs xs.length (iv .i64 xs)) (hy : w.ownsRow 0 3 1 vc ys.length (iv .i64 ys))
    (hne : ∀ k, vs.ownBlock = some k → vc.ownBlock ≠ some k) : TwoV T (w.setCell ⟨b, 1, none⟩ vc) b xs ys vs vc :=
  ⟨blk_set hb 1 vc, own_set hx (own_ne_blk hx hb hT) _, own_set hy (own_ne_blk hy hb hT) _, hne⟩

set_option maxHeartbeats 1000000 in
theorem new13_yes (w : World) (d : Nat) (n : Int) (h1 : 1 ≤ d) (h6 : d ≤ 6) :
    Calls Try.prog 15 #[.int .i64 d, .int .i64 n] w fun e w' => ∃ g, e = .returned (.tuple #[.pointer (some ⟨g, 0, none⟩), .int .i64 0]) ∧
      Two 32 (fun k => w.heap.size ≤ k) w' g (List.replicate d 1) [n] ∧ Nw w w' := by
  have q1 : decide ((d : Int) < 1) = false := by simp; omega
  have q2 : decide ((d : Int) > 6) = false := by simp; omega
  go_enter Try.func15, Try.ntmps15
  go_wp2
  go_loopw [7] (fun i wr => ∃ (k : Nat) (vs : Value), k ≤ d ∧ i = .int .i64 k ∧ TwoV 32 wr (w.heap.size + 1) (List.replicate k 1) [n] vs (.slice (some ⟨w.heap.size, 0, none⟩) 1 1) ∧
    (∀ b, vs.ownBlock = some b → w.heap.size ≤ b) ∧ Nw w wr) (fun i _ => d - (intOf i).toNat)
  case atStart =>
    refine ⟨0, .slice none 0 0, Nat.zero_le _, rfl, ⟨?_, World.ownsRow_nil _ _ _ _, ?_, fun k hk => by cases hk⟩, fun b hb => by (cases hb), nw_trans (nw_alloc _ _) (nw_alloc _ _)⟩
    · simpa using blk_new (w.alloc (.cells #[.int .i64 n] 3)) _
    · have := own_of_blk (w := w.alloc (.cells #[.int .i64 n] 3)) (xs := [.int .i64 n]) (blk_new _ _) (by simp)
      exact nw_own (nw_alloc _ _) this
  case round =>
    obtain ⟨k, vs, hk, rfl, ht, hv, hnw⟩ := hrel
    by_cases hlt : k < d
    · obtain ⟨S, hS⟩ : ∃ S, S = List.replicate k (1 : Int) := ⟨_, rfl⟩
      have hSl : S.length ≤ 6 := by rw [hS]; simp; omega
      rw [← hS] at ht
      have HS := Lib.hid hS; clear hS
      obtain ⟨av, cv, rfl, hvc, hvm, -⟩ := own_IR ht.2.1
      have p0 := ht.c0
      have hf := ht.fr 0
      have T0 := Lib.hid ht; have HV := Lib.hid hv; have HN := Lib.hid hnw
      clear ht hv hnw
      go_wp2_with (at_builtin; refine app1 rfl (.tmp 27) (.tmp 28) 30 3 .i64 8 rfl Try.underlying30 infoI (by omega) _ _ S 1 rfl rfl T0.out.2.1 (by omega) ?_)
      intro g c w1 ho hc hkp hat
      have hT := T0.out
      have hB : Nw w w1 := ((kp_of_nw HN.out (fun _ => False)).trans hkp (fun b hb hlt => by have := HV.out b hb; omega)).nw
      have hgk : w.heap.size ≤ g := by
        rcases hat with h | h
        · exact HV.out g h
        · have := HN.out.size; omega
      have hblk : w1.heap[w.heap.size + 1]? = some (.cells #[.slice av S.length cv, .slice (some ⟨w.heap.size, 0, none⟩) 1 1] 32 (0, 0)) :=
        hkp.blk hT.1 (fun e => own_ne_blk hT.2.1 hT.1 (by decide) e)
      have ho2 : w1.ownsRow 0 3 1 (.slice (some ⟨w.heap.size, 0, none⟩) 1 1) [n].length (iv .i64 [n]) := hkp.own hT.2.2.1 (fun b hb e => hT.2.2.2 b e hb)
      have hneg : g ≠ w.heap.size := fun e => by
        rcases hat with h | h
        · exact hT.2.2.2 g h (by rw [e]; rfl)
        · have := own_lt hT.2.2.1 (b := w.heap.size) rfl; omega
      have hf2 := blk_frozen hblk 0
      have hc2 := blk_cell hblk 0
      have p2 : w1.cell? ⟨w.heap.size + 1, 0, none⟩ = some (.slice av S.length cv) := hc2
      have HO := Lib.hid ho; have HB := Lib.hid hB; have HBL := Lib.hid hblk; have HO2 := Lib.hid ho2
      clear hc2 hT ho hB hblk ho2 p0 hf hkp hat T0
      go_wp2
      go_roundw
      case rel =>
        have e : S ++ [1] = List.replicate (k + 1) 1 := by rw [HS.out]; simp [List.replicate_succ']
        refine ⟨k + 1, .slice (some ⟨g, 0, none⟩) (S.length + 1) c, by omega, by go_num, ?_, fun b hb => ?_, HB.out.setCell (by simp) _⟩
        · rw [← e]
          refine TwoV.mk0 (by decide) HBL.out (by simpa using HO.out) HO2.out (fun k h1 h2 => ?_)
          have e1 : g = k := by injection h1
          have e2 : w.heap.size = k := by injection h2
          omega
        · have e1 : g = b := by injection hb
          omega
      case measure => simp [intOf]; try omega
    · obtain rfl : k = d := by omega
      have T0 := Lib.hid ht; have HV := Lib.hid hv; have HN := Lib.hid hnw
      clear ht hv hnw
      go_wp2
      go_ret2
      refine ⟨_, rfl, ⟨_, _, T0.out, by omega, HV.out, fun b hb => ?_⟩, HN.out⟩
      have e1 : w.heap.size = b := by injection hb
      omega
end Go.Proofs.Ytbofjdckmkifaaa

/-! ## The walks of the slab's reference: Grow. Conditions: the slab is one that may be. -/
namespace Go.Proofs.Ytbofjdckmkifaaa
open Go.RowKit

set_option maxHeartbeats 1000000 in
theorem grow13_bad (F : Nat → Prop) (w : World) (b : Nat) (sz cs : List Int) (at_ i : Int) (hwf : Wf sz cs) (h : Two 32 F w b sz cs) (hb : growBad sz at_ i = true) :
    Calls Try.prog 18 #[.pointer (some ⟨b, 0, none⟩), .int .i64 at_, .int .i64 i] w fun e w' => e = .returned (.int .i64 1) ∧ w = w' := by
  obtain ⟨vs, vc, ht, -⟩ := h
  obtain ⟨az, zc, rfl, hzc, hzm, hz, -⟩ := own_IR ht.2.1
  obtain ⟨bz, oz, rfl, hz'⟩ := IR_some hz (by have := hwf.lo; omega)
  have h6 := hwf.hi
  have p0 := ht.c0
  clear ht hz
  have HZ := Lib.hid hz'; clear hz'
  simp only [growBad, Bool.or_eq_true, decide_eq_true_eq] at hb
  by_cases q0 : at_ < 0
  · have q1 : decide (at_ < 0) = true := by simp; omega
    clear hb
    go_enter Try.func18, Try.ntmps18
    go_wp2
    go_ret
    exact ⟨rfl, rfl⟩
  have q1 : decide (at_ < 0) = false := by simp; omega
  obtain ⟨a, rfl⟩ := Int.eq_ofNat_of_zero_le (show 0 ≤ at_ by omega)
  by_cases q2 : sz.length ≤ a
  · have q3 : decide ((a : Int) ≥ (sz.length : Int)) = true := by simp; omega
    clear hb
    go_enter Try.func18, Try.ntmps18
    go_wp2
    go_ret
    exact ⟨rfl, rfl⟩
  have q3 : decide ((a : Int) ≥ (sz.length : Int)) = false := by simp; omega
  by_cases q4 : i < 0
  · have q5 : decide (i < 0) = true := by simp; omega
    clear hb
    go_enter Try.func18, Try.ntmps18
    go_wp2
    go_ret
    exact ⟨rfl, rfl⟩
  have q5 : decide (i < 0) = false := by simp; omega
  have q6 : decide (i ≥ rd sz a) = true := by simp at hb ⊢; omega
  have g := HZ.out a (by omega)
  clear hb
  go_enter Try.func18, Try.ntmps18
  go_wp2
  go_ret
  exact ⟨rfl, rfl⟩

set_option maxHeartbeats 1000000 in
theorem grow13_lim (F : Nat → Prop) (w : World) (b : Nat) (sz cs : List Int) (a : Nat) (i : Int) (hwf : Wf sz cs) (h : Two 32 F w b sz cs) (hb : growBad sz a i = false) (hN : 4096 < (growN sz cs a : Int)) :
    Calls Try.prog 18 #[.pointer (some ⟨b, 0, none⟩), .int .i64 (a : Int), .int .i64 i] w fun e w' => e = .returned (.int .i64 4) ∧ ∃ n, w' = w.drewN n := by
  obtain ⟨vs, vc, ht, -⟩ := h
  obtain ⟨az, zc, rfl, hzc, hzm, hz, -⟩ := own_IR ht.2.1
  obtain ⟨bz, oz, rfl, hz'⟩ := IR_some hz (by have := hwf.lo; omega)
  obtain ⟨ac, cc, rfl, hcc, hcm, -, -⟩ := own_IR ht.2.2.1
  have h6 := hwf.hi; have hmost := hwf.most
  have p0 := ht.c0; have p1 := ht.c1
  clear ht hz
  simp only [growBad, Bool.or_eq_false_iff, decide_eq_false_iff_not, Int.toNat_natCast] at hb
  have ha : a < sz.length := by omega
  have g := hz' a ha
  have gs := hwf.size_le ha
  have gN := growN_eq hwf ha
  have gq := (grow_pr hwf ha).2
  have gq1 : (cs.length : Int) / rd sz a ≤ cs.length := Int.ediv_le_self _ (by omega)
  have q1 : decide ((a : Int) < 0) = false := by simp
  have q3 : decide ((a : Int) ≥ (sz.length : Int)) = false := by simp; omega
  have q5 : decide (i < 0) = false := by simp; omega
  have q6 : decide (i ≥ rd sz a) = false := by simp; omega
  rw [gN] at hN
  have m1 : (cs.length : Int) / rd sz a * (rd sz a + 1) ≤ 4096 * 4097 := Int.mul_le_mul (by omega) (by omega) (by omega) (by omega)
  have q7 : decide ((cs.length : Int) / rd sz a * (rd sz a + 1) > 4096) = true := by simp; omega
  clear hz' hb gN hwf
  go_enter Try.func18, Try.ntmps18
  go_wp2
  go_quiet (fail)
  go_wp2
  go_ret
  exact ⟨rfl, by first | exact ⟨_, rfl⟩ | exact ⟨_, World.drewN_drewN _ _ _⟩⟩

end Go.Proofs.Ytbofjdckmkifaaa

/-! ## The walks of the slab's reference: Grow, where it grows. Conditions: the slab is one that may be. -/
namespace Go.Proofs.Ytbofjdckmkifaaa
open Go.RowKit

set_option maxHeartbeats 4000000 in
theorem grow13_ok (F : Nat → Prop) (w : World) (b : Nat) (sz cs : List Int) (a : Nat) (i : Int) (hwf : Wf sz cs) (h : Two 32 F w b sz cs) (hb : growBad sz a i = false) (hN : (growN sz cs a : Int) ≤ 4096) :
    Calls Try.prog 18 #[.pointer (some ⟨b, 0, none⟩), .int .i64 (a : Int), .int .i64 i] w fun e w' => e = .returned (.int .i64 0) ∧
      Two 32 (fun k => F k ∨ w.heap.size ≤ k) w' b (growS sz a) (growC sz cs a i) ∧ Kp F w w' := by
  have hF := h
  obtain ⟨vs, vc, ht, hFb, -⟩ := h
  obtain ⟨az, zc, rfl, hzc, hzm, hz, -⟩ := own_IR ht.2.1
  obtain ⟨bz, oz, rfl, hz'⟩ := IR_some hz (by have := hwf.lo; omega)
  obtain ⟨ac, cc, rfl, hcc, hcm, -, -⟩ := own_IR ht.2.2.1
  have h6 := hwf.hi; have hlo := hwf.lo; have hmost := hwf.most
  have p0 := ht.c0; have p1 := ht.c1
  simp only [growBad, Bool.or_eq_false_iff, decide_eq_false_iff_not, Int.toNat_natCast] at hb
  have ha : a < sz.length := by omega
  have g := hz' a ha
  have gs := hwf.size_le ha
  have gN := growN_eq hwf ha
  have gq := (grow_pr hwf ha).2
  have gp := growN_pos hwf ha
  have gq1 : (cs.length : Int) / rd sz a ≤ cs.length := Int.ediv_le_self _ (by omega)
  have q1 : decide ((a : Int) < 0) = false := by simp
  have q3 : decide ((a : Int) ≥ (sz.length : Int)) = false := by simp; omega
  have q5 : decide (i < 0) = false := by simp; omega
  have q6 : decide (i ≥ rd sz a) = false := by simp; omega
  have hwf' : Wf (growS sz a) (growC sz cs a i) := grow_wf hwf ha hN (by simp [growC])
  have hpd := grow_prod hwf ha hN
  obtain ⟨N, hNe⟩ : ∃ N, N = growN sz cs a := ⟨_, rfl⟩
  rw [← hNe] at gN hN gp hpd
  have m1 : (cs.length : Int) / rd sz a * (rd sz a + 1) ≤ 4096 := by omega
  have m0 : 0 ≤ (cs.length : Int) / rd sz a * (rd sz a + 1) := by omega
  have q7 : decide ((cs.length : Int) / rd sz a * (rd sz a + 1) > 4096) = false := by simp; omega
  have HC0 := Lib.hid ht.2.2.1
  have HP := Lib.hid hpd; have HT := Lib.hid ht; have HW := Lib.hid hwf; have HW' := Lib.hid hwf'; have HFB := Lib.hid hFb; have HF := Lib.hid hF; have HNE := Lib.hid hNe; have GN := Lib.hid gN; have HZ := Lib.hid hz
  clear hz' hb gN hwf hpd ht hwf' hFb hF hNe hz
  go_enter Try.func18, Try.ntmps18
  go_wp2
  go_quiet (fail)
  go_wp2_with (at_builtin; refine appI rfl (.const (.slice none 0 0)) (.tmp 66) 30 3 .i64 8 rfl Try.underlying30 infoI (by omega) _ _ [] sz bz oz zc rfl rfl (HZ.out.nw (nw_drewN _ _)) (World.ownsRow_nil _ _ _ _) (by simp; omega) (by simp; omega) ?_)
  intro g1 k1 w1 ho1 hc1 hk1 hat1
  have n1 : Nw w w1 := nw_trans (nw_drewN _ _) ((hk1.mono (T := fun _ => False) (fun b hb _ => by cases hb)).nw)
  have g1n : w.heap.size ≤ g1 := by rcases hat1 with h | h; cases h; exact h
  have t1 := HT.out.nw n1
  have hv1 : w1.cell? ⟨g1, a, none⟩ = some (.int .i64 (rd sz a)) := own_cell ho1 ha
  have hf1 := own_frozen ho1 a
  have hst := own_store ho1 a (.int .i64 (rd sz a + 1))
  have l1 := own_lt ho1 (b := g1) rfl
  have HST := Lib.hid hst; have N1 := Lib.hid n1
  clear hst ho1 hk1 hat1 t1 n1 q1 q3 q5 q6 q7 m0 m1 gq gq1 g p0 p1
  go_wp2_with fail
  generalize hw3 : w1.setCell ⟨g1, a, none⟩ (.int .i64 (rd sz a + 1)) = w3
  have hs3 : w3.heap.size = w1.heap.size := by rw [← hw3]; simp [World.setCell]
  have n3 : Nw w w3 := by rw [← hw3]; exact N1.out.setCell g1n _
  have hst := HST.out
  rw [hw3] at hst
  have ho3 : w3.ownsRow 0 3 1 (.slice (some ⟨g1, 0, none⟩) sz.length k1) (growS sz a).length (iv .i64 (growS sz a)) := by simpa [iv, growS, List.map_set] using hst
  have hprod := Lib.hid (product13 w3 (growS sz a) (some ⟨g1, 0, none⟩) k1 (by simp; omega) (own_rd ho3))
  rw [HP.out, growS_length] at hprod
  have t3 := HT.out.nw n3
  have l3 : g1 < w3.heap.size := by omega
  have HO3 := Lib.hid ho3; have N3 := Lib.hid n3
  clear HST hst ho3 n3 hw3 hs3 N1 HT hv1 hf1 l1 HP
  refine hprod.out.mono ?_; rintro e w' ⟨rfl, rfl⟩
  clear hprod
  have T3 := Lib.hid t3; clear t3
  go_wp2
  go_loopw [9, 10] (fun v i' wr => ∃ (k : Nat) (av : Option Addr) (cv : Nat), k ≤ N ∧ i' = .int .i64 k ∧ v = .slice av k cv ∧ wr.ownsRow 0 3 1 (.slice av k cv) (growT sz cs a i k).length (iv .i64 (growT sz cs a i k)) ∧
    (∀ d, av = some d → w3.heap.size ≤ d.block) ∧ Nw w3 wr) (fun _ i' _ => N - (intOf i').toNat)
  case atStart => exact ⟨0, none, 0, Nat.zero_le _, rfl, rfl, World.ownsRow_nil _ _ _ _, fun d hd => by (cases hd), Below.refl _ _⟩
  case round =>
    obtain ⟨k, av, cv, hk, rfl, rfl, ho, had, hnw⟩ := hrel
    by_cases hlt : k < N
    · have hir : IR .i64 wr (some ⟨g1, 0, none⟩) (growS sz a) := own_rd (nw_own hnw HO3.out)
      have hcell := Lib.hid (cell13 wr (growS sz a) (some ⟨g1, 0, none⟩) k1 k (by omega) (by omega) (by simpa using hlo) (by simpa using h6) (fun j hj => HW'.out.size_le hj) hir)
      rw [growS_length] at hcell
      have HO := Lib.hid ho; have HA := Lib.hid had; have HK := Lib.hid hnw
      clear hir ho had hnw
      go_wp2_with fail
      refine hcell.out.mono ?_; rintro e w4 ⟨g4, rfl, hg4, hblk, hnw4⟩
      clear hcell
      have hcv : w4.cell? ⟨g4, a, none⟩ = some (.int .i64 (rd (cellL (growS sz a) k) a)) := by
        rw [blk_cell hblk]; simpa using iv_get .i64 (cellL (growS sz a) k) (j := a) (by simpa using ha)
      have hcf := blk_frozen hblk a
      have hr0 : 0 ≤ rd (cellL (growS sz a) k) a ∧ rd (cellL (growS sz a) k) a ≤ 4096 := by
        rw [rd_cellL _ _ (by simpa using ha)]
        have := HW'.out.size_le (k := a) (by simpa using ha)
        unfold dig
        have h1 := Int.emod_nonneg (↑k / suf (growS sz a) (a + 1)) (show rd (growS sz a) a ≠ 0 by omega)
        have h2 := Int.emod_lt_of_pos (↑k / suf (growS sz a) (a + 1)) (show 0 < rd (growS sz a) a by omega)
        omega
      have hr1 := hr0.1; have hr2 := hr0.2
      have hn34 := nw_trans HK.out hnw4
      have hset : (w4.setCell ⟨g4, a, none⟩ (.int .i64 (rd (cellL (growS sz a) k) a - 1))).heap[g4]? = some (.cells (iv .i64 ((cellL (growS sz a) k).set a (rd (cellL (growS sz a) k) a - 1))).toArray 3 (0, 0)) := by rw [blk_set hblk, iv_set]
      have hnset : Nw wr (w4.setCell ⟨g4, a, none⟩ (.int .i64 (rd (cellL (growS sz a) k) a - 1))) := hnw4.setCell hg4 _
      have HB := Lib.hid hblk; have HN4 := Lib.hid hnw4; have HS := Lib.hid hset; have HNS := Lib.hid hnset
      clear hblk hnw4 hr0 hn34 hset hnset
      have rest : ∀ (W : World) (n : Nat), Nw wr W → W.heap[g4]? = some (.cells (iv .i64 (lower a i (cellL (growS sz a) k))).toArray 3 (0, 0)) →
          Calls Try.prog 24 #[.pointer (some ⟨b, 0, none⟩), .slice (some ⟨g4, 0, none⟩) sz.length sz.length] W fun e w' => e = .returned (.tuple #[.int .i64 (getV sz cs (lower a i (cellL (growS sz a) k))), .int .i64 (placeE sz (lower a i (cellL (growS sz a) k)))]) ∧ ∃ n, w' = W.drewN n := by
        intro W n hN hB
        have hl : (lower a i (cellL (growS sz a) k)).length = sz.length := by unfold lower; split <;> simp
        have := get13 F W b sz cs (lower a i (cellL (growS sz a) k)) (some ⟨g4, 0, none⟩) sz.length HW.out (HF.out.nw (nw_trans N3.out (nw_trans HK.out hN))) (IR_of_blk hB)
        rw [hl] at this
        exact this
      have REST := Lib.hid rest; clear rest
      by_cases hlow : i < rd (cellL (growS sz a) k) a
      · have q8 : decide (rd (cellL (growS sz a) k) a > i) = true := by simp; omega
        have elow : lower a i (cellL (growS sz a) k) = (cellL (growS sz a) k).set a (rd (cellL (growS sz a) k) a - 1) := by simp [lower, hlow]
        have HE := Lib.hid elow; clear elow
        go_wp2_with fail
        refine (REST.out _ 0 HNS.out (by rw [HE.out]; exact HS.out)).mono ?_; rintro e w5 ⟨rfl, n5, rfl⟩
        have nw5 : Nw wr ((w4.setCell ⟨g4, a, none⟩ (.int .i64 (rd (cellL (growS sz a) k) a - 1))).drewN n5) := nw_trans HNS.out (nw_drewN _ _)
        generalize (w4.setCell ⟨g4, a, none⟩ (.int .i64 (rd (cellL (growS sz a) k) a - 1))).drewN n5 = W5 at nw5 ⊢
        have ho5 := nw_own nw5 HO.out
        have hn35 := nw_trans HK.out nw5
        have hz5 := hn35.size
        clear HB HN4 HS HNS REST hcv hcf q8 HE
        generalize hV : getV sz cs (lower a i (cellL (growS sz a) k)) = V
        generalize placeE sz (lower a i (cellL (growS sz a) k)) = E
        have HV := Lib.hid hV; clear hV
        obtain ⟨T, hT⟩ : ∃ T, T = growT sz cs a i k := ⟨_, rfl⟩
        have hTl : T.length = k := by rw [hT]; simp
        rw [← hT] at ho5
        have ho6 : W5.ownsRow 0 3 1 (.slice av T.length cv) T.length (iv .i64 T) := by rw [← hTl] at ho5; exact ho5
        have HO5 := Lib.hid ho6; have HTT := Lib.hid hT; have HTL := Lib.hid hTl; have HN5 := Lib.hid nw5; have HN35 := Lib.hid hn35
        clear ho5 ho6 hT nw5 hn35 HO
        have hkT : T.length ≤ 4096 := by omega
        clear hTl
        go_wp2_with (at_builtin; refine app1 rfl (.tmp 102) (.tmp 104) 30 3 .i64 8 rfl Try.underlying30 infoI (by omega) _ (.slice av k cv) T _ rfl rfl (by have := HO5.out; rw [HTL.out] at this ⊢; exact this) (by omega) ?_)
        intro g6 c6 w6 ho6 hc6 hk6 hat6
        have hL : T.length = k := HTL.out
        rw [hL]
        have HO6 := Lib.hid ho6; have HK6 := Lib.hid hk6; have HAT := Lib.hid hat6
        clear ho6 hk6 hat6 hL
        go_wp2
        go_roundw
        case rel =>
          have e : growT sz cs a i (k + 1) = T ++ [V] := by rw [growT_succ, ← HTT.out, HV.out]
          refine ⟨k + 1, some ⟨g6, 0, none⟩, c6, by omega, by go_num, by go_num, ?_, ?_, ?_⟩
          · have := HO6.out; rw [HTL.out] at this; rw [e]; simpa [HTL.out] using this
          · intro d hd; cases hd
            rcases HAT.out with h | h
            · cases av with
              | none => cases h
              | some d' => have := HA.out d' rfl; have h' : some d'.block = some g6 := h; injection h' with h'; show w3.heap.size ≤ g6; omega
            · show w3.heap.size ≤ g6; omega
          · refine ((kp_of_nw HN35.out (fun _ => False)).trans HK6.out ?_).nw
            intro b hb hlt
            cases av with
            | none => cases hb
            | some d' => have := HA.out d' rfl; have h' : some d'.block = some b := hb; injection h' with h'; omega
        case measure => simp [intOf]; try omega
      · have q8 : decide (rd (cellL (growS sz a) k) a > i) = false := by simp; omega
        have elow : lower a i (cellL (growS sz a) k) = cellL (growS sz a) k := by simp [lower, hlow]
        have HE := Lib.hid elow; clear elow
        go_wp2_with fail
        refine (REST.out _ 0 HN4.out (by rw [HE.out]; exact HB.out)).mono ?_; rintro e w5 ⟨rfl, n5, rfl⟩
        have nw5 : Nw wr (w4.drewN n5) := nw_trans HN4.out (nw_drewN _ _)
        generalize w4.drewN n5 = W5 at nw5 ⊢
        have ho5 := nw_own nw5 HO.out
        have hn35 := nw_trans HK.out nw5
        have hz5 := hn35.size
        clear HB HN4 HS HNS REST hcv hcf q8 HE
        generalize hV : getV sz cs (lower a i (cellL (growS sz a) k)) = V
        generalize placeE sz (lower a i (cellL (growS sz a) k)) = E
        have HV := Lib.hid hV; clear hV
        obtain ⟨T, hT⟩ : ∃ T, T = growT sz cs a i k := ⟨_, rfl⟩
        have hTl : T.length = k := by rw [hT]; simp
        rw [← hT] at ho5
        have ho6 : W5.ownsRow 0 3 1 (.slice av T.length cv) T.length (iv .i64 T) := by rw [← hTl] at ho5; exact ho5
        have HO5 := Lib.hid ho6; have HTT := Lib.hid hT; have HTL := Lib.hid hTl; have HN5 := Lib.hid nw5; have HN35 := Lib.hid hn35
        clear ho5 ho6 hT nw5 hn35 HO
        have hkT : T.length ≤ 4096 := by omega
        clear hTl
        go_wp2_with (at_builtin; refine app1 rfl (.tmp 102) (.tmp 104) 30 3 .i64 8 rfl Try.underlying30 infoI (by omega) _ (.slice av k cv) T _ rfl rfl (by have := HO5.out; rw [HTL.out] at this ⊢; exact this) (by omega) ?_)
        intro g6 c6 w6 ho6 hc6 hk6 hat6
        have hL : T.length = k := HTL.out
        rw [hL]
        have HO6 := Lib.hid ho6; have HK6 := Lib.hid hk6; have HAT := Lib.hid hat6
        clear ho6 hk6 hat6 hL
        go_wp2
        go_roundw
        case rel =>
          have e : growT sz cs a i (k + 1) = T ++ [V] := by rw [growT_succ, ← HTT.out, HV.out]
          refine ⟨k + 1, some ⟨g6, 0, none⟩, c6, by omega, by go_num, by go_num, ?_, ?_, ?_⟩
          · have := HO6.out; rw [HTL.out] at this; rw [e]; simpa [HTL.out] using this
          · intro d hd; cases hd
            rcases HAT.out with h | h
            · cases av with
              | none => cases h
              | some d' => have := HA.out d' rfl; have h' : some d'.block = some g6 := h; injection h' with h'; show w3.heap.size ≤ g6; omega
            · show w3.heap.size ≤ g6; omega
          · refine ((kp_of_nw HN35.out (fun _ => False)).trans HK6.out ?_).nw
            intro b hb hlt
            cases av with
            | none => cases hb
            | some d' => have := HA.out d' rfl; have h' : some d'.block = some b := hb; injection h' with h'; omega
        case measure => simp [intOf]; try omega
    · obtain rfl : k = N := by omega
      have t5 := T3.out.nw hnw
      have ho3 := nw_own hnw HO3.out
      have p0 := t5.c0; have p1 := t5.c1
      have f0 := t5.fr 0; have f1 := t5.fr 1
      have hbl : b < wr.heap.size := blk_lt t5.1
      have hb3 : b < w.heap.size := HF.out.lt
      have hg1s : w.heap.size ≤ g1 := g1n
      have s0 : TwoV 32 (wr.setCell ⟨b, 0, none⟩ (.slice (some ⟨g1, 0, none⟩) sz.length k1)) b (growS sz a) cs (.slice (some ⟨g1, 0, none⟩) sz.length k1) (.slice ac cs.length cc) :=
        t5.put0 (by decide) ho3 (fun q h1 h2 => by
          have e1 : g1 = q := by injection h1
          have := own_lt HC0.out (b := q) h2
          omega)
      have ho : (wr.setCell ⟨b, 0, none⟩ (.slice (some ⟨g1, 0, none⟩) sz.length k1)).ownsRow 0 3 1 (.slice av k cv) (growT sz cs a i k).length (iv .i64 (growT sz cs a i k)) := own_set ho (own_ne_blk ho t5.1 (by decide)) _
      have s1 := s0.put1 (by decide) ho (fun q h1 h2 => by
          have e1 : g1 = q := by injection h1
          cases av with
          | none => cases h2
          | some d' => have := had d' rfl; have h' : some d'.block = some q := h2; injection h' with h'; omega)
      have p2 := s0.c1; have f2 := s0.fr 1
      have HS1 := Lib.hid s1; have HA := Lib.hid had; have HK := Lib.hid hnw
      clear s0 s1 ho ho3 t5 had hnw T3 HO3
      go_wp2
      go_ret
      have hlen := HNE.out
      refine ⟨rfl, ⟨_, _, by have := HS1.out; rw [hlen] at this; rw [hlen]; exact this, .inl HFB.out, fun q hq => ?_, fun q hq => ?_⟩, ?_⟩
      · have e1 : g1 = q := by injection hq
        exact .inr (by omega)
      · cases av with
        | none => cases hq
        | some d' => have := HA.out d' rfl; have h' : some d'.block = some q := hq; injection h' with h'; have := N3.out.size; exact .inr (by omega)
      · exact (((kp_of_nw (nw_trans N3.out HK.out) F).setCell (p := ⟨b, 0, none⟩) (fun _ => HFB.out) _).setCell (p := ⟨b, 1, none⟩) (fun _ => HFB.out) _)
end Go.Proofs.Ytbofjdckmkifaaa

/-! ## The walks of the slab's reference: Shrink. Conditions: the slab is one that may be. -/
namespace Go.Proofs.Ytbofjdckmkifaaa
open Go.RowKit

set_option maxHeartbeats 1000000 in
theorem shrink13_bad (F : Nat → Prop) (w : World) (b : Nat) (sz cs : List Int) (at_ i : Int) (hwf : Wf sz cs) (h : Two 32 F w b sz cs) (hb : shrBad sz at_ i = true) :
    Calls Try.prog 20 #[.pointer (some ⟨b, 0, none⟩), .int .i64 at_, .int .i64 i] w fun e w' => e = .returned (.int .i64 1) ∧ w = w' := by
  obtain ⟨vs, vc, ht, -⟩ := h
  obtain ⟨az, zc, rfl, hzc, hzm, hz, -⟩ := own_IR ht.2.1
  obtain ⟨bz, oz, rfl, hz'⟩ := IR_some hz (by have := hwf.lo; omega)
  have h6 := hwf.hi
  have p0 := ht.c0
  clear ht hz
  have HZ := Lib.hid hz'; clear hz'
  simp only [shrBad, Bool.or_eq_true, decide_eq_true_eq] at hb
  by_cases q0 : at_ < 0
  · have q1 : decide (at_ < 0) = true := by simp; omega
    clear hb
    go_enter Try.func20, Try.ntmps20
    go_wp2
    go_ret
    exact ⟨rfl, rfl⟩
  have q1 : decide (at_ < 0) = false := by simp; omega
  obtain ⟨a, rfl⟩ := Int.eq_ofNat_of_zero_le (show 0 ≤ at_ by omega)
  by_cases q2 : sz.length ≤ a
  · have q3 : decide ((a : Int) ≥ (sz.length : Int)) = true := by simp; omega
    clear hb
    go_enter Try.func20, Try.ntmps20
    go_wp2
    go_ret
    exact ⟨rfl, rfl⟩
  have q3 : decide ((a : Int) ≥ (sz.length : Int)) = false := by simp; omega
  have q3' : decide (sz.length ≤ a) = false := by simp; omega
  by_cases q4 : i < 0
  · have q5 : decide (i < 0) = true := by simp; omega
    clear hb
    go_enter Try.func20, Try.ntmps20
    go_wp2
    go_ret
    exact ⟨rfl, rfl⟩
  have q5 : decide (i < 0) = false := by simp; omega
  have gs := hwf.size_le (k := a) (by omega)
  have q6 : decide (i ≥ rd sz a - 1) = true := by simp at hb ⊢; omega
  have g := HZ.out a (by omega)
  clear hb hwf
  go_enter Try.func20, Try.ntmps20
  go_wp2
  go_ret
  exact ⟨rfl, rfl⟩


set_option maxHeartbeats 4000000 in
theorem shrink13_go (F : Nat → Prop) (w : World) (b : Nat) (sz cs : List Int) (a : Nat) (i : Int) (hwf : Wf sz cs) (h : Two 32 F w b sz cs) (hb : shrBad sz a i = false) :
    Calls Try.prog 20 #[.pointer (some ⟨b, 0, none⟩), .int .i64 (a : Int), .int .i64 i] w fun e w' =>
      (shrOk sz cs a i cs.length = true ∧ e = .returned (.int .i64 0) ∧ Two 32 (fun k => F k ∨ w.heap.size ≤ k) w' b (shrS sz a) (shrT sz cs a i cs.length) ∧ Kp F w w') ∨
      (shrOk sz cs a i cs.length = false ∧ e = .returned (.int .i64 1) ∧ Nw w w') := by
  have hF := h
  obtain ⟨vs, vc, ht, hFb, -⟩ := h
  obtain ⟨az, zc, rfl, hzc, hzm, hz, -⟩ := own_IR ht.2.1
  obtain ⟨bz, oz, rfl, hz'⟩ := IR_some hz (by have := hwf.lo; omega)
  obtain ⟨ac, cc, rfl, hcc, hcm, hcr, -⟩ := own_IR ht.2.2.1
  obtain ⟨bc, oc, rfl, hcr'⟩ := IR_some hcr (by have := hwf.pos'; omega)
  have h6 := hwf.hi; have hlo := hwf.lo; have hmost := hwf.most
  have p0 := ht.c0; have p1 := ht.c1
  simp only [shrBad, Bool.or_eq_false_iff, decide_eq_false_iff_not, Int.toNat_natCast] at hb
  have ha : a < sz.length := by omega
  have g := hz' a ha
  have gs := hwf.size_le ha
  have q1 : decide ((a : Int) < 0) = false := by simp
  have q3 : decide ((a : Int) ≥ (sz.length : Int)) = false := by simp; omega
  have q3' : decide (sz.length ≤ a) = false := by simp; omega
  have q5 : decide (i < 0) = false := by simp; omega
  have q6 : decide (i ≥ rd sz a - 1) = false := by simp; omega
  have hi0 : 0 ≤ i := by omega
  have hi1 : i ≤ 4096 := by omega
  have HT := Lib.hid ht; have HW := Lib.hid hwf; have HFB := Lib.hid hFb; have HF := Lib.hid hF; have HZ := Lib.hid hz; have HCR := Lib.hid hcr'
  have HC0 := Lib.hid ht.2.2.1
  clear hz' hb hwf ht hFb hF hz hcr hcr'
  go_enter Try.func20, Try.ntmps20
  go_wp2
  go_loopw [7, 8] (fun v i' wr => ∃ (k : Nat) (av : Option Addr) (cv : Nat), k ≤ cs.length ∧ i' = .int .i64 k ∧ v = .slice av (shrT sz cs a i k).length cv ∧ wr.ownsRow 0 3 1 (.slice av (shrT sz cs a i k).length cv) (shrT sz cs a i k).length (iv .i64 (shrT sz cs a i k)) ∧
    (∀ d, av = some d → w.heap.size ≤ d.block) ∧ Nw w wr ∧ shrOk sz cs a i k = true) (fun _ i' _ => cs.length - (intOf i').toNat)
  case atStart => exact ⟨0, none, 0, Nat.zero_le _, rfl, rfl, World.ownsRow_nil _ _ _ _, fun d hd => by (cases hd), Below.refl _ _, rfl⟩
  case round =>
    clear p0 p1 q1 q3 q3' q5 q6 g
    obtain ⟨k, av, cv, hk, rfl, rfl, ho, had, hnw, hok⟩ := hrel
    have hTl := shrT_len sz cs a i k
    have ht := HT.out.nw hnw
    have p0 := ht.c0; have p1 := ht.c1
    by_cases hlt : k < cs.length
    · have hcell := Lib.hid (cell13 wr sz (some ⟨bz, oz, none⟩) zc k (by omega) (by omega) hlo h6 (fun j hj => HW.out.size_le hj) (HZ.out.nw hnw))
      have HO := Lib.hid ho; have HA := Lib.hid had; have HK := Lib.hid hnw; have HOK := Lib.hid hok
      clear ho had hnw hok ht
      go_wp2_with fail
      refine hcell.out.mono ?_; rintro e w4 ⟨g4, rfl, hg4, hblk, hnw4⟩
      clear hcell p0 p1
      have hn4 := nw_trans HK.out hnw4
      have hcv : w4.cell? ⟨g4, a, none⟩ = some (.int .i64 (rd (cellL sz k) a)) := by
        rw [blk_cell hblk]; simpa using iv_get .i64 (cellL sz k) (j := a) (by simpa using ha)
      have hcf := blk_frozen hblk a
      have hr0 : 0 ≤ rd (cellL sz k) a ∧ rd (cellL sz k) a ≤ 4096 := by
        rw [rd_cellL _ _ ha]
        unfold dig
        have h1 := Int.emod_nonneg (↑k / suf sz (a + 1)) (show rd sz a ≠ 0 by omega)
        have h2 := Int.emod_lt_of_pos (↑k / suf sz (a + 1)) (show 0 < rd sz a by omega)
        omega
      have hr1 := hr0.1; have hr2 := hr0.2
      have t4 := HT.out.nw hn4
      have p0 := t4.c0; have p1 := t4.c1
      have hval : w4.cell? ⟨bc, oc + k, none⟩ = some (.int .i64 (rd cs k)) := nw_cell hn4 (HCR.out k hlt)
      obtain ⟨T, hT⟩ : ∃ T, T = shrT sz cs a i k := ⟨_, rfl⟩
      rw [← hT] at hTl HO ⊢
      have HTT := Lib.hid hT
      have HN4 := Lib.hid hn4
      clear hr0 hT hn4 t4
      by_cases hne : rd (cellL sz k) a = i + 1
      · have q8 : (rd (cellL sz k) a != i + 1) = false := by simp; omega
        have hset : (w4.setCell ⟨g4, a, none⟩ (.int .i64 i)).heap[g4]? = some (.cells (iv .i64 ((cellL sz k).set a i)).toArray 3 (0, 0)) := by rw [blk_set hblk, iv_set]
        have hnset : Nw wr (w4.setCell ⟨g4, a, none⟩ (.int .i64 i)) := hnw4.setCell hg4 _
        have hnset2 := nw_trans HK.out hnset
        have hget := Lib.hid (get13 F (w4.setCell ⟨g4, a, none⟩ (.int .i64 i)) b sz cs ((cellL sz k).set a i) (some ⟨g4, 0, none⟩) sz.length HW.out (HF.out.nw hnset2) (IR_of_blk hset))
        rw [List.length_set, cellL_length] at hget
        have HNE := Lib.hid hne; have HNS := Lib.hid hnset; have HNS2 := Lib.hid hnset2
        clear hblk hnw4 hset hnset hnset2 hne
        go_wp2_with fail
        refine hget.out.mono ?_; rintro e w5 ⟨rfl, n5, rfl⟩
        clear hget
        have nw5 : Nw w ((w4.setCell ⟨g4, a, none⟩ (.int .i64 i)).drewN n5) := nw_trans HNS2.out (nw_drewN _ _)
        have nwr5 : Nw wr ((w4.setCell ⟨g4, a, none⟩ (.int .i64 i)).drewN n5) := nw_trans HNS.out (nw_drewN _ _)
        generalize (w4.setCell ⟨g4, a, none⟩ (.int .i64 i)).drewN n5 = W5 at nw5 nwr5 ⊢
        generalize hV : getV sz cs ((cellL sz k).set a i) = V
        generalize placeE sz ((cellL sz k).set a i) = E
        have t5 := HT.out.nw nw5
        have p0 := t5.c0; have p1 := t5.c1
        have hval : W5.cell? ⟨bc, oc + k, none⟩ = some (.int .i64 (rd cs k)) := nw_cell nw5 (HCR.out k hlt)
        have HV := Lib.hid hV; have N5 := Lib.hid nw5; have NR5 := Lib.hid nwr5
        clear hV nw5 nwr5 t5 hcv hcf q8
        by_cases hvv : V = rd cs k
        · have q9 : (V != rd cs k) = false := by simp [hvv]
          have HVV := Lib.hid hvv; clear hvv
          go_wp2
          go_roundw
          case rel =>
            have e : shrT sz cs a i (k + 1) = T := by rw [shrT, if_neg (by simp [HNE.out]), HTT.out]
            refine ⟨k + 1, av, cv, by omega, by go_num, by rw [e], by rw [e]; exact nw_own NR5.out HO.out, HA.out, N5.out, ?_⟩
            simp [shrOk, HOK.out, HV.out, HVV.out]
          case measure => simp [intOf]; try omega
        · have q9 : (V != rd cs k) = true := by simp [hvv]
          have HVV := Lib.hid hvv; clear hvv
          go_wp2
          go_ret
          refine .inr ⟨?_, rfl, N5.out⟩
          exact shrOk_mono (show k + 1 ≤ cs.length by omega) (by simp [shrOk, HNE.out, HV.out, HVV.out])
      · have q8 : (rd (cellL sz k) a != i + 1) = true := by simp [hne]
        have HNE := Lib.hid hne
        have HNW4 := Lib.hid hnw4
        have ho4 := nw_own hnw4 HO.out
        have HO4 := Lib.hid ho4
        clear hblk hnw4 hne ho4 hcf
        go_wp2_with (at_builtin; refine app1 rfl (.tmp 62) (.tmp 70) 30 3 .i64 8 rfl Try.underlying30 infoI (by omega) _ (.slice av T.length cv) T _ rfl rfl HO4.out (by omega) ?_)
        intro g6 c6 w6 ho6 hc6 hk6 hat6
        have HO6 := Lib.hid ho6; have HK6 := Lib.hid hk6; have HAT := Lib.hid hat6
        clear ho6 hk6 hat6 hcv
        go_wp2
        go_roundw
        case rel =>
          have e : shrT sz cs a i (k + 1) = T ++ [rd cs k] := by rw [shrT, if_pos (by simpa using HNE.out), HTT.out]
          refine ⟨k + 1, some ⟨g6, 0, none⟩, c6, by omega, by go_num, by rw [e]; simp, by rw [e]; simpa using HO6.out, ?_, ?_, by simp [shrOk, HOK.out, HNE.out]⟩
          · intro d hd; cases hd
            rcases HAT.out with h | h
            · cases av with
              | none => cases h
              | some d' => have := HA.out d' rfl; have h' : some d'.block = some g6 := h; injection h' with h'; show w.heap.size ≤ g6; omega
            · have := HN4.out.size; show w.heap.size ≤ g6; omega
          · refine ((kp_of_nw HN4.out (fun _ => False)).trans HK6.out ?_).nw
            intro b hb hlt
            cases av with
            | none => cases hb
            | some d' => have := HA.out d' rfl; have h' : some d'.block = some b := hb; injection h' with h'; omega
        case measure => simp [intOf]; try omega
    · obtain rfl : k = cs.length := by omega
      have hn := Lib.hid hnw; have HO := Lib.hid ho; have HA := Lib.hid had; have HOK := Lib.hid hok
      have hsz := hnw.size
      obtain ⟨T, hT⟩ : ∃ T, T = shrT sz cs a i cs.length := ⟨_, rfl⟩
      rw [← hT] at hTl HO ⊢
      have HTT := Lib.hid hT
      clear hT ht ho had hnw hok
      go_wp2_with (at_builtin; refine appI rfl (.const (.slice none 0 0)) (.tmp 94) 30 3 .i64 8 rfl Try.underlying30 infoI (by omega) _ _ [] sz bz oz zc rfl rfl (HZ.out.nw hn.out) (World.ownsRow_nil _ _ _ _) (by simp; omega) (by simp; omega) ?_)
      intro g1 k1 w1 ho1 hc1 hk1 hat1
      have n1 : Nw wr w1 := (hk1.mono (T := fun _ => False) (fun b hb _ => by cases hb)).nw
      have g1n : wr.heap.size ≤ g1 := by rcases hat1 with h | h; cases h; exact h
      have hv1 : w1.cell? ⟨g1, a, none⟩ = some (.int .i64 (rd sz a)) := own_cell ho1 ha
      have hf1 := own_frozen ho1 a
      have hst := own_store ho1 a (.int .i64 (rd sz a - 1))
      have l1 := own_lt ho1 (b := g1) rfl
      have HST := Lib.hid hst; have N1 := Lib.hid n1; have L1 := Lib.hid l1; have G1 := Lib.hid g1n
      have t1 := HT.out.nw (nw_trans hn.out n1)
      have q0 := t1.c0; have q1 := t1.c1
      have f0 := t1.fr 0; have f1 := t1.fr 1
      have hb3 : b < w.heap.size := HF.out.lt
      have hbg : b ≠ g1 := by omega
      have hbg' : g1 ≠ b := by omega
      clear hst ho1 hk1 hat1 n1 l1 p0 p1 g1n t1
      go_wp2
      go_ret
      generalize hw3 : w1.setCell ⟨g1, a, none⟩ (.int .i64 (rd sz a - 1)) = w3
      have n3 : Nw wr w3 := by rw [← hw3]; exact N1.out.setCell G1.out _
      have hst := HST.out
      rw [hw3] at hst
      have ho3 : w3.ownsRow 0 3 1 (.slice (some ⟨g1, 0, none⟩) sz.length k1) (shrS sz a).length (iv .i64 (shrS sz a)) := by simpa [iv, shrS, List.map_set] using hst
      have t5 := HT.out.nw (nw_trans hn.out n3)
      have ho := nw_own n3 HO.out
      have s0 : TwoV 32 (w3.setCell ⟨b, 0, none⟩ (.slice (some ⟨g1, 0, none⟩) sz.length k1)) b (shrS sz a) cs (.slice (some ⟨g1, 0, none⟩) sz.length k1) (.slice (some ⟨bc, oc, none⟩) cs.length cc) :=
        t5.put0 (by decide) ho3 (fun q h1 h2 => by
          have e1 : g1 = q := by injection h1
          have := own_lt HC0.out (b := q) h2
          have := G1.out
          omega)
      have ho' : (w3.setCell ⟨b, 0, none⟩ (.slice (some ⟨g1, 0, none⟩) sz.length k1)).ownsRow 0 3 1 (.slice av T.length cv) T.length (iv .i64 T) := own_set ho (own_ne_blk ho t5.1 (by decide)) _
      have hlt' : ∀ d, av = some d → d.block < wr.heap.size := fun d hd => own_lt HO.out (b := d.block) (by rw [hd]; rfl)
      have s1 := s0.put1 (by decide) ho' (fun q h1 h2 => by
          have e1 : g1 = q := by injection h1
          cases av with
          | none => cases h2
          | some d' => have := hlt' d' rfl; have h' : some d'.block = some q := h2; injection h' with h'; have := G1.out; omega)
      have N3 := Lib.hid n3
      refine .inl ⟨HOK.out, rfl, ⟨_, _, by rw [← HTT.out]; exact s1, .inl HFB.out, fun q hq => ?_, fun q hq => ?_⟩, ?_⟩
      · have e1 : g1 = q := by injection hq
        have := G1.out
        exact .inr (by omega)
      · cases av with
        | none => cases hq
        | some d' => have := HA.out d' rfl; have h' : some d'.block = some q := hq; injection h' with h'; exact .inr (by omega)
      · exact (((kp_of_nw (nw_trans hn.out N3.out) F).setCell (p := ⟨b, 0, none⟩) (fun _ => HFB.out) _).setCell (p := ⟨b, 1, none⟩) (fun _ => HFB.out) _)
end Go.Proofs.Ytbofjdckmkifaaa

/-! ## Two slabs that lie apart in memory that is new. No condition. -/
namespace Go.Proofs.Ytbofjdckmkifaaa
open Go.RowKit

/-- behind w0: the slab at b1 and the slab at b2 lie apart, in blocks that w0 had not -/
structure Pair (T1 T2 : TypeId) (w0 W : World) (b1 b2 : Nat) (sz cs sz2 cs2 : List Int) (F1 F2 : Nat → Prop) : Prop where
  one : Two T1 F1 W b1 sz cs
  two : Two T2 F2 W b2 sz2 cs2
  new1 : ∀ k, F1 k → w0.heap.size ≤ k ∧ k < W.heap.size
  new2 : ∀ k, F2 k → w0.heap.size ≤ k ∧ k < W.heap.size
  apart : ∀ k, F1 k → ¬ F2 k
  nw : Nw w0 W
section
variable {T1 T2 : TypeId} {w0 W W' : World} {b1 b2 : Nat} {sz cs sz2 cs2 sz' cs' : List Int} {F1 F2 : Nat → Prop}
theorem kp_nw {F : Nat → Prop} (h0 : Nw w0 W) (hk : Kp F W W') (hF : ∀ k, F k → w0.heap.size ≤ k) : Nw w0 W' :=
  Below.trans h0 (hk.below hF h0.size)
theorem Pair.left (h : Pair T1 T2 w0 W b1 b2 sz cs sz2 cs2 F1 F2) (ht : Two T1 (fun k => F1 k ∨ W.heap.size ≤ k) W' b1 sz' cs') (hk : Kp F1 W W') :
    Pair T1 T2 w0 W' b1 b2 sz' cs' sz2 cs2 (fun k => (F1 k ∨ W.heap.size ≤ k) ∧ k < W'.heap.size) F2 := by
  have h0 := h.nw.size
  refine ⟨ht.mono (fun k hk hlt => ⟨hk, hlt⟩), h.two.kp hk (fun k h2 _ h1 => h.apart k h1 h2), ?_, ?_, ?_, kp_nw h.nw hk (fun k hk => (h.new1 k hk).1)⟩
  · rintro k ⟨h1 | h1, h2⟩
    · exact ⟨(h.new1 k h1).1, h2⟩
    · exact ⟨by omega, h2⟩
  · intro k h2; have h5 := h.new2 k h2; have h6 := hk.size; exact ⟨h5.1, by omega⟩
  · rintro k ⟨h1 | h1, _⟩ h2
    · exact h.apart k h1 h2
    · have := (h.new2 k h2).2; omega
theorem Pair.swap (h : Pair T1 T2 w0 W b1 b2 sz cs sz2 cs2 F1 F2) : Pair T2 T1 w0 W b2 b1 sz2 cs2 sz cs F2 F1 :=
  ⟨h.two, h.one, h.new2, h.new1, fun k h2 h1 => h.apart k h1 h2, h.nw⟩
theorem Pair.right (h : Pair T1 T2 w0 W b1 b2 sz cs sz2 cs2 F1 F2) (ht : Two T2 (fun k => F2 k ∨ W.heap.size ≤ k) W' b2 sz' cs') (hk : Kp F2 W W') :
    Pair T1 T2 w0 W' b1 b2 sz cs sz' cs' F1 (fun k => (F2 k ∨ W.heap.size ≤ k) ∧ k < W'.heap.size) := (h.swap.left ht hk).swap
theorem Pair.kept (h : Pair T1 T2 w0 W b1 b2 sz cs sz2 cs2 F1 F2) (hk : Nw W W') : Pair T1 T2 w0 W' b1 b2 sz cs sz2 cs2 F1 F2 :=
  ⟨h.one.nw hk, h.two.nw hk, fun k h1 => ⟨(h.new1 k h1).1, by have := (h.new1 k h1).2; have := hk.size; omega⟩, fun k h1 => ⟨(h.new2 k h1).1, by have := (h.new2 k h1).2; have := hk.size; omega⟩, h.apart, nw_trans h.nw hk⟩
/-- the first slab is made in W1, the second behind it -/
theorem Pair.mk2 {W1 : World} (h1 : Two T1 (fun k => w0.heap.size ≤ k) W1 b1 sz cs) (hn : Nw w0 W1) (h2 : Two T2 (fun k => W1.heap.size ≤ k) W b2 sz2 cs2) (hn2 : Nw W1 W) :
    Pair T1 T2 w0 W b1 b2 sz cs sz2 cs2 (fun k => w0.heap.size ≤ k ∧ k < W1.heap.size) (fun k => W1.heap.size ≤ k ∧ k < W.heap.size) :=
  ⟨(h1.mono (fun k hk hlt => ⟨hk, hlt⟩)).nw hn2, h2.mono (fun k hk hlt => ⟨hk, hlt⟩), fun k hk => ⟨hk.1, by have := hn2.size; omega⟩, fun k hk => ⟨by have := hn.size; omega, hk.2⟩, fun k hk hk2 => by omega, nw_trans hn hn2⟩
end
end Go.Proofs.Ytbofjdckmkifaaa

