/-
  The walks of the slab's reference: each call gives what the plain slab says. Conditions: the slab is one that may be.
-/
import Derived.Test.YtbofjdckmkifaaaS13
namespace Go.Proofs.Ytbofjdckmkifaaa
open Go.RowKit

/-- a struct of two slices of ints behind the pointer b, all of it within F -/
def TwoV (T : TypeId) (w : World) (b : Nat) (xs ys : List Int) (vs vc : Value) : Prop :=
  w.heap[b]? = some (.cells #[vs, vc] T (0, 0)) ∧ w.ownsRow 0 3 1 vs xs.length (iv .i64 xs) ∧ w.ownsRow 0 3 1 vc ys.length (iv .i64 ys) ∧
    ∀ k, vs.ownBlock = some k → vc.ownBlock ≠ some k
def Two (T : TypeId) (F : Nat → Prop) (w : World) (b : Nat) (xs ys : List Int) : Prop :=
  ∃ vs vc, TwoV T w b xs ys vs vc ∧ F b ∧ (∀ k, vs.ownBlock = some k → F k) ∧ (∀ k, vc.ownBlock = some k → F k)
theorem TwoV.kp {T : TypeId} {S : Nat → Prop} {w w' : World} {b : Nat} {xs ys : List Int} {vs vc : Value} (h : TwoV T w b xs ys vs vc) (hk : Kp S w w') (hb : ¬ S b) (h1 : ∀ k, vs.ownBlock = some k → ¬ S k) (h2 : ∀ k, vc.ownBlock = some k → ¬ S k) : TwoV T w' b xs ys vs vc :=
  ⟨hk.blk h.1 hb, hk.own h.2.1 h1, hk.own h.2.2.1 h2, h.2.2.2⟩
theorem TwoV.nw {T : TypeId} {w w' : World} {b : Nat} {xs ys : List Int} {vs vc : Value} (h : TwoV T w b xs ys vs vc) (hk : Nw w w') : TwoV T w' b xs ys vs vc :=
  h.kp (kp_of_nw hk (fun _ => False)) (fun h => h) (fun _ _ h => h) (fun _ _ h => h)
theorem Two.kp {T : TypeId} {F S : Nat → Prop} {w w' : World} {b : Nat} {xs ys : List Int} (h : Two T F w b xs ys) (hk : Kp S w w') (hd : ∀ k, F k → k < w.heap.size → ¬ S k) : Two T F w' b xs ys := by
  obtain ⟨vs, vc, h, hb, h1, h2⟩ := h
  exact ⟨vs, vc, h.kp hk (hd b hb (blk_lt h.1)) (fun k hk => hd k (h1 k hk) (own_lt h.2.1 hk)) (fun k hk => hd k (h2 k hk) (own_lt h.2.2.1 hk)), hb, h1, h2⟩
theorem Two.nw {T : TypeId} {F : Nat → Prop} {w w' : World} {b : Nat} {xs ys : List Int} (h : Two T F w b xs ys) (hk : Nw w w') : Two T F w' b xs ys :=
  h.kp (kp_of_nw hk (fun _ => False)) (fun _ _ _ h => h)
theorem Two.mono {T : TypeId} {F G : Nat → Prop} {w : World} {b : Nat} {xs ys : List Int} (h : Two T F w b xs ys) (hd : ∀ k, F k → k < w.heap.size → G k) : Two T G w b xs ys := by
  obtain ⟨vs, vc, h, hb, h1, h2⟩ := h
  exact ⟨vs, vc, h, hd b hb (blk_lt h.1), fun k hk => hd k (h1 k hk) (own_lt h.2.1 hk), fun k hk => hd k (h2 k hk) (own_lt h.2.2.1 hk)⟩
theorem Two.lt {T : TypeId} {F : Nat → Prop} {w : World} {b : Nat} {xs ys : List Int} (h : Two T F w b xs ys) : b < w.heap.size := by
  obtain ⟨vs, vc, h, _⟩ := h
  exact blk_lt h.1

theorem TwoV.c0 {T : TypeId} {w : World} {b : Nat} {xs ys : List Int} {vs vc : Value} (h : TwoV T w b xs ys vs vc) : w.cell? ⟨b, 0, none⟩ = some vs := blk_cell h.1 0
theorem TwoV.c1 {T : TypeId} {w : World} {b : Nat} {xs ys : List Int} {vs vc : Value} (h : TwoV T w b xs ys vs vc) : w.cell? ⟨b, 1, none⟩ = some vc := blk_cell h.1 1
theorem TwoV.fr {T : TypeId} {w : World} {b : Nat} {xs ys : List Int} {vs vc : Value} (h : TwoV T w b xs ys vs vc) (i : Nat) : w.frozen? ⟨b, i, none⟩ = false := blk_frozen h.1 i
/-- a store into the second slice -/
theorem TwoV.set1 {T : TypeId} {w : World} {b : Nat} {xs ys : List Int} {vs : Value} {g n c : Nat} (hT : 3 ≠ T) (h : TwoV T w b xs ys vs (.slice (some ⟨g, 0, none⟩) n c)) (hn : n = ys.length) (k : Nat) (x : Int) :
    TwoV T (w.setCell ⟨g, k, none⟩ (.int .i64 x)) b xs (ys.set k x) vs (.slice (some ⟨g, 0, none⟩) n c) := by
  subst hn
  obtain ⟨hb, h1, h2, hne⟩ := h
  have hgb : b ≠ g := fun e => own_ne_blk h2 hb hT (by rw [e]; rfl)
  refine ⟨blk_far hb (by simpa using hgb) _, own_set h1 (fun e => hne g e rfl) _, ?_, hne⟩
  have := own_store h2 k (.int .i64 x)
  simpa [iv, List.map_set] using this
theorem TwoV.set0 {T : TypeId} {w : World} {b : Nat} {xs ys : List Int} {vc : Value} {g n c : Nat} (hT : 3 ≠ T) (h : TwoV T w b xs ys (.slice (some ⟨g, 0, none⟩) n c) vc) (hn : n = xs.length) (k : Nat) (x : Int) :
    TwoV T (w.setCell ⟨g, k, none⟩ (.int .i64 x)) b (xs.set k x) ys (.slice (some ⟨g, 0, none⟩) n c) vc := by
  subst hn
  obtain ⟨hb, h1, h2, hne⟩ := h
  have hgb : b ≠ g := fun e => own_ne_blk h1 hb hT (by rw [e]; rfl)
  refine ⟨blk_far hb (by simpa using hgb) _, ?_, own_set h2 (fun e => hne g rfl e) _, hne⟩
  have := own_store h1 k (.int .i64 x)
  simpa [iv, List.map_set] using this
/-- another slice in a field -/
theorem TwoV.put1 {T : TypeId} {w : World} {b : Nat} {xs ys zs : List Int} {vs vc v : Value} (hT : 3 ≠ T) (h : TwoV T w b xs ys vs vc) (hv : w.ownsRow 0 3 1 v zs.length (iv .i64 zs)) (hne : ∀ k, vs.ownBlock = some k → v.ownBlock ≠ some k) :
    TwoV T (w.setCell ⟨b, 1, none⟩ v) b xs zs vs v := by
  obtain ⟨hb, h1, h2, _⟩ := h
  exact ⟨blk_set hb 1 v, own_set h1 (own_ne_blk h1 hb hT) _, own_set hv (own_ne_blk hv hb hT) _, hne⟩
theorem TwoV.put0 {T : TypeId} {w : World} {b : Nat} {xs ys zs : List Int} {vs vc v : Value} (hT : 3 ≠ T) (h : TwoV T w b xs ys vs vc) (hv : w.ownsRow 0 3 1 v zs.length (iv .i64 zs)) (hne : ∀ k, v.ownBlock = some k → vc.ownBlock ≠ some k) :
    TwoV T (w.setCell ⟨b, 0, none⟩ v) b zs ys v vc := by
  obtain ⟨hb, h1, h2, _⟩ := h
  exact ⟨blk_set hb 0 v, own_set hv (own_ne_blk hv hb hT) _, own_set h2 (own_ne_blk h2 hb hT) _, hne⟩
/-! ### Place, Get -/
theorem bool_and_f {a b : Bool} (h : a = false) : (a && b) = false := by simp [h]
set_option maxHeartbeats 400000 in
theorem place13_len (F : Nat → Prop) (w : World) (b : Nat) (sz cs c : List Int) (ac : Option Addr) (cc : Nat) (h : Two 32 F w b sz cs) (hn : c.length ≠ sz.length) :
    Calls Try.prog 26 #[.pointer (some ⟨b, 0, none⟩), .slice ac c.length cc] w fun e w' => e = .returned (.tuple #[.int .i64 0, .int .i64 1]) ∧ ∃ n, w' = w.drewN n := by
  obtain ⟨vs, vc, ⟨hb, hs, hc, hne⟩, _⟩ := h
  obtain ⟨az, zc, rfl, hzc, _, hz, _⟩ := own_IR hs
  have h0 := blk_cell hb 0
  clear hb hs hc hne hz
  have hq : ((c.length : Int) != (sz.length : Int)) = true := by simp; omega
  have H := Lib.hid hn; clear hn
  go_enter Try.func26, Try.ntmps26
  go_wp2
  go_ret2
  exact ⟨rfl, 0, rfl⟩

set_option maxHeartbeats 400000 in
theorem place13_eq (F : Nat → Prop) (w : World) (b : Nat) (sz cs c : List Int) (ac : Option Addr) (cc : Nat) (hwf : Wf sz cs) (h : Two 32 F w b sz cs) (hn : c.length = sz.length) (hcc : IR .i64 w ac c) :
    Calls Try.prog 26 #[.pointer (some ⟨b, 0, none⟩), .slice ac c.length cc] w fun e w' => e = .returned (.tuple #[.int .i64 (placeV sz c), .int .i64 (placeE sz c)]) ∧ ∃ n, w' = w.drewN n := by
  obtain ⟨vs, vc, ⟨hb, hs, hc, hne⟩, _⟩ := h
  obtain ⟨az, zc, rfl, hzc, _, hz, _⟩ := own_IR hs
  obtain ⟨bz, oz, rfl, hz'⟩ := IR_some hz (by have := hwf.lo; omega)
  obtain ⟨bc, oc, rfl, hcc'⟩ := IR_some hcc (by have := hwf.lo; omega)
  clear hz hcc
  have hz := hz'; have hcc := hcc'; clear hz' hcc'
  have h0 := blk_cell hb 0
  clear hb hs hc hne
  have hlen : (c.length : Int) ≤ 6 := by have := hwf.hi; omega
  have hq : ((c.length : Int) != (c.length : Int)) = false := by simp
  obtain ⟨l, hl⟩ : ∃ l, l = c.length := ⟨_, rfl⟩
  rw [← hn] at h0 hzc hz
  rw [← hl] at h0 hzc hlen hcc hq hz ⊢
  have hpl : ∀ k, k ≤ l → okc sz c k = true → 0 ≤ plc sz c k ∧ plc sz c k ≤ 4096 := fun k hk hok => by
    have h1 := plc_lt hwf.pos (by omega) hok
    have h2 := hwf.pr_le (k := k) (by omega)
    omega
  have hsz : ∀ k, k < l → 1 ≤ rd sz k ∧ rd sz k ≤ 4096 := fun k hk => hwf.size_le (by omega)
  have HL := Lib.hid hl; have HN := Lib.hid hn; clear hl hn
  have HW := Lib.hid hwf; clear hwf
  have HP := Lib.hid hpl; have HS := Lib.hid hsz; have HZ := Lib.hid hz; have HC := Lib.hid hcc; clear hpl hsz hz hcc
  go_enter Try.func26, Try.ntmps26
  go_wp2
  go_loopw [6,7] (fun n i wr => ∃ k : Nat, k ≤ l ∧ i = .int .i64 k ∧ n = .int .i64 (plc sz c k) ∧ okc sz c k = true ∧ ∃ nq, wr = w.drewN nq) (fun _ i _ => l - (intOf i).toNat)
  case atStart => exact ⟨0, Nat.zero_le _, rfl, rfl, rfl, 0, rfl⟩
  case round =>
    obtain ⟨k, hk, rfl, rfl, hok, nq, rfl⟩ := hrel
    have HO := Lib.hid hok; clear hok
    by_cases hlt : k < l
    · have g1 := HZ.out k hlt
      have g2 := HC.out k hlt
      have g4 := HP.out k hk HO.out
      have g5 := HS.out k hlt
      by_cases q0 : rd c k < 0
      · have q1 : decide (rd c k < 0) = true := by simp; omega
        go_wp2
        go_quiet (fail)
        go_wp2
        go_ret2
        have hf : isCell sz c = false := by
          have : okc sz c (k + 1) = false := by simp [okc]; intro _; omega
          have := okc_mono (show k + 1 ≤ l by omega) this
          rw [HL.out] at this
          simp [isCell, this]
        simp only [placeV, placeE, hf]
        exact ⟨rfl, _, World.drewN_drewN _ _ _⟩
      · by_cases q3 : rd sz k ≤ rd c k
        · have q1 : decide (rd c k < 0) = false := by simp; omega
          have q2 : decide (rd c k ≥ rd sz k) = true := by simp; omega
          go_wp2
          go_quiet (fail)
          go_wp2
          go_ret2
          have hf : isCell sz c = false := by
            have : okc sz c (k + 1) = false := by simp [okc]; intro _ _; omega
            have := okc_mono (show k + 1 ≤ l by omega) this
            rw [HL.out] at this
            simp [isCell, this]
          simp only [placeV, placeE, hf]
          exact ⟨rfl, _, World.drewN_drewN _ _ _⟩
        · have q1 : decide (rd c k < 0) = false := by simp; omega
          have q2 : decide (rd c k ≥ rd sz k) = false := by simp; omega
          have hok1 : okc sz c (k + 1) = true := by simp [okc, HO.out]; omega
          have g6 := HP.out (k + 1) hlt hok1
          have HO1 := Lib.hid hok1; clear hok1
          simp only [plc] at g6
          go_wp2
          go_quiet (fail)
          go_wp2
          go_quiet (fail)
          go_wp2
          go_roundw
          case rel => exact ⟨k + 1, by omega, by go_num, rfl, HO1.out, _, rfl⟩
          case measure => simp [intOf]; omega
    · obtain rfl : k = l := by omega
      go_wp2
      go_ret2
      have hf : isCell sz c = true := by
        have := HO.out
        rw [HL.out] at this
        simp [isCell, this]; exact HN.out
      simp only [placeV, placeE, hf]
      refine ⟨?_, _, rfl⟩
      simp [HL.out]

theorem place13 (F : Nat → Prop) (w : World) (b : Nat) (sz cs c : List Int) (ac : Option Addr) (cc : Nat) (hwf : Wf sz cs) (h : Two 32 F w b sz cs) (hcc : IR .i64 w ac c) :
    Calls Try.prog 26 #[.pointer (some ⟨b, 0, none⟩), .slice ac c.length cc] w fun e w' => e = .returned (.tuple #[.int .i64 (placeV sz c), .int .i64 (placeE sz c)]) ∧ ∃ n, w' = w.drewN n := by
  by_cases hn : c.length = sz.length
  · exact place13_eq F w b sz cs c ac cc hwf h hn hcc
  · have hf : isCell sz c = false := by simp [isCell, hn]
    simp only [placeV, placeE, hf]
    exact place13_len F w b sz cs c ac cc h hn

end Go.Proofs.Ytbofjdckmkifaaa
