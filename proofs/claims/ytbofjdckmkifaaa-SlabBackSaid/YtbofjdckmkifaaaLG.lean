/-
  The walk of the laws' grown: a slab behind some calls. Condition: the script reads as one.
-/
import Derived.Test.YtbofjdckmkifaaaL3b
namespace Go.Proofs.Ytbofjdckmkifaaa
open Go.RowKit

/-- a slab that is new memory's, and what may be -/
def Slab1 (w wr : World) (g d : Nat) : Prop := ∃ (sz cs : List Int) (F : Nat → Prop), Wf sz cs ∧ Vok cs ∧ Two 77 F wr g sz cs ∧ (∀ k, F k → w.heap.size ≤ k ∧ k < wr.heap.size) ∧ Nw w wr ∧ sz.length = d
theorem Slab1.turn {w wr w' : World} {g d : Nat} {sz' cs' : List Int} {F : Nat → Prop} (hn : Nw w wr) (hF : ∀ k, F k → w.heap.size ≤ k ∧ k < wr.heap.size) (ht : Two 77 (fun k => F k ∨ wr.heap.size ≤ k) w' g sz' cs') (hk : Kp F wr w') (hwf : Wf sz' cs') (hv : Vok cs') (hl : sz'.length = d) : Slab1 w w' g d := by
  refine ⟨sz', cs', fun k => (F k ∨ wr.heap.size ≤ k) ∧ k < w'.heap.size, hwf, hv, ht.mono (fun k hk hlt => ⟨hk, hlt⟩), ?_, kp_nw hn hk (fun k hk => (hF k hk).1), hl⟩
  have := hn.size
  rintro k ⟨h1 | h1, h2⟩
  · exact ⟨(hF k h1).1, h2⟩
  · exact ⟨by omega, h2⟩
theorem Slab1.nw {w wr w' : World} {g d : Nat} (h : Slab1 w wr g d) (hn : Nw wr w') : Slab1 w w' g d := by
  obtain ⟨sz, cs, F, h1, h2, h3, h4, h5, h6⟩ := h
  exact ⟨sz, cs, F, h1, h2, h3.nw hn, fun k hk => ⟨(h4 k hk).1, by have := (h4 k hk).2; have := hn.size; omega⟩, nw_trans h5 hn, h6⟩

theorem grow2_len (sz cs : List Int) (a i : Int) : (grow2 sz cs a i).1.length = sz.length := by unfold grow2; split <;> simp
set_option maxRecDepth 100000 in
set_option maxHeartbeats 4000000 in
theorem grown_none (w : World) (d : Int) (a : Option Addr) (len cap : Nat) (hd : d < 1 ∨ 6 < d) (hs : Script w a len) (_hlen : len ≤ 9223372036854775807) :
    Calls Try.prog 34 #[.int .i64 d, .slice a len cap] w fun e w' => e = .returned (.pointer none) ∧ Nw w w' := by
  have HS := Lib.hid hs; clear hs
  have H1 := Lib.hid (newP_no w d 0 hd)
  clear hd
  go_enter Try.func34, Try.ntmps34
  go_wp2_with fail
  refine H1.out.mono ?_; rintro e w1 ⟨rfl, rfl⟩
  clear H1
  go_wp2_with fail
  go_loopw [7] (fun i wr => ∃ (k : Nat), k ≤ len ∧ k ≤ 40 ∧ i = .int .i64 (k : Int) ∧ Hid (Nw w1 wr)) (fun i _ => len - (intOf i).toNat)
  case atStart => exact ⟨0, Nat.zero_le _, by omega, rfl, Below.refl _ _⟩
  case round =>
    obtain ⟨k, hk, hk4, rfl, HA⟩ := hrel
    by_cases hgo : k < len ∧ k < 40
    · obtain ⟨q1, q2⟩ := hgo
      obtain ⟨b, o, v, rfl, hop0⟩ := HS.out k q1
      have hop := hop0.nw HA.out
      have c0 := hop.c0; have c1 := hop.c1; have c2 := hop.c2; have c3 := hop.c3; have c4 := hop.c4; have c5 := hop.c5
      have l1 := hop.l1; have l2 := hop.l2
      clear hop hop0
      go_wp2_with fail
      refine (cellsP_nil _).mono ?_; rintro e w2 ⟨rfl, rfl⟩
      go_upto_block 1 with fail
      go_cut [] (fun wx => Hid (Nw w1 wx))
      case first =>
        rcases (show 20 < v.low.length ∨ (v.low.length ≤ 20 ∧ 20 < v.high.length) ∨ (v.low.length ≤ 20 ∧ v.high.length ≤ 20) by omega) with b1 | ⟨b1, b2⟩ | ⟨b1, b2⟩
        · go_wp2
          go_meet
          exact nw_trans HA.out (nw_alloc _ _)
        · go_wp2
          go_meet
          exact nw_trans HA.out (nw_alloc _ _)
        · clear l1 l2
          by_cases k0 : v.kind = 0
          · have z0 : (v.kind == 0) = true := by simp [k0]
            go_wp2_with fail
            refine (growP_nil _ _ _).mono ?_; rintro e w3 ⟨rfl, hn⟩
            have HA2 := Lib.hid (nw_trans (nw_trans HA.out (nw_alloc _ _)) hn)
            clear hn
            go_wp2
            go_meet
            exact HA2
          · have z0 : (v.kind == 0) = false := by simp [k0]
            go_wp2_with fail
            refine (fillP_nil _ _ _ _ _ _ _ _).mono ?_; rintro e w3 ⟨rfl, hn⟩
            have HA2 := Lib.hid (nw_trans (nw_trans HA.out (nw_alloc _ _)) hn)
            clear hn
            go_wp2
            go_meet
            exact HA2
      case rest =>
        go_wp2
        go_roundw
        case rel => exact ⟨k + 1, by omega, by omega, by go_num, hcut⟩
        case measure => simp [intOf]; try omega
    · by_cases q1 : k < len
      · have q2 : ¬ k < 40 := fun h => hgo ⟨q1, h⟩
        clear hgo
        go_wp2
        go_ret
        exact ⟨rfl, HA.out⟩
      · clear hgo
        go_wp2
        go_ret
        exact ⟨rfl, HA.out⟩

set_option maxRecDepth 100000 in
set_option maxHeartbeats 4000000 in
theorem grown_go (w : World) (d : Nat) (a : Option Addr) (len cap : Nat) (h1 : 1 ≤ d) (h6 : d ≤ 6) (hs : Script w a len) (_hlen : len ≤ 9223372036854775807) :
    Calls Try.prog 34 #[.int .i64 (d : Int), .slice a len cap] w fun e w' => ∃ g, e = .returned (.pointer (some ⟨g, 0, none⟩)) ∧ Slab1 w w' g d := by
  have HS := Lib.hid hs; clear hs
  have hwf := wf_ones d 0 h1 h6
  go_enter Try.func34, Try.ntmps34
  go_wp2_with fail
  refine (newP_yes w d 0 h1 h6).mono ?_; rintro e w1 ⟨g1, rfl, t1, n1⟩
  have HA : Hid (Slab1 w w1 g1 d) := Lib.hid ⟨_, _, fun k => w.heap.size ≤ k ∧ k < w1.heap.size, hwf, vok_one wf0, t1.mono (fun k hk hlt => ⟨hk, hlt⟩), fun k hk => hk, n1, by simp⟩
  clear t1 n1 hwf h1 h6
  go_wp2_with fail
  go_loopw [7] (fun i wr => ∃ (k : Nat), k ≤ len ∧ k ≤ 40 ∧ i = .int .i64 (k : Int) ∧ Hid (Slab1 w wr g1 d)) (fun i _ => len - (intOf i).toNat)
  case atStart => exact ⟨0, Nat.zero_le _, by omega, rfl, HA⟩
  case round =>
    clear HA
    obtain ⟨k, hk, hk4, rfl, HA⟩ := hrel
    by_cases hgo : k < len ∧ k < 40
    · obtain ⟨q1, q2⟩ := hgo
      obtain ⟨sz, cs, F, hwf, hv, ht, hF, hn0, hd0⟩ := HA.out
      have HD := Lib.hid hd0; clear hd0
      have HWF := Lib.hid hwf; have HV := Lib.hid hv; have HF := Lib.hid hF
      have HC := Lib.hid (cellsP F wr g1 sz cs hwf ht)
      have hmost := hwf.most
      clear hwf hv
      obtain ⟨b, o, v, rfl, hop0⟩ := HS.out k q1
      have HOP0 := Lib.hid hop0; have HT := Lib.hid ht; have HN0 := Lib.hid hn0
      clear hop0 ht hn0 hF
      go_wp2_with fail
      refine HC.out.mono ?_; rintro e w2 ⟨gc, cc, rfl, -, -, hn⟩
      have HN1 := Lib.hid (nw_trans HN0.out hn)
      have HT1 := Lib.hid (HT.out.nw hn)
      have HF1 : Hid (∀ k, F k → w.heap.size ≤ k ∧ k < w2.heap.size) := Lib.hid (fun k hk => ⟨(HF.out k hk).1, by have := (HF.out k hk).2; have := hn.size; omega⟩)
      have hop := HOP0.out.nw HN1.out
      have c0 := hop.c0; have c1 := hop.c1; have c2 := hop.c2; have c3 := hop.c3; have c4 := hop.c4; have c5 := hop.c5
      have l1 := hop.l1; have l2 := hop.l2
      have HOP := Lib.hid hop
      clear hn HC HT HN0 HF hop
      by_cases q3 : cs.length ≤ 200
      · go_upto_block 1 with fail
        go_cut [] (fun wx => Hid (Slab1 w wx g1 d))
        case first =>
          rcases (show 20 < v.low.length ∨ (v.low.length ≤ 20 ∧ 20 < v.high.length) ∨ (v.low.length ≤ 20 ∧ v.high.length ≤ 20) by omega) with b1 | ⟨b1, b2⟩ | ⟨b1, b2⟩
          · go_wp2
            go_meet
            exact ⟨sz, cs, F, HWF.out, HV.out, HT1.out.nw (nw_alloc _ _), fun k hk => ⟨(HF1.out k hk).1, by have := (HF1.out k hk).2; simp; omega⟩, nw_trans HN1.out (nw_alloc _ _), HD.out⟩
          · go_wp2
            go_meet
            exact ⟨sz, cs, F, HWF.out, HV.out, HT1.out.nw (nw_alloc _ _), fun k hk => ⟨(HF1.out k hk).1, by have := (HF1.out k hk).2; simp; omega⟩, nw_trans HN1.out (nw_alloc _ _), HD.out⟩
          · clear l1 l2
            by_cases k0 : v.kind = 0
            · have z0 : (v.kind == 0) = true := by simp [k0]
              go_wp2_with fail
              refine (growP HWF.out (HT1.out.nw (nw_alloc _ _)) _ _).mono ?_; rintro e w3 ⟨rfl, ht, hk⟩
              have HA2 : Hid (Slab1 w w3 g1 d) := Lib.hid (Slab1.turn (nw_trans HN1.out (nw_alloc _ _)) (fun k hk => ⟨(HF1.out k hk).1, by have := (HF1.out k hk).2; simp; omega⟩) ht hk (grow2_wf HWF.out _ _) (grow2_vok HV.out _ _) (by rw [grow2_len]; exact HD.out))
              clear ht hk
              go_wp2
              go_meet
              exact HA2
            · have z0 : (v.kind == 0) = false := by simp [k0]
              have X1 : Hid ((0 < v.low.length → ∀ d, v.al = some d → ¬ F d.block) ∧ (0 < v.high.length → ∀ d, v.ah = some d → ¬ F d.block)) := Lib.hid
                ⟨fun h d hd hf => by have := HOP0.out.rl.lt h hd; have := (HF1.out _ hf).1; omega, fun h d hd hf => by have := HOP0.out.rh.lt h hd; have := (HF1.out _ hf).1; omega⟩
              go_wp2_with fail
              refine (fillP HWF.out (HT1.out.nw (nw_alloc _ _)) (HOP.out.rl.nw (nw_alloc _ _)) (HOP.out.rh.nw (nw_alloc _ _)) X1.out.1 X1.out.2 _).mono ?_; rintro e w3 ⟨rfl, ht, hk⟩
              have HA2 : Hid (Slab1 w w3 g1 d) := Lib.hid (Slab1.turn (nw_trans HN1.out (nw_alloc _ _)) (fun k hk => ⟨(HF1.out k hk).1, by have := (HF1.out k hk).2; simp; omega⟩) ht hk (fill2_wf HWF.out _) (fill2_vok HV.out HOP.out.n_) HD.out)
              clear ht hk
              go_wp2
              go_meet
              exact HA2
        case rest =>
          go_wp2
          go_roundw
          case rel => exact ⟨k + 1, by omega, by omega, by go_num, hcut⟩
          case measure => simp [intOf]; try omega
      · have HA2 : Hid (Slab1 w w2 g1 d) := Lib.hid ⟨sz, cs, F, HWF.out, HV.out, HT1.out, HF1.out, HN1.out, HD.out⟩
        clear HWF HV HT1 HF1 HN1 c0 c1 c2 c3 c4 c5 HOP
        go_wp2
        go_ret
        exact ⟨g1, rfl, HA2.out⟩
    · by_cases q1 : k < len
      · have q2 : ¬ k < 40 := fun h => hgo ⟨q1, h⟩
        clear hgo
        go_wp2
        go_ret
        exact ⟨g1, rfl, HA.out⟩
      · clear hgo
        go_wp2
        go_ret
        exact ⟨g1, rfl, HA.out⟩
end Go.Proofs.Ytbofjdckmkifaaa
