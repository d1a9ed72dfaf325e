/-
  The walk of slices.Concat of slices of numbers. Conditions: not too many.
-/
import Derived.Test.YtbofjdckmkifaaaCat
namespace Go.Proofs.Ytbofjdckmkifaaa
open Go.RowKit

def catF (f : Nat → Option Addr × Nat × List Int) : Nat → List Int
  | 0 => []
  | k + 1 => catF f k ++ (f k).2.2
theorem catF_le (f : Nat → Option Addr × Nat × List Int) {k m : Nat} (h : k ≤ m) : (catF f k).length ≤ (catF f m).length := by
  induction m with
  | zero => have : k = 0 := by omega
            subst this; exact Nat.le_refl _
  | succ m ih =>
    by_cases e : k = m + 1
    · subst e; exact Nat.le_refl _
    · have := ih (by omega); simp [catF]; omega

set_option maxRecDepth 100000 in
set_option maxHeartbeats 2000000 in
theorem concatI (w : World) (gb ob m c : Nat) (f : Nat → Option Addr × Nat × List Int) (hm : m ≤ 1000) (hc : m ≤ c) (h0 : 0 < m)
    (hs : ∀ j, j < m → w.cell? ⟨gb, ob + j, none⟩ = some (.slice (f j).1 (f j).2.2.length (f j).2.1)) (hr : ∀ j, j < m → IR .i64 w (f j).1 (f j).2.2 ∧ ((f j).1 = none → (f j).2.1 = 0)) (hl : (catF f m).length ≤ 1000000000) :
    Calls Try.prog 48 #[.slice (some ⟨gb, ob, none⟩) m c] w fun e w' => ∃ a c', e = .returned (.slice a (catF f m).length c') ∧ w'.ownsRow 0 3 1 (.slice a (catF f m).length c') (catF f m).length (iv .i64 (catF f m)) ∧
      (∀ d, a = some d → w.heap.size ≤ d.block) ∧ Nw w w' := by
  have HS := Lib.hid hs; have HR := Lib.hid hr; have HL := Lib.hid hl
  clear hs hr hl
  go_enter Try.func48, Try.ntmps48
  go_wp2
  go_loop [3, 11] (fun n i => ∃ k : Nat, k ≤ m ∧ i = .int .i64 (k : Int) ∧ n = .int .i64 ((catF f k).length : Int)) (fun _ i => m - (intOf i).toNat)
  case atStart => exact ⟨0, Nat.zero_le _, rfl, rfl⟩
  case round =>
    obtain ⟨k, hk, rfl, rfl⟩ := hrel
    have hb := catF_le f hk
    have hb2 := HL.out
    by_cases hlt : k < m
    · have g1 := HS.out k hlt
      have e1 : ((catF f (k + 1)).length : Int) = (catF f k).length + (f k).2.2.length := by simp [catF]
      have hb3 := catF_le f (show k + 1 ≤ m by omega)
      have b1 : ((catF f k).length : Int) + ((f k).2.2.length : Int) ≤ 1000000000 := by rw [← e1]; omega
      have q1 : decide (((catF f k).length : Int) + ((f k).2.2.length : Int) < 0) = false := by simp; omega
      have E1 := Lib.hid e1
      clear e1 hb3 hb2 hb
      go_wp2
      go_round
      case rel => exact ⟨k + 1, by omega, by go_num, by rw [E1.out]⟩
      case measure => simp [intOf]; try omega
    · obtain rfl : k = m := by omega
      have hgr := Lib.hid (growI w (catF f k).length HL.out)
      clear hb hb2
      go_wp2_with fail
      refine hgr.out.mono ?_; rintro e w1 ⟨a1, c1, rfl, ho, hd, hn⟩
      have HO := Lib.hid ho; have HD := Lib.hid hd; have HN := Lib.hid hn
      clear ho hd hn hgr
      go_wp2
      go_loopw [6, 27] (fun v i wr => ∃ (j : Nat) (a2 : Option Addr) (c2 : Nat), j ≤ k ∧ i = .int .i64 (j : Int) ∧ v = .slice a2 (catF f j).length c2 ∧ Hid (wr.ownsRow 0 3 1 (.slice a2 (catF f j).length c2) (catF f j).length (iv .i64 (catF f j))) ∧ Hid (∀ d, a2 = some d → w.heap.size ≤ d.block) ∧ Hid (Nw w wr)) (fun _ i _ => k - (intOf i).toNat)
      case atStart => exact ⟨0, a1, c1, Nat.zero_le _, rfl, rfl, HO.out, HD, HN⟩
      case round =>
        obtain ⟨j, a2, c2, hj, rfl, rfl, HO2, HD2, HN2⟩ := hrel
        by_cases hlt2 : j < k
        · have g1 := nw_cell HN2.out (HS.out j hlt2)
          have hb3 := catF_le f (show j + 1 ≤ k by omega)
          have hb4 : (catF f (j + 1)).length = (catF f j).length + (f j).2.2.length := by simp [catF]
          have hfit : ((catF f j).length + (f j).2.2.length) * 8 ≤ 140737488355328 := by rw [← hb4]; have := HL.out; omega
          have HF := Lib.hid hfit
          clear hb3 hb4 hfit
          obtain ⟨X, hX⟩ : ∃ X, X = catF f j := ⟨_, rfl⟩
          rw [← hX] at HO2 HF ⊢
          have HX := Lib.hid hX; clear hX
          go_wp2_with (at_builtin; refine appAny rfl (.tmp 31) (.tmp 32) 30 3 .i64 8 rfl Try.underlying30 infoI (by omega) _ _ X (f j).2.2 (f j).1 (f j).2.1 rfl rfl (HR.out j hlt2).2 ((HR.out j hlt2).1.nw HN2.out) HO2.out HF.out ?_)
          intro a3 c3 w3 ho3 hk3 hd3
          have HO3 := Lib.hid ho3; have HK3 := Lib.hid hk3; have HD3 := Lib.hid hd3
          clear ho3 hk3 hd3 g1
          go_wp2
          go_roundw
          case rel =>
            have e : catF f (j + 1) = X ++ (f j).2.2 := by rw [HX.out]; rfl
            refine ⟨j + 1, a3, c3, by omega, by go_num, by rw [e]; simp, by rw [e]; have := HO3.out; show World.ownsRow _ _ _ _ _ _ _; simpa using this, fun d hd => ?_, ?_⟩
            · rcases HD3.out d hd with h | h
              · cases a2 with
                | none => cases h
                | some d' => have := HD2.out d' rfl; have h' : some d'.block = some d.block := h; injection h' with h'; omega
              · have := HN2.out.size; omega
            · refine ((kp_of_nw HN2.out (fun _ => False)).trans HK3.out ?_).nw
              intro b hb hlt
              cases a2 with
              | none => cases hb
              | some d' => have := HD2.out d' rfl; have h' : some d'.block = some b := hb; injection h' with h'; omega
          case measure => simp [intOf]; try omega
        · obtain rfl : j = k := by omega
          go_wp2
          go_ret
          exact ⟨a2, c2, rfl, HO2.out, HD2.out, HN2.out⟩
end Go.Proofs.Ytbofjdckmkifaaa
