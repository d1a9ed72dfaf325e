/-
  The walk of the law's Ints: two rows of numbers are alike. Condition: the rows are short.
-/
import Derived.Test.YtbofjdckmkifaaaMem
namespace Go.Proofs.Ytbofjdckmkifaaa
open Go.RowKit

theorem take_rd {xs ys : List Int} {k : Nat} (hx : k < xs.length) (hy : k < ys.length) (h : xs.take k = ys.take k) (e : rd xs k = rd ys k) : xs.take (k + 1) = ys.take (k + 1) := by
  rw [List.take_add_one, List.take_add_one, h, List.getElem?_eq_getElem hx, List.getElem?_eq_getElem hy]
  have e1 : rd xs k = xs[k] := by rw [rd_eq, List.getElem?_eq_getElem hx]; rfl
  have e2 : rd ys k = ys[k] := by rw [rd_eq, List.getElem?_eq_getElem hy]; rfl
  rw [← e1, ← e2, e]

set_option maxHeartbeats 400000 in
theorem intsP (w : World) (a1 a2 : Option Addr) (c1 c2 : Nat) (xs ys : List Int) (hx : xs.length ≤ 1000000) (hy : ys.length ≤ 1000000) (r1 : IR .i64 w a1 xs) (r2 : IR .i64 w a2 ys) :
    Calls Try.prog 29 #[.slice a1 xs.length c1, .slice a2 ys.length c2] w fun e w' => e = .returned (.bool (decide (xs = ys))) ∧ ∃ n, w' = w.drewN n := by
  by_cases hl : xs.length = ys.length
  · have R1 := Lib.hid r1; have R2 := Lib.hid r2; have HL := Lib.hid hl
    clear r1 r2
    obtain ⟨n, hn⟩ : ∃ n, ys.length = n := ⟨_, rfl⟩
    rw [hl, hn] at hx ⊢
    have HN := Lib.hid hn; clear hl hn hy
    go_enter Try.func29, Try.ntmps29
    go_wp2
    go_loopw [5] (fun i wr => ∃ k m : Nat, k ≤ n ∧ i = .int .i64 (k : Int) ∧ wr = w.drewN m ∧ Hid (xs.take k = ys.take k)) (fun i _ => n - (intOf i).toNat)
    case atStart => exact ⟨0, 0, Nat.zero_le _, rfl, rfl, Lib.hid (by simp)⟩
    case round =>
      obtain ⟨k, m, hk, rfl, rfl, HT⟩ := hrel
      by_cases hlt : k < n
      · have h1 := HL.out; have h2 := HN.out
        obtain ⟨b1, o1, rfl, g1⟩ := IR_some R1.out (by omega)
        obtain ⟨b2, o2, rfl, g2⟩ := IR_some R2.out (by omega)
        have g1 := g1 k (by omega)
        have g2 := g2 k (by omega)
        by_cases e : rd xs k = rd ys k
        · have q : decide (rd xs k = rd ys k) = true := by simp [e]
          have q2 : decide (rd xs k ≠ rd ys k) = false := by simp [e]
          have HT2 := Lib.hid (take_rd (by omega) (by omega) HT.out e)
          rw [e] at g1
          clear h1 h2 e q q2
          go_wp2
          go_quiet (fail)
          go_wp2
          go_roundw
          case rel => exact ⟨k + 1, _, by omega, by go_num, by first | rfl | exact World.drewN_drewN _ _ _, HT2⟩
          case measure => simp [intOf]; try omega
        · have q : decide (rd xs k = rd ys k) = false := by simp [e]
          have q2 : decide (rd xs k ≠ rd ys k) = true := by simp [e]
          have hno : Hid (decide (xs = ys) = false) := Lib.hid (by simp; intro h; exact e (by rw [h]))
          clear h1 h2
          go_wp2
          go_quiet (fail)
          go_wp2
          go_ret
          exact ⟨by rw [hno.out]; rfl, by first | exact ⟨_, rfl⟩ | exact ⟨_, World.drewN_drewN _ _ _⟩⟩
      · obtain rfl : k = n := by omega
        have hyes : Hid (decide (xs = ys) = true) := Lib.hid (by
          have h1 := HL.out; have h2 := HN.out; have h3 := HT.out
          rw [List.take_of_length_le (by omega), List.take_of_length_le (by omega)] at h3
          simp [h3])
        go_wp2
        go_ret
        exact ⟨by rw [hyes.out]; rfl, by first | exact ⟨_, rfl⟩ | exact ⟨_, World.drewN_drewN _ _ _⟩⟩
  · have q : decide (xs.length = ys.length) = false := by simp [hl]
    have q2 : decide ((xs.length : Int) ≠ (ys.length : Int)) = true := by simp; omega
    have hno : Hid (decide (xs = ys) = false) := Lib.hid (by simp; intro h; exact hl (by rw [h]))
    go_enter Try.func29, Try.ntmps29
    go_wp2
    go_ret
    exact ⟨by rw [hno.out]; rfl, 0, rfl⟩
/-- of two rows that are alike -/
theorem intsE (w : World) (a1 a2 : Option Addr) (c1 c2 : Nat) (xs : List Int) (hx : xs.length ≤ 1000000) (r1 : IR .i64 w a1 xs) (r2 : IR .i64 w a2 xs) :
    Calls Try.prog 29 #[.slice a1 xs.length c1, .slice a2 xs.length c2] w fun e w' => e = .returned (.bool true) ∧ ∃ n, w' = w.drewN n :=
  (intsP w a1 a2 c1 c2 xs xs hx hx r1 r2).mono fun _ _ ⟨h, hn⟩ => ⟨by simpa using h, hn⟩
end Go.Proofs.Ytbofjdckmkifaaa
