/-
  The walk of slices.Chunk of numbers, as a function that yields the rows. Conditions: the rows are whole.
-/
import Derived.Test.YtbofjdckmkifaaaP13a
import Derived.Test.YtbofjdckmkifaaaRF
namespace Go.Proofs.Ytbofjdckmkifaaa
open Go.RowKit Go.Shelf

set_option maxHeartbeats 400000 in
theorem chunkI (w : World) (a : Option Addr) (n c : Nat) (k : Int) (hk : 1 ≤ k) :
    Calls Try.prog 47 #[.slice a n c, .int .i64 k] w fun e w' => e = .returned (.func (.func 71) #[] #[.pointer (some ⟨w.heap.size, 0, none⟩), .pointer (some ⟨w.heap.size + 1, 0, none⟩)]) ∧
      w'.heap[w.heap.size]? = some (.cells #[.slice a n c] 30 (0, 0)) ∧ w'.heap[w.heap.size + 1]? = some (.cells #[.int .i64 k] 3 (0, 0)) ∧ Nw w w' := by
  have q1 : decide (k < 1) = false := by simp; omega
  go_enter Try.func47, Try.ntmps47
  go_wp2
  go_ret
  refine ⟨rfl, ?_, ?_, nw_trans (nw_alloc _ _) (nw_alloc _ _)⟩
  all_goals (simp only [heap_alloc_if, World.size_alloc]; repeat (first | rw [if_pos trivial] | rw [if_pos (by omega)] | rw [if_neg (by omega)]))

set_option maxRecDepth 100000 in
set_option maxHeartbeats 1000000 in
theorem chunkIt (n l bl bn b o all rows len cap : Nat) (J Jx : Nat → World → Prop) (hlen : len = rows * all) (hall : 1 ≤ all) (hcap : len ≤ cap) (hcm : cap ≤ 9223372036854775807) (hm : len ≤ 1000000)
    (hJ : ∀ r A, J r A → A.heap[bl]? = some (.cells #[.slice (some ⟨b, o, none⟩) len cap] 30 (0, 0)) ∧ A.heap[bn]? = some (.cells #[.int .i64 (all : Int)] 3 (0, 0)))
    (hab : ∀ r A k, J r A → J r (World.drewN A k)) (W : World) (h0 : J 0 W)
    (hy : ∀ r A, r < rows → J r A → YieldAt Fence.wide n Try.prog l #[.slice (some ⟨b, o + r * all, none⟩) all all] A fun e B => (e = .returned (.bool true) ∧ J (r + 1) B) ∨ (e = .returned (.bool false) ∧ Jx r B)) :
    Calls Try.prog 71 #[.func (.yield l) #[] #[], .pointer (some ⟨bl, 0, none⟩), .pointer (some ⟨bn, 0, none⟩)] W fun e W' =>
      (∃ v, e = .returned v) ∧ (J rows W' ∨ ∃ r, r < rows ∧ Jx r W') := by
  have HJ := Lib.hid hJ; have HAB := Lib.hid hab; have H0 := Lib.hid h0; have HY := Lib.hid hy; have HLEN := Lib.hid hlen
  clear hJ hab h0 hy hlen
  go_enter Try.func71, Try.ntmps71
  go_wp2
  go_loopw [4] (fun i wr => ∃ r i' : Nat, r ≤ rows ∧ i = .int .i64 (i' : Int) ∧ Hid (i' = r * all) ∧ Hid (J r wr)) (fun i _ => len - (intOf i).toNat)
  case atStart => exact ⟨0, 0, Nat.zero_le _, rfl, (show 0 = 0 * all by simp), H0⟩
  case round =>
    obtain ⟨r, i', hr, rfl, HI, HJr⟩ := hrel
    have c1 : wr.cell? ⟨bl, 0, none⟩ = some (.slice (some ⟨b, o, none⟩) len cap) := blk_cell (HJ.out r wr HJr.out).1 0
    have c2 : wr.cell? ⟨bn, 0, none⟩ = some (.int .i64 (all : Int)) := blk_cell (HJ.out r wr HJr.out).2 0
    by_cases hlt : r < rows
    · have hi : i' + all ≤ len := by rw [HI.out, HLEN.out, ← Nat.succ_mul]; exact Nat.mul_le_mul_right _ hlt
      have hne : ¬ cap = i' := by omega
      have hq : decide ((i' : Int) < (len : Int)) = true := by simp; omega
      have hmin : min (all : Int) ((len - i' : Nat) : Int) = (all : Int) := by omega
      go_wp2
      go_quiet (fail)
      go_upto_region 4 with fail
      obtain ⟨fn, tmps, assign, body, hyr, hR⟩ := HY.out r (wr.drewN nq) hlt (HAB.out _ _ _ HJr.out)
      have HR := Lib.hid hR; clear hR
      rw [← HI.out] at hyr
      refine (wpIn_wide (n := n + 1)).1 ?_
      gi_wp2
      refine HR.out.mono ?_
      rintro e B (⟨rfl, hJ1⟩ | ⟨rfl, hJ1⟩)
      · have HJ1 := Lib.hid hJ1
        clear hJ1 HR hyr hmin hq
        gi_wp2
        have c2 : B.cell? ⟨bn, 0, none⟩ = some (.int .i64 (all : Int)) := blk_cell (HJ.out _ B HJ1.out).2 0
        go_wp2
        go_roundw
        case rel => exact ⟨r + 1, i' + all, by omega, by go_num, (show i' + all = (r + 1) * all by rw [HI.out, Nat.add_mul, Nat.one_mul]), HJ1⟩
        case measure => simp [intOf]; try omega
      · have HJ1 := Lib.hid hJ1
        clear hJ1 HR hyr hmin hq
        gi_wp2
        go_wp2
        refine bodyPost_ret (results_none rfl _ _ _) rfl ?_
        exact ⟨⟨_, rfl⟩, .inr ⟨r, hlt, HJ1.out⟩⟩
    · have hr' : r = rows := by omega
      have e : i' = len := by rw [HI.out, HLEN.out, hr']
      have hq : decide ((i' : Int) < (len : Int)) = false := by simp; omega
      have hge : len ≤ i' := by omega
      have HR' := Lib.hid hr'
      clear e hr'
      go_wp2
      go_end0
      exact ⟨⟨_, rfl⟩, .inl (by rw [← HR'.out]; exact HJr.out)⟩
end Go.Proofs.Ytbofjdckmkifaaa
