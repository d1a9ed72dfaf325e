/-
  The walks of the slab's reference: New. No condition.
-/
import Derived.Test.YtbofjdckmkifaaaR13b
import Derived.Test.YtbofjdckmkifaaaApp
namespace Go.Proofs.Ytbofjdckmkifaaa
open Go.RowKit

set_option maxHeartbeats 1000000 in
theorem new13_no (w : World) (d n : Int) (h : d < 1 ∨ 6 < d) :
    Calls Try.prog 15 #[.int .i64 d, .int .i64 n] w fun e w' => e = .returned (.tuple #[.pointer none, .int .i64 1]) ∧ w' = w := by
  rcases h with h | h
  · have q1 : decide (d < 1) = true := by simp; omega
    go_enter Try.func15, Try.ntmps15
    go_wp2
    go_ret2
    exact ⟨rfl, rfl⟩
  · have q1 : decide (d < 1) = false := by simp; omega
    have q2 : decide (d > 6) = true := by simp; omega
    go_enter Try.func15, Try.ntmps15
    go_wp2
    go_ret2
    exact ⟨rfl, rfl⟩

theorem TwoV.mk0 {T : TypeId} {w : World} {b : Nat} {xs ys : List Int} {vs vc v : Value} (hT : 3 ≠ T) (hb : w.heap[b]? = some (.cells #[v, vc] T (0, 0))) (hx : w.ownsRow 0 3 1 vs xs.length (iv .i64 xs)) (hy : w.ownsRow 0 3 1 vc ys.length (iv .i64 ys))
    (hne : ∀ k, vs.ownBlock = some k → vc.ownBlock ≠ some k) : TwoV T (w.setCell ⟨b, 0, none⟩ vs) b xs ys vs vc :=
  ⟨blk_set hb 0 vs, own_set hx (own_ne_blk hx hb hT) _, own_set hy (own_ne_blk hy hb hT) _, hne⟩
theorem TwoV.mk1 {T : TypeId} {w : World} {b : Nat} {xs ys : List Int} {vs vc v : Value} (hT : 3 ≠ T) (hb : w.heap[b]? = some (.cells #[vs, v] T (0, 0))) (hx : w.ownsRow 0 3 1 vs xs.length (iv .i64 xs)) (hy : w.ownsRow 0 3 1 vc ys.length (iv .i64 ys))
    (hne : ∀ k, vs.ownBlock = some k → vc.ownBlock ≠ some k) : TwoV T (w.setCell ⟨b, 1, none⟩ vc) b xs ys vs vc :=
  ⟨blk_set hb 1 vc, own_set hx (own_ne_blk hx hb hT) _, own_set hy (own_ne_blk hy hb hT) _, hne⟩

set_option maxHeartbeats 1000000 in
theorem new13_yes (w : World) (d : Nat) (n : Int) (h1 : 1 ≤ d) (h6 : d ≤ 6) :
    Calls Try.prog 15 #[.int .i64 d, .int .i64 n] w fun e w' => ∃ g, e = .returned (.tuple #[.pointer (some ⟨g, 0, none⟩), .int .i64 0]) ∧
      Two 32 (fun k => w.heap.size ≤ k) w' g (List.replicate d 1) [n] ∧ Nw w w' := by
  have q1 : decide ((d : Int) < 1) = false := by simp; omega
  have q2 : decide ((d : Int) > 6) = false := by simp; omega
  go_enter Try.func15, Try.ntmps15
  go_wp2
  go_loopw [7] (fun i wr => ∃ (k : Nat) (vs : Value), k ≤ d ∧ i = .int .i64 k ∧ TwoV 32 wr (w.heap.size + 1) (List.replicate k 1) [n] vs (.slice (some ⟨w.heap.size, 0, none⟩) 1 1) ∧
    (∀ b, vs.ownBlock = some b → w.heap.size ≤ b) ∧ Nw w wr) (fun i _ => d - (intOf i).toNat)
  case atStart =>
    refine ⟨0, .slice none 0 0, Nat.zero_le _, rfl, ⟨?_, World.ownsRow_nil _ _ _ _, ?_, fun k hk => by cases hk⟩, fun b hb => by (cases hb), nw_trans (nw_alloc _ _) (nw_alloc _ _)⟩
    · simpa using blk_new (w.alloc (.cells #[.int .i64 n] 3)) _
    · have := own_of_blk (w := w.alloc (.cells #[.int .i64 n] 3)) (xs := [.int .i64 n]) (blk_new _ _) (by simp)
      exact nw_own (nw_alloc _ _) this
  case round =>
    obtain ⟨k, vs, hk, rfl, ht, hv, hnw⟩ := hrel
    by_cases hlt : k < d
    · obtain ⟨S, hS⟩ : ∃ S, S = List.replicate k (1 : Int) := ⟨_, rfl⟩
      have hSl : S.length ≤ 6 := by rw [hS]; simp; omega
      rw [← hS] at ht
      have HS := Lib.hid hS; clear hS
      obtain ⟨av, cv, rfl, hvc, hvm, -⟩ := own_IR ht.2.1
      have p0 := ht.c0
      have hf := ht.fr 0
      have T0 := Lib.hid ht; have HV := Lib.hid hv; have HN := Lib.hid hnw
      clear ht hv hnw
      go_wp2_with (at_builtin; refine app1 rfl (.tmp 27) (.tmp 28) 30 3 .i64 8 rfl Try.underlying30 infoI (by omega) _ _ S 1 rfl rfl T0.out.2.1 (by omega) ?_)
      intro g c w1 ho hc hkp hat
      have hT := T0.out
      have hB : Nw w w1 := ((kp_of_nw HN.out (fun _ => False)).trans hkp (fun b hb hlt => by have := HV.out b hb; omega)).nw
      have hgk : w.heap.size ≤ g := by
        rcases hat with h | h
        · exact HV.out g h
        · have := HN.out.size; omega
      have hblk : w1.heap[w.heap.size + 1]? = some (.cells #[.slice av S.length cv, .slice (some ⟨w.heap.size, 0, none⟩) 1 1] 32 (0, 0)) :=
        hkp.blk hT.1 (fun e => own_ne_blk hT.2.1 hT.1 (by decide) e)
      have ho2 : w1.ownsRow 0 3 1 (.slice (some ⟨w.heap.size, 0, none⟩) 1 1) [n].length (iv .i64 [n]) := hkp.own hT.2.2.1 (fun b hb e => hT.2.2.2 b e hb)
      have hneg : g ≠ w.heap.size := fun e => by
        rcases hat with h | h
        · exact hT.2.2.2 g h (by rw [e]; rfl)
        · have := own_lt hT.2.2.1 (b := w.heap.size) rfl; omega
      have hf2 := blk_frozen hblk 0
      have hc2 := blk_cell hblk 0
      have p2 : w1.cell? ⟨w.heap.size + 1, 0, none⟩ = some (.slice av S.length cv) := hc2
      have HO := Lib.hid ho; have HB := Lib.hid hB; have HBL := Lib.hid hblk; have HO2 := Lib.hid ho2
      clear hc2 hT ho hB hblk ho2 p0 hf hkp hat T0
      go_wp2
      go_roundw
      case rel =>
        have e : S ++ [1] = List.replicate (k + 1) 1 := by rw [HS.out]; simp [List.replicate_succ']
        refine ⟨k + 1, .slice (some ⟨g, 0, none⟩) (S.length + 1) c, by omega, by go_num, ?_, fun b hb => ?_, HB.out.setCell (by simp) _⟩
        · rw [← e]
          refine TwoV.mk0 (by decide) HBL.out (by simpa using HO.out) HO2.out (fun k h1 h2 => ?_)
          have e1 : g = k := by injection h1
          have e2 : w.heap.size = k := by injection h2
          omega
        · have e1 : g = b := by injection hb
          omega
      case measure => simp [intOf]; try omega
    · obtain rfl : k = d := by omega
      have T0 := Lib.hid ht; have HV := Lib.hid hv; have HN := Lib.hid hnw
      clear ht hv hnw
      go_wp2
      go_ret2
      refine ⟨_, rfl, ⟨_, _, T0.out, by omega, HV.out, fun b hb => ?_⟩, HN.out⟩
      have e1 : w.heap.size = b := by injection hb
      omega
end Go.Proofs.Ytbofjdckmkifaaa
