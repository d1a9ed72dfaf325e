/-
  The walk of slices.Repeat of one number. Conditions: not too many.
-/
import Derived.Test.YtbofjdckmkifaaaP13a
import Derived.Deep.RegionLaw
import Derived.Laws.CopyOwn
namespace Go.Proofs.Ytbofjdckmkifaaa
open Go.RowKit

def repL (d k : Nat) (X Z : Value) : List Value := List.replicate k X ++ List.replicate (d - k) Z
theorem repL_step (d k m : Nat) (X Z : Value) (h : k + m ≤ d) : splice (repL d k X Z) k (List.replicate m X) = repL d (k + m) X Z := by
  unfold splice repL
  rw [List.take_append_of_le_length (by simp), List.take_of_length_le (by simp), List.length_replicate, List.drop_append, List.drop_eq_nil_of_le (by simp)]
  simp only [List.length_replicate, List.nil_append]
  rw [List.drop_replicate, show k + m - k = m by omega, show d - k - m = d - (k + m) by omega, ← List.append_assoc, ← List.replicate_append_replicate]
theorem repL_len (d k : Nat) (X Z : Value) (h : k ≤ d) : (repL d k X Z).length = d := by simp [repL]; omega
theorem repL_get (d k j : Nat) (X Z : Value) (h : j < k) : (repL d k X Z)[j]? = some X := by
  unfold repL; rw [List.getElem?_append_left (by simpa using h)]; simp [h]

theorem infoS : (Try.prog.info? 3).map (·.size) = some 1 := by kernel_rfl
theorem mulI (w : World) (d : Nat) (hd : d ≤ 1000000) : Calls Try.prog 70 #[.int .u64 1, .int .u64 (d : Int)] w fun e w' => e = .returned (.tuple #[.int .u64 0, .int .u64 (d : Int)]) ∧ w = w' := by
  refine (Try.bits_Mul 1 d (by omega) (by omega) w).mono fun e w' ⟨he, hw⟩ => ⟨?_, hw.symm⟩
  rw [he, show 1 * d / 18446744073709551616 = 0 by omega, show 1 * d % 18446744073709551616 = d by omega]
  rfl

set_option maxRecDepth 100000 in
set_option maxHeartbeats 600000 in
theorem repeatI (w : World) (b o c : Nat) (x : Int) (d : Nat) (h1 : 1 ≤ d) (hd : d ≤ 1000000) (hx : w.cell? ⟨b, o, none⟩ = some (.int .i64 x)) :
    Calls Try.prog 45 #[.slice (some ⟨b, o, none⟩) 1 c, .int .i64 (d : Int)] w fun e w' => ∃ g, e = .returned (.slice (some ⟨g, 0, none⟩) d d) ∧ w.heap.size ≤ g ∧
      w'.heap[g]? = some (.cells (iv .i64 (List.replicate d x)).toArray 3 (0, 0)) ∧ Nw w w' := by
  have hmk := run_mk 30 3 .i64 8 Try.underlying30 infoI (by omega) d (by omega)
  have q1 : decide ((d : Int) < 0) = false := by simp
  have q2 : decide ((9223372036854775807 : Int) < (d : Int)) = false := by simp; omega
  have q3 : decide ((d : Int) > 9223372036854775807) = false := by simp; omega
  go_enter Try.func45, Try.ntmps45
  have hblk0 : (w.alloc (.cells (iv .i64 (List.replicate d 0)).toArray 3)).heap[w.heap.size]? = some (.cells (repL d 0 (.int .i64 x) (.int .i64 0)).toArray 3 (0, 0)) := by
    rw [show repL d 0 (.int .i64 x) (.int .i64 0) = iv .i64 (List.replicate d 0) by simp [repL, iv]]; exact blk_new _ _
  have hx1 : (w.alloc (.cells (iv .i64 (List.replicate d 0)).toArray 3)).cell? ⟨b, o, none⟩ = some (.int .i64 x) := nw_cell (nw_alloc _ _) hx
  have H0 := Lib.hid hblk0; have HX := Lib.hid hx1
  clear hblk0 hx1 hx
  go_wp2_with (first | (go_at_call 70; refine (mulI w d hd).mono ?_; rintro e w' ⟨rfl, rfl⟩) | (with_reducible refine wpList_copy_splice rfl (.tmp 31) (.tmp 32) 30 30 rfl 3 Try.underlying30 infoS (some ⟨w.heap.size, 0, none⟩) (some ⟨b, o, none⟩) d d 1 c rfl rfl w.heap.size 0 _ _ H0.out [.int .i64 x] ?_ ?_ ?_ ?_ w.heap.size w (nw_alloc _ _) (Nat.le_refl _) ?_))
  · show 1 = min 1 d; omega
  · intro j v hv
    have hj : j = 0 := by have := (List.getElem?_eq_some_iff.1 hv).1; simpa using this
    subst hj
    rw [Nat.add_zero, HX.out]; simpa using hv
  · simp [repL]; omega
  · intro v hv; simp at hv; subst hv; rfl
  · intro w2 hg2 hn2
    have e1 := repL_step d 0 1 (.int .i64 x) (.int .i64 0) (by omega)
    simp only [List.replicate_one, Nat.zero_add] at e1
    rw [e1] at hg2
    have G2 := Lib.hid hg2.out; have N2 := Lib.hid hn2
    clear hg2 hn2 e1 H0 HX hmk q1 q2 q3
    go_wp2
    go_loopw [8] (fun i wr => ∃ k : Nat, 1 ≤ k ∧ k ≤ d ∧ i = .int .i64 k ∧ Hid (wr.heap[w.heap.size]? = some (.cells (repL d k (.int .i64 x) (.int .i64 0)).toArray 3 (0, 0))) ∧ Hid (Nw w wr)) (fun i _ => d - (intOf i).toNat)
    case atStart => exact ⟨1, Nat.le_refl _, h1, rfl, G2, N2⟩
    case round =>
      obtain ⟨k, hk1, hk, rfl, G, N⟩ := hrel
      by_cases hlt : k < d
      · have hne : ¬ d = k := by omega
        obtain ⟨m, hm⟩ : ∃ m, m = min (d - k) k := ⟨_, rfl⟩
        have hm1 : k + m ≤ d := by omega
        have hm2 : m ≤ k := by omega
        have hm3 : 0 < m := by omega
        have hmin : (List.replicate m (Value.int .i64 x)).length = Nat.min k (d - k) := by simp; rw [hm]; exact Nat.min_comm _ _
        have HM := Lib.hid hmin
        have g' : wr.drew.heap[w.heap.size]? = some (.cells (repL d k (.int .i64 x) (.int .i64 0)).toArray 3 (0, 0)) := G.out
        have G' := Lib.hid g'
        have N' := Lib.hid (Below.drew N.out)
        have hq : 0 < (List.replicate m (Value.int .i64 x)).length → ∃ ad, (some (⟨w.heap.size, 0, none⟩ : Addr)) = some ad ∧ ∀ j v, (List.replicate m (Value.int .i64 x))[j]? = some v → wr.drew.cell? (ad.add j) = some v := by
          intro _
          refine ⟨_, rfl, fun j v hv => ?_⟩
          have hj : j < m := by have := (List.getElem?_eq_some_iff.1 hv).1; simpa using this
          have hv' : Value.int .i64 x = v := by simpa [hj] using hv
          rw [Addr.add_lit, Nat.zero_add, blk_cell g', ← hv']
          simpa using repL_get d k j (.int .i64 x) (.int .i64 0) (by omega)
        have hf : k + (List.replicate m (Value.int .i64 x)).length ≤ (repL d k (.int .i64 x) (.int .i64 0)).length := by rw [repL_len _ _ _ _ hk]; simp; omega
        have hvv : ∀ v ∈ List.replicate m (Value.int .i64 x), v.oneCell' = true := fun v hv => by rw [(List.mem_replicate.1 hv).2]; rfl
        have HQ := Lib.hid hq; have HF := Lib.hid hf; have HV := Lib.hid hvv
        have hwr : IntKind.i64.wrap ((k : Int) + (m : Int)) = (k : Int) + (m : Int) := IntWalk.i64_in _ (by omega)
        clear hm hmin g' hq hf hvv
        go_wp2
        go_region_law (refine step_copy_splice ?_ (.tmp 41) (.tmp 44) 30 30 ?_ 3 Try.underlying30 infoS (some ⟨w.heap.size, k, none⟩) (some ⟨w.heap.size, 0, none⟩) (d - k) (d - k) k d ?_ ?_ w.heap.size k (repL d k (.int .i64 x) (.int .i64 0)) 3 ?_ (List.replicate m (.int .i64 x)) ?_ ?_ ?_ ?_ w.heap.size w ?_ ?_ ?_; exact rfl; exact rfl; (go_simp); (go_simp); exact G'.out; exact HM.out; exact fun h => ⟨rfl, HQ.out h⟩; exact HF.out; exact HV.out; exact N'.out; exact Nat.le_refl _; intro w4 hg4 hn4)
        rw [repL_step d k m _ _ hm1] at hg4
        have G4 := Lib.hid hg4.out; have N4 := Lib.hid hn4
        have HWR := Lib.hid hwr
        clear hwr hg4 hn4 HQ HF HV HM G' N' G N
        go_wp2
        go_roundw
        case rel =>
          (repeat apply Exists.intro)
          exact ⟨⟨k + m, by omega, by omega, by first | go_num | (show Value.int .i64 (IntKind.i64.wrap ((k : Int) + (m : Int))) = _; rw [HWR.out]; go_num), G4, N4⟩, rfl⟩
        case measure => have hwr := HWR.out; simp [intOf, Act.put, hwr]; try omega
      · obtain rfl : k = d := by omega
        go_wp2
        go_ret
        refine ⟨w.heap.size, rfl, Nat.le_refl _, ?_, N.out⟩
        have := G.out
        rw [this]; simp [repL, iv]
end Go.Proofs.Ytbofjdckmkifaaa
