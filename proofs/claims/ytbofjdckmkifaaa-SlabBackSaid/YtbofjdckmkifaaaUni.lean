/-
  One contract for each of the slab's calls, of the program and of its reference, whatever is asked. Conditions: the slab is one that may be.
-/
import Derived.Test.YtbofjdckmkifaaaProg13b
import Derived.Test.YtbofjdckmkifaaaRef13
import Derived.Test.YtbofjdckmkifaaaPlain13
namespace Go.Proofs.Ytbofjdckmkifaaa
open Go.RowKit

def grow2 (sz cs : List Int) (a i : Int) : List Int × List Int := if growE sz cs a i = 0 then (growS sz a.toNat, growC sz cs a.toNat i) else (sz, cs)
def shr2 (sz cs : List Int) (a i : Int) : List Int × List Int := if shrE sz cs a i = 0 then (shrS sz a.toNat, shrT sz cs a.toNat i cs.length) else (sz, cs)
def fillE (sz low high : List Int) : Int := if mayB sz low high then 0 else 1
def fill2 (sz cs low high : List Int) (n : Int) : List Int × List Int := (sz, if mayB sz low high then fillL sz cs low high n else cs)
/-- what a call that turns the slab leaves behind -/
def Turned (T : TypeId) (F : Nat → Prop) (w : World) (b : Nat) (code : Int) (p : List Int × List Int) : Ending → World → Prop := fun e w' =>
  e = .returned (.int .i64 code) ∧ Two T (fun k => F k ∨ w.heap.size ≤ k) w' b p.1 p.2 ∧ Kp F w w'
section
variable {F : Nat → Prop} {w w' : World} {b : Nat} {sz cs low high : List Int}
theorem turned_nw {T : TypeId} (h : Two T F w b sz cs) (hn : Nw w w') (code : Int) : Turned T F w b code (sz, cs) (.returned (.int .i64 code)) w' :=
  ⟨rfl, (h.nw hn).mono (fun _ hk _ => .inl hk), kp_of_nw hn F⟩
theorem growBad_nat {a i : Int} (h : growBad sz a i = false) : ∃ a' i' : Nat, a = a' ∧ i = i' ∧ a' < sz.length ∧ (i' : Int) < rd sz a' := by
  simp only [growBad, Bool.or_eq_false_iff, decide_eq_false_iff_not] at h
  obtain ⟨a', rfl⟩ := Int.eq_ofNat_of_zero_le (show 0 ≤ a by omega)
  obtain ⟨i', rfl⟩ := Int.eq_ofNat_of_zero_le (show 0 ≤ i by omega)
  exact ⟨a', i', rfl, rfl, by omega, by have := h.2.2.2; simp at this; omega⟩
theorem shrBad_nat {a i : Int} (h : shrBad sz a i = false) : ∃ a' i' : Nat, a = a' ∧ i = i' ∧ a' < sz.length ∧ (i' : Int) < rd sz a' - 1 := by
  simp only [shrBad, Bool.or_eq_false_iff, decide_eq_false_iff_not] at h
  obtain ⟨a', rfl⟩ := Int.eq_ofNat_of_zero_le (show 0 ≤ a by omega)
  obtain ⟨i', rfl⟩ := Int.eq_ofNat_of_zero_le (show 0 ≤ i by omega)
  exact ⟨a', i', rfl, rfl, by omega, by have := h.2.2.2; simp at this; omega⟩
theorem grow2_wf (hwf : Wf sz cs) (a i : Int) : Wf (grow2 sz cs a i).1 (grow2 sz cs a i).2 := by
  unfold grow2; split
  · rename_i h
    simp only [growE] at h
    cases hb : growBad sz a i with
    | true => simp [hb] at h
    | false =>
      obtain ⟨a', i', rfl, rfl, ha, hi⟩ := growBad_nat hb
      simp [hb] at h
      exact grow_wf hwf ha h (by simp [growC])
  · exact hwf
theorem shr2_wf (hwf : Wf sz cs) (a i : Int) : Wf (shr2 sz cs a i).1 (shr2 sz cs a i).2 := by
  unfold shr2; split
  · rename_i h
    simp only [shrE] at h
    cases hb : shrBad sz a i with
    | true => simp [hb] at h
    | false =>
      obtain ⟨a', i', rfl, rfl, ha, hi⟩ := shrBad_nat hb
      exact shr_wf hwf ha hi
  · exact hwf
theorem grow2_vok (h : Vok cs) (a i : Int) : Vok (grow2 sz cs a i).2 := by unfold grow2; split; exact vok_grow h; exact h
theorem shr2_vok (h : Vok cs) (a i : Int) : Vok (shr2 sz cs a i).2 := by unfold shr2; split; exact vok_shr h _; exact h
theorem growP (hwf : Wf sz cs) (h : Two 77 F w b sz cs) (a i : Int) :
    Calls Try.prog 17 #[.pointer (some ⟨b, 0, none⟩), .int .i64 a, .int .i64 i] w (Turned 77 F w b (growE sz cs a i) (grow2 sz cs a i)) := by
  cases hb : growBad sz a i with
  | true =>
    have e : growE sz cs a i = 1 := by simp [growE, hb]
    refine (growP_bad F w b sz cs a i hwf h hb).mono ?_; rintro _ w' ⟨rfl, hn⟩
    rw [grow2, e]; exact turned_nw h hn 1
  | false =>
    obtain ⟨a', i', rfl, rfl, ha, hi⟩ := growBad_nat hb
    by_cases hN : (growN sz cs a' : Int) ≤ 4096
    · have e : growE sz cs a' i' = 0 := by simp [growE, hb]; omega
      refine (growP_ok F w b sz cs a' i' hwf h hb hN).mono ?_; rintro _ w' ⟨rfl, ht, hk⟩
      rw [grow2, e]; exact ⟨rfl, ht, hk⟩
    · have e : growE sz cs a' i' = 4 := by simp [growE, hb]; omega
      refine (growP_lim F w b sz cs a' i' hwf h hb (by omega)).mono ?_; rintro _ w' ⟨rfl, hn⟩
      rw [grow2, e]; exact turned_nw h hn 4
theorem grow13 {b : Nat} (hwf : Wf sz cs) (h : Two 32 F w b sz cs) (a i : Int) :
    Calls Try.prog 18 #[.pointer (some ⟨b, 0, none⟩), .int .i64 a, .int .i64 i] w (Turned 32 F w b (growE sz cs a i) (grow2 sz cs a i)) := by
  cases hb : growBad sz a i with
  | true =>
    have e : growE sz cs a i = 1 := by simp [growE, hb]
    refine (grow13_bad F w b sz cs a i hwf h hb).mono ?_; rintro _ w' ⟨rfl, rfl⟩
    rw [grow2, e]; exact turned_nw h (Below.refl _ w) 1
  | false =>
    obtain ⟨a', i', rfl, rfl, ha, hi⟩ := growBad_nat hb
    by_cases hN : (growN sz cs a' : Int) ≤ 4096
    · have e : growE sz cs a' i' = 0 := by simp [growE, hb]; omega
      refine (grow13_ok F w b sz cs a' i' hwf h hb hN).mono ?_; rintro _ w' ⟨rfl, ht, hk⟩
      rw [grow2, e]; exact ⟨rfl, ht, hk⟩
    · have e : growE sz cs a' i' = 4 := by simp [growE, hb]; omega
      refine (grow13_lim F w b sz cs a' i' hwf h hb (by omega)).mono ?_; rintro _ w' ⟨rfl, n, rfl⟩
      rw [grow2, e]; exact turned_nw h (nw_drewN _ _) 4
theorem shrinkP (hwf : Wf sz cs) (h : Two 77 F w b sz cs) (a i : Int) :
    Calls Try.prog 19 #[.pointer (some ⟨b, 0, none⟩), .int .i64 a, .int .i64 i] w (Turned 77 F w b (shrE sz cs a i) (shr2 sz cs a i)) := by
  cases hb : shrBad sz a i with
  | true =>
    have e : shrE sz cs a i = 1 := by simp [shrE, hb]
    refine (shrinkP_bad F w b sz cs a i hwf h hb).mono ?_; rintro _ w' ⟨rfl, hn⟩
    rw [shr2, e]; exact turned_nw h hn 1
  | false =>
    obtain ⟨a', i', rfl, rfl, ha, hi⟩ := shrBad_nat hb
    refine (shrinkP_go F w b sz cs a' i' hwf h hb).mono ?_
    rintro _ w' (⟨ho, rfl, ht, hk⟩ | ⟨ho, rfl, hn⟩)
    · have e : shrE sz cs a' i' = 0 := by simp [shrE, hb, ho]
      rw [shr2, e]; exact ⟨rfl, ht, hk⟩
    · have e : shrE sz cs a' i' = 1 := by simp [shrE, hb, ho]
      rw [shr2, e]; exact turned_nw h hn 1
theorem shrink13 (hwf : Wf sz cs) (h : Two 32 F w b sz cs) (a i : Int) :
    Calls Try.prog 20 #[.pointer (some ⟨b, 0, none⟩), .int .i64 a, .int .i64 i] w (Turned 32 F w b (shrE sz cs a i) (shr2 sz cs a i)) := by
  cases hb : shrBad sz a i with
  | true =>
    have e : shrE sz cs a i = 1 := by simp [shrE, hb]
    refine (shrink13_bad F w b sz cs a i hwf h hb).mono ?_; rintro _ w' ⟨rfl, rfl⟩
    rw [shr2, e]; exact turned_nw h (Below.refl _ w) 1
  | false =>
    obtain ⟨a', i', rfl, rfl, ha, hi⟩ := shrBad_nat hb
    refine (shrink13_go F w b sz cs a' i' hwf h hb).mono ?_
    rintro _ w' (⟨ho, rfl, ht, hk⟩ | ⟨ho, rfl, hn⟩)
    · have e : shrE sz cs a' i' = 0 := by simp [shrE, hb, ho]
      rw [shr2, e]; exact ⟨rfl, ht, hk⟩
    · have e : shrE sz cs a' i' = 1 := by simp [shrE, hb, ho]
      rw [shr2, e]; exact turned_nw h hn 1
variable {al ah : Option Addr} {cl ch : Nat}
theorem fillP (hwf : Wf sz cs) (h : Two 77 F w b sz cs) (r1 : IR .i64 w al low) (r2 : IR .i64 w ah high) (d1 : 0 < low.length → ∀ d, al = some d → ¬ F d.block) (d2 : 0 < high.length → ∀ d, ah = some d → ¬ F d.block) (n : Int) :
    Calls Try.prog 21 #[.pointer (some ⟨b, 0, none⟩), .slice al low.length cl, .slice ah high.length ch, .int .i64 n] w (Turned 77 F w b (fillE sz low high) (fill2 sz cs low high n)) := by
  cases hm : mayB sz low high with
  | true =>
    have hl := may_facts hm; have hlo := hwf.lo
    refine (fillP_yes F w b sz cs low high al ah cl ch n hwf h r1 r2 (d1 (by omega)) (d2 (by omega)) hm).mono ?_; rintro _ w' ⟨rfl, ht, hk⟩
    simp only [fillE, fill2, hm, if_true]
    exact ⟨rfl, ht.mono (fun _ hk _ => .inl hk), hk⟩
  | false =>
    refine (fillP_no F w b sz cs low high al ah cl ch n hwf h r1 r2 hm).mono ?_; rintro _ w' ⟨rfl, hn⟩
    simp only [fillE, fill2, hm]
    exact turned_nw h hn 1
theorem fill13u (hwf : Wf sz cs) (h : Two 32 F w b sz cs) (r1 : IR .i64 w al low) (r2 : IR .i64 w ah high) (d1 : 0 < low.length → ∀ d, al = some d → ¬ F d.block) (d2 : 0 < high.length → ∀ d, ah = some d → ¬ F d.block) (n : Int) :
    Calls Try.prog 22 #[.pointer (some ⟨b, 0, none⟩), .slice al low.length cl, .slice ah high.length ch, .int .i64 n] w (Turned 32 F w b (fillE sz low high) (fill2 sz cs low high n)) :=
  (fill13 F w b sz cs low high al ah cl ch n hwf h r1 r2 d1 d2).mono fun _ _ ⟨h1, ht, hk⟩ => ⟨h1, ht.mono (fun _ hk _ => .inl hk), hk⟩
theorem fill2_wf (hwf : Wf sz cs) (n : Int) : Wf (fill2 sz cs low high n).1 (fill2 sz cs low high n).2 := by
  unfold fill2; dsimp only; split
  · refine ⟨hwf.lo, hwf.hi, hwf.pos, ?_, ?_⟩
    · have := hwf.len; simpa [fillL, fillT] using this
    · have := hwf.most; simpa [fillL, fillT] using this
  · exact hwf
theorem fill2_vok (h : Vok cs) {n : Int} (hn : (Lit.int .i64 n).wf = true) : Vok (fill2 sz cs low high n).2 := by
  unfold fill2; dsimp only; split; exact vok_fill h hn; exact h
/-- what Seen tells -/
def Seen2 (w : World) (sz cs low high : List Int) : Ending → World → Prop := fun e w' =>
  ∃ a c, e = .returned (.tuple #[.slice a (seenL sz cs low high).length c, .int .i64 (fillE sz low high)]) ∧ IR .i64 w' a (seenL sz cs low high) ∧ (∀ d, a = some d → w.heap.size ≤ d.block) ∧ Nw w w'
theorem seenP (hwf : Wf sz cs) (hv : Vok cs) (h : Two 77 F w b sz cs) (r1 : IR .i64 w al low) (r2 : IR .i64 w ah high) :
    Calls Try.prog 27 #[.pointer (some ⟨b, 0, none⟩), .slice al low.length cl, .slice ah high.length ch] w (Seen2 w sz cs low high) := by
  cases hm : mayB sz low high with
  | true =>
    refine (seenP_yes F w b sz cs low high al ah cl ch hwf (fun k _ => hv k) h r1 r2 hm).mono ?_; rintro _ w' ⟨a, c, rfl, ho, hd, hn⟩
    simp only [Seen2, fillE, seenL, hm, if_true]
    exact ⟨a, c, rfl, own_rd ho, hd, hn⟩
  | false =>
    refine (seenP_no F w b sz cs low high al ah cl ch hwf h r1 r2 hm).mono ?_; rintro _ w' ⟨rfl, hn⟩
    simp only [Seen2, fillE, seenL, hm]
    exact ⟨none, 0, rfl, IR_nil _ _ _, fun d hd => (by cases hd), hn⟩
theorem seen13 (hwf : Wf sz cs) (h : Two 32 F w b sz cs) (r1 : IR .i64 w al low) (r2 : IR .i64 w ah high) :
    Calls Try.prog 28 #[.pointer (some ⟨b, 0, none⟩), .slice al low.length cl, .slice ah high.length ch] w (Seen2 w sz cs low high) := by
  cases hm : mayB sz low high with
  | true =>
    refine (seen13_yes F w b sz cs low high al ah cl ch hwf h r1 r2 hm).mono ?_; rintro _ w' ⟨a, c, rfl, ho, hd, hn⟩
    simp only [Seen2, fillE, seenL, hm, if_true]
    exact ⟨a, c, rfl, own_rd ho, hd, hn⟩
  | false =>
    refine (seen13_no w b sz low high al ah cl ch hm (Lib.hid (may13 F w b sz cs low high al ah cl ch hwf h r1 r2))).mono ?_; rintro _ w' ⟨rfl, hn⟩
    simp only [Seen2, fillE, seenL, hm]
    exact ⟨none, 0, rfl, IR_nil _ _ _, fun d hd => (by cases hd), hn⟩
end
end Go.Proofs.Ytbofjdckmkifaaa
