/-
  The walk of the law's live: what the slab is shown to do at one example. No condition.
-/
import Derived.Test.YtbofjdckmkifaaaUni
import Derived.Test.YtbofjdckmkifaaaMem2
import Derived.Test.YtbofjdckmkifaaaProg13a
namespace Go.Proofs.Ytbofjdckmkifaaa
open Go.RowKit

/-- two rows that are laid one behind the other -/
theorem ir_lit2 (w : World) (t : TypeId) (xs ys : List Int) : IR .i64 ((w.alloc (.cells (iv .i64 xs).toArray t)).alloc (.cells (iv .i64 ys).toArray t)) (some ⟨w.heap.size, 0, none⟩) xs ∧
    IR .i64 ((w.alloc (.cells (iv .i64 xs).toArray t)).alloc (.cells (iv .i64 ys).toArray t)) (some ⟨w.heap.size + 1, 0, none⟩) ys := by
  refine ⟨(IR_of_blk (blk_new w _)).nw (nw_alloc _ _), ?_⟩
  have h := IR_of_blk (k := .i64) (xs := ys) (blk_new (w.alloc (.cells (iv .i64 xs).toArray t)) (.cells (iv .i64 ys).toArray t))
  rw [World.size_alloc] at h; exact h
theorem ir_lit (w : World) (t : TypeId) (xs : List Int) : IR .i64 (w.alloc (.cells (iv .i64 xs).toArray t)) (some ⟨w.heap.size, 0, none⟩) xs := IR_of_blk (blk_new w _)

theorem seenX {F : Nat → Prop} {w : World} {b : Nat} {sz cs low high : List Int} {al ah : Option Addr} {cl ch : Nat} (hwf : Wf sz cs) (hv : Vok cs) (h : Two 77 F w b sz cs) (r1 : IR .i64 w al low) (r2 : IR .i64 w ah high) {X : List Int} {code : Int} (hX : seenL sz cs low high = X) (hc : fillE sz low high = code) :
    Calls Try.prog 27 #[.pointer (some ⟨b, 0, none⟩), .slice al low.length cl, .slice ah high.length ch] w fun e w' =>
      ∃ a c, e = .returned (.tuple #[.slice a X.length c, .int .i64 code]) ∧ IR .i64 w' a X ∧ (∀ d, a = some d → w.heap.size ≤ d.block) ∧ Nw w w' := by
  subst hX; subst hc; exact seenP hwf hv h r1 r2
theorem vok_of (cs : List Int) (h : cs.all (fun x => (Lit.int .i64 x).wf) = true) : Vok cs := by
  intro k
  by_cases hk : k < cs.length
  · rw [rd_eq, List.getElem?_eq_getElem hk]; exact List.all_eq_true.1 h _ (List.getElem_mem hk)
  · rw [rd_nil _ _ (by omega)]; exact wf0
theorem wf_of (sz cs : List Int) (h : ofB sz cs = true) : Wf sz cs := ofB_wf h
set_option maxRecDepth 100000 in
set_option maxHeartbeats 2000000 in
theorem live_true (w : World) : Calls Try.prog 16 #[] w fun e w' => e = .returned (.bool true) ∧ Nw w w' := by
  have h1 := Lib.hid (ofP_yes ((w.alloc (.cells (iv .i64 [2, 2]).toArray 3)).alloc (.cells (iv .i64 [1, 2, 3, 4]).toArray 3)) [2, 2] [1, 2, 3, 4] (some ⟨w.heap.size, 0, none⟩) (some ⟨w.heap.size + 1, 0, none⟩) 2 4
    ((ir_lit w _ _).nw (nw_alloc _ _)) (by have := ir_lit (w.alloc (.cells (iv .i64 [2, 2]).toArray 3)) 3 [1, 2, 3, 4]; rw [World.size_alloc] at this; exact this) (by decide))
  go_enter Try.func16, Try.ntmps16
  go_wp2_with fail
  refine h1.out.mono ?_; rintro e w1 ⟨g1, rfl, t1, n1⟩
  have n01 := nw_trans (nw_trans (nw_alloc w (.cells (iv .i64 [2, 2]).toArray 3)) (nw_alloc _ (.cells (iv .i64 [1, 2, 3, 4]).toArray 3))) n1
  have t1 := t1.mono (G := fun k => w.heap.size ≤ k ∧ k < w1.heap.size) (fun k hk hlt => ⟨by simp at hk; omega, hlt⟩)
  have T1 := Lib.hid t1; have N01 := Lib.hid n01
  clear t1 n1 n01 h1
  have h2 := Lib.hid (ofP_no ((w1.alloc (.cells (iv .i64 [2, 2]).toArray 3)).alloc (.cells (iv .i64 [1, 2, 3]).toArray 3)) [2, 2] [1, 2, 3] (some ⟨w1.heap.size, 0, none⟩) (some ⟨w1.heap.size + 1, 0, none⟩) 2 3
    (by decide) (by decide) (ir_lit2 _ _ _ _).1 (by decide))
  go_wp2_with fail
  refine h2.out.mono ?_; rintro e w2 ⟨rfl, hw2⟩
  have n12 : Nw w1 w2 := by rw [hw2]; exact nw_trans (nw_alloc _ _) (nw_alloc _ _)
  have N12 := Lib.hid n12; clear hw2 n12 h2
  go_wp2_with fail
  refine (newP_yes w2 3 7 (by omega) (by omega)).mono ?_; rintro e w3 ⟨g5, rfl, t5, n23⟩
  have hp := Pair.mk2 (w0 := w) (W1 := w2) (W := w3) ((T1.out.nw N12.out).mono (fun k hk _ => hk.1)) (nw_trans N01.out N12.out) t5 n23
  have HP := Lib.hid hp
  clear hp t5 n23
  have hg := growP (wf_of [2, 2] [1, 2, 3, 4] (by decide)) HP.out.one 1 0
  rw [show growE [2, 2] [1, 2, 3, 4] 1 0 = 0 by decide, show grow2 [2, 2] [1, 2, 3, 4] 1 0 = ([2, 3], [1, 1, 2, 3, 3, 4]) by decide] at hg
  have HG := Lib.hid hg; clear hg
  go_wp2_with fail
  refine HG.out.mono ?_; rintro e w4 ⟨rfl, ht, hk⟩
  have hp := HP.out.left ht hk
  clear HP ht hk HG
  have HP := Lib.hid hp; clear hp
  have hc := cellsP _ w4 g1 [2, 3] [1, 1, 2, 3, 3, 4] (wf_of [2, 3] [1, 1, 2, 3, 3, 4] (by decide)) HP.out.one
  have HC := Lib.hid hc; clear hc
  go_wp2_with fail
  refine HC.out.mono ?_; rintro e w5 ⟨a5, c5, rfl, ho, _, hn⟩
  have hir := (own_rd ho).nw (nw_alloc w5 (.cells (iv .i64 [1, 1, 2, 3, 3, 4]).toArray 3))
  have hi := intsP _ _ (some ⟨w5.heap.size, 0, none⟩) c5 6 [1, 1, 2, 3, 3, 4] [1, 1, 2, 3, 3, 4] (by decide) (by decide) hir (ir_lit w5 _ _)
  have HI := Lib.hid hi
  have hp := HP.out.kept hn
  clear HP HC hi hir ho hn
  have HP := Lib.hid hp; clear hp
  go_wp2_with fail
  refine HI.out.mono ?_; rintro e w6 ⟨rfl, n6, hw6⟩
  simp only [decide_true]
  have hp := HP.out.kept (W' := w6) (by rw [hw6]; exact nw_trans (nw_alloc _ _) (nw_drewN _ _))
  clear HP HI hw6
  have HG := Lib.hid (getP _ _ g1 [2, 3] [1, 1, 2, 3, 3, 4] [1, 2] (some ⟨w6.heap.size, 0, none⟩) 2 (wf_of [2, 3] [1, 1, 2, 3, 3, 4] (by decide)) (hp.one.nw (nw_alloc w6 (.cells (iv .i64 [1, 2]).toArray 3))) (ir_lit w6 _ _))
  have hp := hp.kept (nw_alloc w6 (.cells (iv .i64 [1, 2]).toArray 3))
  have HP := Lib.hid hp; clear hp
  go_wp2_with fail
  refine HG.out.mono ?_; rintro e w7 ⟨rfl, rfl⟩
  rw [show getV [2, 3] [1, 1, 2, 3, 3, 4] [1, 2] = 4 by decide, show placeE [2, 3] [1, 2] = 0 by decide]
  clear HG
  have hg := shrinkP (wf_of [2, 3] [1, 1, 2, 3, 3, 4] (by decide)) HP.out.one 1 1
  rw [show shrE [2, 3] [1, 1, 2, 3, 3, 4] 1 1 = 1 by decide, show shr2 [2, 3] [1, 1, 2, 3, 3, 4] 1 1 = ([2, 3], [1, 1, 2, 3, 3, 4]) by decide] at hg
  have HG := Lib.hid hg; clear hg
  go_wp2_with fail
  refine HG.out.mono ?_; rintro e w8 ⟨rfl, ht, hk⟩
  have hp := HP.out.left ht hk
  clear HP ht hk HG
  have hg := shrinkP (wf_of [2, 3] [1, 1, 2, 3, 3, 4] (by decide)) hp.one 1 0
  rw [show shrE [2, 3] [1, 1, 2, 3, 3, 4] 1 0 = 0 by decide, show shr2 [2, 3] [1, 1, 2, 3, 3, 4] 1 0 = ([2, 2], [1, 2, 3, 4]) by decide] at hg
  have HG := Lib.hid hg; have HP := Lib.hid hp; clear hg hp
  go_wp2_with fail
  refine HG.out.mono ?_; rintro e w9 ⟨rfl, ht, hk⟩
  have hp := HP.out.left ht hk
  clear HP ht hk HG
  have hl := ir_lit2 w9 3 [0, 0] [1, 0]
  have hp := hp.kept (nw_trans (nw_alloc w9 (.cells (iv .i64 [0, 0]).toArray 3)) (nw_alloc _ (.cells (iv .i64 [1, 0]).toArray 3)))
  have HP := Lib.hid hp; clear hp
  have hg := fillP (cl := 2) (ch := 2) (wf_of [2, 2] [1, 2, 3, 4] (by decide)) HP.out.one hl.1 hl.2 (fun _ d hd h => by cases hd; exact absurd h.2 (Nat.lt_irrefl _)) (fun _ d hd h => by cases hd; exact absurd h.2 (by show ¬ (w9.heap.size + 1 < w9.heap.size); omega)) 9
  rw [show fillE [2, 2] [0, 0] [1, 0] = 0 by decide, show fill2 [2, 2] [1, 2, 3, 4] [0, 0] [1, 0] 9 = ([2, 2], [9, 2, 9, 4]) by decide] at hg
  have HG := Lib.hid hg
  clear hg hl
  go_wp2_with fail
  refine HG.out.mono ?_; rintro e w10 ⟨rfl, ht, hk⟩
  have hp := HP.out.left ht hk
  clear HP ht hk HG
  have hl := ir_lit2 w10 3 [0, 0] [1, 1]
  have hp := hp.kept (nw_trans (nw_alloc w10 (.cells (iv .i64 [0, 0]).toArray 3)) (nw_alloc _ (.cells (iv .i64 [1, 1]).toArray 3)))
  have HP := Lib.hid hp; clear hp
  have hg := seenX (cl := 2) (ch := 2) (wf_of [2, 2] [9, 2, 9, 4] (by decide)) (vok_of [9, 2, 9, 4] (by decide)) HP.out.one hl.1 hl.2 (X := [9, 2, 4]) (code := 0) (by decide) (by decide)
  have HG := Lib.hid hg
  clear hg hl
  go_wp2_with fail
  refine HG.out.mono ?_; rintro e w11 ⟨asn, cas, rfl, hsn, -, hn⟩
  have hp := (HP.out.kept hn).kept (nw_alloc w11 (.cells (iv .i64 [1, 0]).toArray 3))
  have hpl := placeP _ _ g1 [2, 2] [9, 2, 9, 4] [1, 0] (some ⟨w11.heap.size, 0, none⟩) 2 (wf_of [2, 2] [9, 2, 9, 4] (by decide)) hp.one (ir_lit w11 _ _)
  rw [show placeV [2, 2] [1, 0] = 2 by decide, show placeE [2, 2] [1, 0] = 0 by decide] at hpl
  have hsn := hsn.nw (nw_alloc w11 (.cells (iv .i64 [1, 0]).toArray 3))
  clear HG HP
  have HG := Lib.hid hpl; have HP := Lib.hid hp; have HSN := Lib.hid hsn
  clear hpl hp hsn hn
  go_wp2_with fail
  refine HG.out.mono ?_; rintro e w12 ⟨rfl, rfl⟩
  clear HG
  have hsn := HSN.out.nw (nw_alloc _ (.cells (iv .i64 [9, 2, 4]).toArray 3))
  have hi := intsP _ asn (some ⟨(w11.alloc (.cells (iv .i64 [1, 0]).toArray 3)).heap.size, 0, none⟩) cas 3 [9, 2, 4] [9, 2, 4] (by decide) (by decide) hsn (ir_lit _ _ _)
  rw [World.size_alloc] at hi
  have HI := Lib.hid hi
  clear hi hsn
  go_wp2_with fail
  refine HI.out.mono ?_; rintro e w13 ⟨rfl, n13, hw13⟩
  simp only [decide_true]
  have hp := HP.out.kept (W' := w13) (by rw [hw13]; exact nw_trans (nw_alloc _ _) (nw_drewN _ _))
  clear HP HI hw13 HSN
  have HC := Lib.hid (sizesP _ w13 g1 [2, 2] [9, 2, 9, 4] (wf_of [2, 2] [9, 2, 9, 4] (by decide)) hp.one)
  have HP := Lib.hid hp; clear hp
  go_wp2_with fail
  refine HC.out.mono ?_; rintro e w14 ⟨a14, c14, rfl, ho, _, hn⟩
  have hi := intsP _ _ (some ⟨w14.heap.size, 0, none⟩) c14 2 [2, 2] [2, 2] (by decide) (by decide) ((own_rd ho).nw (nw_alloc w14 (.cells (iv .i64 [2, 2]).toArray 3))) (ir_lit w14 _ _)
  have HI := Lib.hid hi
  have hp := HP.out.kept hn
  clear HP HC hi ho hn
  have HP := Lib.hid hp; clear hp
  go_wp2_with fail
  refine HI.out.mono ?_; rintro e w15 ⟨rfl, n15, hw15⟩
  simp only [decide_true]
  have hp := HP.out.kept (W' := w15) (by rw [hw15]; exact nw_trans (nw_alloc _ _) (nw_drewN _ _))
  clear HP HI hw15
  have HC := Lib.hid (cellsP _ w15 g5 (List.replicate 3 1) [7] (wf_of (List.replicate 3 1) [7] (by decide)) hp.two)
  have HP := Lib.hid hp; clear hp
  go_wp2_with fail
  refine HC.out.mono ?_; rintro e w16 ⟨a16, c16, rfl, ho, _, hn⟩
  have hi := intsP _ _ (some ⟨w16.heap.size, 0, none⟩) c16 1 [7] [7] (by decide) (by decide) ((own_rd ho).nw (nw_alloc w16 (.cells (iv .i64 [7]).toArray 3))) (ir_lit w16 _ _)
  have HI := Lib.hid hi
  have hp := HP.out.kept hn
  clear HP HC hi ho hn
  have HP := Lib.hid hp; clear hp
  go_wp2_with fail
  refine HI.out.mono ?_; rintro e w17 ⟨rfl, n17, hw17⟩
  simp only [decide_true]
  have hp := HP.out.kept (W' := w17) (by rw [hw17]; exact nw_trans (nw_alloc _ _) (nw_drewN _ _))
  clear HP HI hw17
  have HN := Lib.hid hp.nw; clear hp
  go_wp2
  go_ret
  exact ⟨rfl, HN.out⟩
end Go.Proofs.Ytbofjdckmkifaaa
