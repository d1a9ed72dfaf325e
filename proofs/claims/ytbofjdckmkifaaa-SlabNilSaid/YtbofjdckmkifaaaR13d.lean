/-
  The walks of the slab's reference: Seen. Conditions: the slab is one that may be.
-/
import Derived.Test.YtbofjdckmkifaaaR13b
import Derived.Test.YtbofjdckmkifaaaApp
namespace Go.Proofs.Ytbofjdckmkifaaa
open Go.RowKit

set_option maxHeartbeats 1000000 in
theorem seen13_no (w : World) (b : Nat) (sz low high : List Int) (a1 a2 : Option Addr) (c1 c2 : Nat) (e1 : mayB sz low high = false)
    (hm : Hid (Calls Try.prog 52 #[.pointer (some ⟨b, 0, none⟩), .slice a1 low.length c1, .slice a2 high.length c2] w fun e w' => e = .returned (.bool (mayB sz low high)) ∧ ∃ n, w' = w.drewN n)) :
    Calls Try.prog 28 #[.pointer (some ⟨b, 0, none⟩), .slice a1 low.length c1, .slice a2 high.length c2] w fun e w' =>
      e = .returned (.tuple #[.slice none 0 0, .int .i64 1]) ∧ Nw w w' := by
  rw [e1] at hm
  clear e1
  go_enter Try.func28, Try.ntmps28
  go_wp2_with fail
  refine hm.out.mono ?_; rintro e w' ⟨rfl, n1, rfl⟩
  clear hm
  go_wp2
  go_ret2
  exact ⟨rfl, nw_drewN _ _⟩

set_option maxHeartbeats 2000000 in
theorem seen13_yes (F : Nat → Prop) (w : World) (b : Nat) (sz cs low high : List Int) (a1 a2 : Option Addr) (c1 c2 : Nat) (hwf : Wf sz cs) (h : Two 32 F w b sz cs)
    (r1 : IR .i64 w a1 low) (r2 : IR .i64 w a2 high) (e1 : mayB sz low high = true) :
    Calls Try.prog 28 #[.pointer (some ⟨b, 0, none⟩), .slice a1 low.length c1, .slice a2 high.length c2] w fun e w' =>
      ∃ a c, e = .returned (.tuple #[.slice a (seenT sz cs low high cs.length).length c, .int .i64 0]) ∧ w'.ownsRow 0 3 1 (.slice a (seenT sz cs low high cs.length).length c) (seenT sz cs low high cs.length).length (iv .i64 (seenT sz cs low high cs.length)) ∧
        (∀ d, a = some d → w.heap.size ≤ d.block) ∧ Nw w w' := by
  have hm := Lib.hid (may13 F w b sz cs low high a1 a2 c1 c2 hwf h r1 r2)
  rw [e1] at hm
  have hl : low.length = sz.length ∧ high.length = sz.length := by simp [mayB, isCell] at e1; omega
  obtain ⟨vs, vc, ht, -⟩ := h
  have hc := ht.2.2.1
  obtain ⟨az, zc, rfl, hzc, hzm, hz, hzb⟩ := own_IR hc
  obtain ⟨g, oz, rfl, -⟩ := IR_some hz (by have := hwf.pos'; omega)
  obtain ⟨-, h0, hg, -, hglt⟩ := hzb _ rfl
  simp only at h0 hglt
  subst h0
  have hs := ht.2.1
  obtain ⟨asz, sc, rfl, hsc, hsm, hsz, hsb⟩ := own_IR hs
  have hlo := hwf.lo; have hhi := hwf.hi; have hmost := hwf.most
  have hwt : ∀ k, k < sz.length → 1 ≤ rd sz k ∧ rd sz k ≤ 4096 := fun k hk => hwf.size_le hk
  have q0 := ht.c0; have q1 := ht.c1
  have T0 := Lib.hid ht; have HL := Lib.hid hl; have HW := Lib.hid hwt; have E1 := Lib.hid e1
  clear ht hl hc hz hzb hs hsz hsb e1 hwt hg hwf
  go_enter Try.func28, Try.ntmps28
  go_wp2_with fail
  refine hm.out.mono ?_; rintro e w' ⟨rfl, n1, rfl⟩
  clear hm
  go_wp2
  go_loopw [8, 9] (fun v i wr => ∃ (k : Nat) (a : Option Addr) (c : Nat), k ≤ cs.length ∧ i = .int .i64 k ∧ v = .slice a (seenT sz cs low high k).length c ∧ wr.ownsRow 0 3 1 (.slice a (seenT sz cs low high k).length c) (seenT sz cs low high k).length (iv .i64 (seenT sz cs low high k)) ∧
    (∀ d, a = some d → w.heap.size ≤ d.block) ∧ Nw w wr) (fun _ i _ => cs.length - (intOf i).toNat)
  case atStart => exact ⟨0, none, 0, Nat.zero_le _, rfl, rfl, World.ownsRow_nil _ _ _ _, fun d hd => by (cases hd), nw_drewN _ _⟩
  case round =>
    clear q0 q1
    obtain ⟨k, a, c, hk, rfl, rfl, ho, had, hnw⟩ := hrel
    have ht := T0.out.nw hnw
    have q0 := ht.c0; have q1 := ht.c1
    have hsl := seenT_len sz cs low high k
    by_cases hlt : k < cs.length
    · have hz : IR .i64 wr asz sz := by obtain ⟨a, c, e, _, _, hi, _⟩ := own_IR ht.2.1; cases e; exact hi
      have hcell := Lib.hid (cell13 wr sz asz sc k (by omega) (by omega) hlo hhi HW.out hz)
      have HK := Lib.hid hnw; have HO := Lib.hid ho; have HA := Lib.hid had
      clear hnw hz ho ht had
      go_wp2_with fail
      refine hcell.out.mono ?_; rintro e w1 ⟨gc, rfl, hgc, hblk, hnw1⟩
      have hk1 := nw_trans HK.out hnw1
      have t1 := T0.out.nw hk1
      have hw := Lib.hid (within13 w1 (cellL sz k) low high (some ⟨gc, 0, none⟩) a1 a2 sz.length c1 c2 (by simp; omega) (by simp; omega) (by simpa using HL.out.1) (by simpa using HL.out.2) (IR_of_blk hblk) (r1.nw hk1) (r2.nw hk1))
      rw [cellL_length] at hw
      have p0 := t1.c0; have p1 := t1.c1
      have hval : w1.cell? ⟨g, k, none⟩ = some (.int .i64 (rd cs k)) := own_cell t1.2.2.1 hlt
      have ho1 := nw_own hnw1 HO.out
      have HO1 := Lib.hid ho1; have HK1 := Lib.hid hk1
      clear t1 hk1 hblk hnw1 q0 q1 HK ho1 HO hcell
      cases hh : withinB (cellL sz k) low high sz.length with
      | false =>
        rw [hh] at hw
        go_wp2_with fail
        refine hw.out.mono ?_; rintro e w2 ⟨rfl, n2, rfl⟩
        clear hw
        have HH := Lib.hid hh; clear hh
        go_wp2
        go_roundw
        case rel => exact ⟨k + 1, a, c, by omega, by go_num, by rw [seenT_miss HH.out], by rw [seenT_miss HH.out]; exact nw_own (nw_drewN _ _) HO1.out, HA.out, nw_trans HK1.out (nw_drewN _ _)⟩
        case measure => simp [intOf]; try omega
      | true =>
        rw [hh] at hw
        go_wp2_with fail
        refine hw.out.mono ?_; rintro e w2 ⟨rfl, n2, rfl⟩
        clear hw
        have HH := Lib.hid hh; clear hh
        obtain ⟨S, hS⟩ : ∃ S, S = seenT sz cs low high k := ⟨_, rfl⟩
        rw [← hS] at hsl ⊢
        have HS := Lib.hid hS; clear hS
        have hir : IR .i64 w1 a S := by
          have h1 := HO1.out
          rw [← HS.out] at h1
          obtain ⟨a', c', e, _, _, hi, _⟩ := own_IR h1; cases e; exact hi
        have HI := Lib.hid hir; clear hir
        go_wp2
        obtain ⟨wo, hwo⟩ : ∃ wo : World, wo = w1.drewN n2 := ⟨_, rfl⟩
        go_loopw [10, 11] (fun hb i wr => ∃ (m : Nat), m ≤ S.length ∧ i = .int .i64 m ∧ hb = .bool (decide (rd cs k ∈ S.take m)) ∧ ∃ nq, wr = w1.drewN nq) (fun _ i _ => S.length - (intOf i).toNat)
        case atStart => exact ⟨0, Nat.zero_le _, rfl, by simp, _, rfl⟩
        case round =>
          obtain ⟨m, hm, rfl, rfl, nq, rfl⟩ := hrel
          by_cases hml : m < S.length
          · obtain ⟨b', o', rfl, hcm⟩ := HI.out m hml
            have hst := mem_take_succ S m hml (rd cs k)
            by_cases hin : rd cs k ∈ S.take m
            · have hd : decide (rd cs k ∈ S.take m) = true := by simpa using hin
              have hd2 : decide (rd cs k ∈ S.take (m + 1)) = true := by simpa using hst.2 (.inl hin)
              rw [hd]
              have HD := Lib.hid hd2
              clear hd hd2 hst hin hcm
              go_wp2
              go_quiet (fail)
              go_wp2
              go_roundw
              case rel => exact ⟨m + 1, by omega, by go_num, by rw [HD.out], by first | exact ⟨_, rfl⟩ | exact ⟨_, World.drewN_drewN _ _ _⟩⟩
              case measure => simp [intOf]; try omega
            · have hd : decide (rd cs k ∈ S.take m) = false := by simpa using hin
              have hd2 : decide (rd cs k ∈ S.take (m + 1)) = (rd S m == rd cs k) := by rw [Bool.eq_iff_iff]; simp [hst, hin]
              rw [hd]
              have HD := Lib.hid hd2
              clear hd hd2 hst hin
              go_wp2
              go_quiet (fail)
              go_wp2
              go_roundw
              case rel => exact ⟨m + 1, by omega, by go_num, by rw [HD.out], by first | exact ⟨_, rfl⟩ | exact ⟨_, World.drewN_drewN _ _ _⟩⟩
              case measure => simp [intOf]; try omega
          · obtain rfl : m = S.length := by omega
            rw [List.take_length]
            by_cases hin : rd cs k ∈ S
            · have hd : decide (rd cs k ∈ S) = true := by simpa using hin
              rw [hd]
              have HN := Lib.hid hin
              clear hd hin
              go_wp2
              go_roundw
              case rel =>
                have e : seenT sz cs low high (k + 1) = seenT sz cs low high k := seenT_old (by rw [← HS.out]; exact HN.out)
                refine ⟨k + 1, a, c, by omega, by go_num, by rw [e, HS.out], by rw [e]; exact nw_own (nw_drewN _ _) HO1.out, HA.out, nw_trans HK1.out (nw_drewN _ _)⟩
              case measure => simp [intOf]; try omega
            · have hd : decide (rd cs k ∈ S) = false := by simpa using hin
              rw [hd]
              have HN := Lib.hid hin
              clear hd hin
              have ho2 := nw_own (nw_drewN w1 nq) HO1.out
              rw [← HS.out] at ho2
              have HO2 := Lib.hid ho2; clear ho2
              go_wp2_with (at_builtin; refine app1 rfl (.tmp 59) (.tmp 67) 30 3 .i64 8 rfl Try.underlying30 infoI (by omega) _ _ S _ rfl rfl HO2.out (by omega) ?_)
              intro g2 c2' w3 ho3 hc3 hk3 hat
              go_wp2
              go_roundw
              case rel =>
                have e : seenT sz cs low high (k + 1) = S ++ [rd cs k] := by rw [seenT_new HH.out (by rw [← HS.out]; exact HN.out), HS.out]
                refine ⟨k + 1, some ⟨g2, 0, none⟩, c2', by omega, by go_num, by rw [e]; simp, by rw [e]; simpa using ho3, ?_, ?_⟩
                · intro d hd; cases hd
                  rcases hat with hat | hat
                  · cases a with
                    | none => cases hat
                    | some d' => have := HA.out d' rfl; have h' : some d'.block = some g2 := hat; injection h' with h'; show w.heap.size ≤ g2; omega
                  · have := HK1.out.size; have h' : w1.heap.size ≤ g2 := hat; show w.heap.size ≤ g2; omega
                · refine ((kp_of_nw (nw_trans HK1.out (nw_drewN _ _)) (fun _ => False)).trans hk3 ?_).nw
                  intro b hb hlt
                  cases a with
                  | none => cases hb
                  | some d' => have := HA.out d' rfl; have h' : some d'.block = some b := hb; injection h' with h'; omega
              case measure => simp [intOf]; try omega
    · obtain rfl : k = cs.length := by omega
      have HK := Lib.hid hnw; have HO := Lib.hid ho; have HA := Lib.hid had
      clear hnw ho ht had
      go_wp2
      go_ret2
      exact ⟨a, c, rfl, HO.out, HA.out, HK.out⟩
end Go.Proofs.Ytbofjdckmkifaaa
