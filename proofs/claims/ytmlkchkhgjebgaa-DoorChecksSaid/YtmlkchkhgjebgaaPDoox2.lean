/- Functions of the given program as Lean functions, and proofs that its calls come to what these say. Written by a program of this seat (wip/mkprint.py); Lean checks it all. -/
import Derived.Test.YtmlkchkhgjebgaaPDoox0
namespace Go.Proofs.Ytmlkchkhgjebgaa.PDoo
open Go.RowKit Go.Proofs.YtmlkchkhgjebgaaW.PrintWords Go.Proofs.YtmlkchkhgjebgaaW.PrintLast Go.Proofs.YtmlkchkhgjebgaaW.PrintMore
attribute [local go_sem] max2_int min2_int max_two min_two max_three min_three max_four min_four   -- for this text's walks alone
set_option linter.unusedVariables false
set_option linter.unusedSimpArgs false

/-! ### door_Check: function 10 -/
mutual
def door_Check.l0 : Nat → List (S36) → List (S36) → Int → Int → Option (Int)
 | 0, _, _, _, _ => none
 | k + 1, x0, x11, x12, x13 => if x13 < x12 then (if 0 ≤ x13 then (if x13 < (x11.length : Int) then (if ((rd_T36 x11 x13).f0) < 0 then (some 4) else (if (((rd_T36 x11 x13).f2).length : Int) < 2 then (door_Check.j1 k x0 x13 x11 x12 x13 true ((rd_T36 x11 x13).f0) ((rd_T36 x11 x13).f1) ((rd_T36 x11 x13).f2)) else (door_Check.j1 k x0 x13 x11 x12 x13 (decide ((((rd_T36 x11 x13).f2).length : Int) > 6)) ((rd_T36 x11 x13).f0) ((rd_T36 x11 x13).f1) ((rd_T36 x11 x13).f2)))) else (none)) else (none)) else (some 0)
def door_Check.j1 : Nat → List (S36) → Int → List (S36) → Int → Int → Bool → Int → Int → List Int → Option (Int)
 | 0, _, _, _, _, _, _, _, _, _ => none
 | k + 1, x0, x3, x11, x12, x13, x30, x103000, x103001, x103002 => if x30 = true then (some 2) else (door_Check.l1 k x0 x3 true x11 x12 x13 x103002 (x103002.length : Int) 0 x103000 x103001 x103002)
def door_Check.l1 : Nat → List (S36) → Int → Bool → List (S36) → Int → Int → List Int → Int → Int → Int → Int → List Int → Option (Int)
 | 0, _, _, _, _, _, _, _, _, _, _, _, _ => none
 | k + 1, x0, x3, x5, x11, x12, x13, x32, x33, x34, x103000, x103001, x103002 => if x34 < x33 then (if 0 ≤ x34 then (if x34 < (x32.length : Int) then (if (rd x32 x34) < 0 then (some 1) else (if (rd x32 x34) > 262144 then (some 1) else (if x5 = true then (if x34 = 0 then (door_Check.l1 k x0 x3 true x11 x12 x13 x32 x33 (wrap64 (x34 + 1)) x103000 x103001 x103002) else (if 0 ≤ (wrap64 (x34 - 1)) then (if (wrap64 (x34 - 1)) < (x103002.length : Int) then (door_Check.l1 k x0 x3 (decide ((rd x32 x34) < (rd x103002 (wrap64 (x34 - 1))))) x11 x12 x13 x32 x33 (wrap64 (x34 + 1)) x103000 x103001 x103002) else (none)) else (none))) else (door_Check.l1 k x0 x3 false x11 x12 x13 x32 x33 (wrap64 (x34 + 1)) x103000 x103001 x103002)))) else (none)) else (none)) else (if x5 = true then (if x103001 = (-1) then (door_Check.l0 k x0 x11 x12 (wrap64 (x13 + 1))) else (if x103001 < 0 then (some 15) else (if x103001 ≥ (x0.length : Int) then (some 15) else (if x103001 = x3 then (some 15) else (if 0 ≤ x103001 then (if x103001 < (x0.length : Int) then (if ((rd_T36 x0 x103001).f1) = x3 then (door_Check.l0 k x0 x11 x12 (wrap64 (x13 + 1))) else (some 15)) else (none)) else (none)))))) else (some 15))
end
def door_Check.f (k : Nat) (l0 : List (S36)) : Option (Int) := if (l0.length : Int) > 16 then (some 2) else (door_Check.l0 k l0 l0 (l0.length : Int) 0)
theorem door_Check.mono_l : ∀ k, (∀ y0 y1 y2 y3, LeO (door_Check.l0 k y0 y1 y2 y3) (door_Check.l0 (k + 1) y0 y1 y2 y3)) ∧ (∀ y0 y1 y2 y3 y4 y5 y6 y7 y8, LeO (door_Check.j1 k y0 y1 y2 y3 y4 y5 y6 y7 y8) (door_Check.j1 (k + 1) y0 y1 y2 y3 y4 y5 y6 y7 y8)) ∧ (∀ y0 y1 y2 y3 y4 y5 y6 y7 y8 y9 y10 y11, LeO (door_Check.l1 k y0 y1 y2 y3 y4 y5 y6 y7 y8 y9 y10 y11) (door_Check.l1 (k + 1) y0 y1 y2 y3 y4 y5 y6 y7 y8 y9 y10 y11))
 | 0 => ⟨fun _ _ _ _ r h => by simp [door_Check.l0] at h, fun _ _ _ _ _ _ _ _ _ r h => by simp [door_Check.j1] at h, fun _ _ _ _ _ _ _ _ _ _ _ _ r h => by simp [door_Check.l1] at h⟩
 | k + 1 => by
  obtain ⟨ih0, ih1, ih2⟩ := door_Check.mono_l k
  refine ⟨?_, ?_, ?_⟩
  ·
   intro y0 y1 y2 y3
   unfold door_Check.l0
   repeat' first
   | (with_reducible exact ih0 _ _ _ _)
   | (with_reducible exact ih1 _ _ _ _ _ _ _ _ _)
   | (with_reducible exact ih2 _ _ _ _ _ _ _ _ _ _ _ _)
   | (with_reducible exact LeO.refl _)
   | (with_reducible exact LeO.none _)
   | (with_reducible refine LeO.ite ?_ ?_)
   | (with_reducible refine LeO.bind ?_ (fun _ => ?_))
   | exact ih0 _ _ _ _
   | exact ih1 _ _ _ _ _ _ _ _ _
   | exact ih2 _ _ _ _ _ _ _ _ _ _ _ _
   | exact LeO.none _
   | refine LeO.ite ?_ ?_
   | refine LeO.bind ?_ (fun _ => ?_)
  ·
   intro y0 y1 y2 y3 y4 y5 y6 y7 y8
   unfold door_Check.j1
   repeat' first
   | (with_reducible exact ih0 _ _ _ _)
   | (with_reducible exact ih1 _ _ _ _ _ _ _ _ _)
   | (with_reducible exact ih2 _ _ _ _ _ _ _ _ _ _ _ _)
   | (with_reducible exact LeO.refl _)
   | (with_reducible exact LeO.none _)
   | (with_reducible refine LeO.ite ?_ ?_)
   | (with_reducible refine LeO.bind ?_ (fun _ => ?_))
   | exact ih0 _ _ _ _
   | exact ih1 _ _ _ _ _ _ _ _ _
   | exact ih2 _ _ _ _ _ _ _ _ _ _ _ _
   | exact LeO.none _
   | refine LeO.ite ?_ ?_
   | refine LeO.bind ?_ (fun _ => ?_)
  ·
   intro y0 y1 y2 y3 y4 y5 y6 y7 y8 y9 y10 y11
   unfold door_Check.l1
   repeat' first
   | (with_reducible exact ih0 _ _ _ _)
   | (with_reducible exact ih1 _ _ _ _ _ _ _ _ _)
   | (with_reducible exact ih2 _ _ _ _ _ _ _ _ _ _ _ _)
   | (with_reducible exact LeO.refl _)
   | (with_reducible exact LeO.none _)
   | (with_reducible refine LeO.ite ?_ ?_)
   | (with_reducible refine LeO.bind ?_ (fun _ => ?_))
   | exact ih0 _ _ _ _
   | exact ih1 _ _ _ _ _ _ _ _ _
   | exact ih2 _ _ _ _ _ _ _ _ _ _ _ _
   | exact LeO.none _
   | refine LeO.ite ?_ ?_
   | refine LeO.bind ?_ (fun _ => ?_)
theorem door_Check.mono : ∀ a0 k, LeO (door_Check.f k a0) (door_Check.f (k + 1) a0) := by
 intro a0 k
 obtain ⟨ih0, ih1, ih2⟩ := door_Check.mono_l k
 unfold door_Check.f
 repeat' first
   | (with_reducible exact ih0 _ _ _ _)
   | (with_reducible exact ih1 _ _ _ _ _ _ _ _ _)
   | (with_reducible exact ih2 _ _ _ _ _ _ _ _ _ _ _ _)
   | (with_reducible exact LeO.refl _)
   | (with_reducible exact LeO.none _)
   | (with_reducible refine LeO.ite ?_ ?_)
   | (with_reducible refine LeO.bind ?_ (fun _ => ?_))
   | exact ih0 _ _ _ _
   | exact ih1 _ _ _ _ _ _ _ _ _
   | exact ih2 _ _ _ _ _ _ _ _ _ _ _ _
   | exact LeO.none _
   | refine LeO.ite ?_ ?_
   | refine LeO.bind ?_ (fun _ => ?_)
set_option maxHeartbeats 8000000 in
set_option maxRecDepth 100000 in
theorem door_Check.calls (k : Nat) (A0 : Option Addr) (c0 : Nat) (l0 : List (S36)) (r : Int) (w : World) (hr0 : Kd.C k36 w A0 l0.length l0) (hc0 : l0.length ≤ c0) (h : door_Check.f k l0 = some r) :
  Calls Try.prog 10 #[.slice A0 l0.length c0] w fun e w' => e = .returned (.int .i64 r) ∧ Below w.heap.size w w' := by
 have hu36 := Try.underlying36
 have HR0 := Aside0.mk hr0
 have HC0 := Aside0.mk hc0
 clear hr0 hc0
 have HB := Aside0.mk (Below.refl w.heap.size w)
 have H : (if (l0.length : Int) > 16 then (some 2) else (door_Check.l0 k l0 l0 (l0.length : Int) 0)) = some r := h
 clear h
 by_cases c2 : (l0.length : Int) > 16
 ·
  rw [if_pos c2] at H
  have c2b0 : decide (16 < (l0.length : Int)) = true := decide_eq_true c2
  have c2b1 : decide (16 < l0.length) = true := decide_eq_true (by omega)
  clear c2
  obtain rfl := Option.some.inj H
  go_enter Try.func10, Try.ntmps10
  go_wp2
  go_ret
  exact ⟨by first | rfl | (simp [errW_none, errW_some] <;> rfl) | (simp [*, errW_none, errW_some] <;> rfl), by repeat (first | (with_reducible first | exact HB.out | apply below_alloc | apply pw_below_drewN | apply below_drew1) | exact HB.out)⟩
 ·
  rw [if_neg c2] at H
  have c2b0 : decide (16 < (l0.length : Int)) = false := decide_eq_false c2
  have c2b1 : decide (16 < l0.length) = false := decide_eq_false (by omega)
  clear c2
  have H' := Aside0.mk H
  clear H
  go_enter Try.func10, Try.ntmps10
  go_wp2
  go_loopg [13] k (fun kq v13 w' => ∃ (x13_1 : Int), v13 = .int .i64 x13_1 ∧ Aside0 (door_Check.l0 kq l0 l0 (l0.length : Int) x13_1 = some r) ∧ Aside0 (kq ≤ k) ∧ Aside0 (Below w.heap.size w w'))
  case atStart => exact ⟨(0), (by first | rfl | (simp; done) | (simp [*]; done)), H', ⟨Nat.le_refl _⟩, ⟨by repeat (first | (with_reducible first | exact HB.out | apply below_alloc | apply pw_below_drewN | apply below_drew1) | exact HB.out)⟩⟩
  case round =>
   clear H'
   try clear c1; try clear c2; try clear c2b0; try clear c2b1; try clear p2
   obtain ⟨x13_1, rfl, HA, HK1, HB⟩ := hrel
   cases gk with
   | zero => exact absurd HA.out (by simp [door_Check.l0])
   | succ k1 =>
    have H := HA.out
    clear HA
    simp only [door_Check.l0] at H
    by_cases c3 : x13_1 < (l0.length : Int)
    ·
     rw [if_pos c3] at H
     have c3b0 : decide (x13_1 < (l0.length : Int)) = true := decide_eq_true c3
     clear c3
     by_cases c4 : 0 ≤ x13_1
     rotate_left
     ·
      rw [if_neg c4] at H
      exact absurd H (by simp)
     rw [if_pos c4] at H
     have c4b0 : decide (0 ≤ x13_1) = true := decide_eq_true c4
     clear c4
     by_cases c5 : x13_1 < (l0.length : Int)
     rotate_left
     ·
      rw [if_neg c5] at H
      exact absurd H (by simp)
     rw [if_pos c5] at H
     have c5b0 : decide (x13_1 < (l0.length : Int)) = true := decide_eq_true c5
     clear c5
     by_cases c6 : ((rd_T36 l0 x13_1).f0) < 0
     ·
      rw [if_pos c6] at H
      have c6b0 : decide (((rd_T36 l0 x13_1).f0) < 0) = true := decide_eq_true c6
      clear c6
      obtain rfl := Option.some.inj H
      have p101 : 0 ≤ (x13_1 : Int) := of_decide_eq_true (by first | (with_reducible assumption) | assumption)
      have q101 : x13_1 < (l0.length : Int) := of_decide_eq_true (by first | (with_reducible assumption) | assumption)
      obtain ⟨ad101, A101_2, c101_2, e101, hx101_0, hx101_1, hx101_2, hl101_2, hi101_2⟩ := at_T36 HR0.out x13_1 p101 q101
      cases e101
      try replace hx101_0 := (HB.out.cell (World.block_lt_of_cell? w _ hx101_0)).trans hx101_0
      try replace hx101_1 := (HB.out.cell (World.block_lt_of_cell? w _ hx101_1)).trans hx101_1
      try replace hx101_2 := (HB.out.cell (World.block_lt_of_cell? w _ hx101_2)).trans hx101_2
      have HR101_2 := Aside0.mk hi101_2
      have HC101_2 := Aside0.mk hl101_2
      clear hi101_2 hl101_2
      replace p101 := eq_true p101
      replace q101 := eq_true q101
      go_wp2_with (first | ((with_reducible refine gate_dst (N := 4) rfl ?_); (try (refine gate_guard (by rfl) ?_; dsimp only)); refine box_event ?hg (N := 4) ?hd (cs := #[.int .i64 0, .int .i64 0, .slice none 0 0]) (t := 36) ?hr ?_; (case hd => rfl); (case hg => rfl); (case hr => first | (go_simp; done) | (go_simp; rfl)); intro gb102 hg w7 hbox hb; have n0_ := Aside0.mk (below_step (by repeat (first | (with_reducible first | exact HB.out | apply below_alloc | apply pw_below_drewN | apply below_drew1) | exact HB.out)) hb); have n1_ := Aside0.mk (hbox); have n2_ := Aside0.mk ((by rw [hg]; exact (below_size (by repeat (first | (with_reducible first | exact HB.out | apply below_alloc | apply pw_below_drewN | apply below_drew1) | exact HB.out))) : w.heap.size ≤ gb102)); have n3_ := Aside0.mk ((by rw [hg]; exact (below_size (by repeat (first | (with_reducible first | exact HB.out | apply below_alloc | apply pw_below_drewN | apply below_drew1) | exact HB.out))) : w.heap.size ≤ gb102)); clear HB; have HB := n0_; have BK102 := n1_; have GW102 := n2_; have GE102 := n3_; clear n0_ n1_ n2_ n3_; clear hb hbox hg; have hcz8_0 : w7.cell? ⟨gb102, 0, none⟩ = some (.int .i64 0) := (blk_cell BK102.out 0).trans rfl; have hcz8_1 : w7.cell? ⟨gb102, 1, none⟩ = some (.int .i64 0) := (blk_cell BK102.out 1).trans rfl; have hcz8_2 : w7.cell? ⟨gb102, 2, none⟩ = some (.slice none 0 0) := (blk_cell BK102.out 2).trans rfl; have hfz8_0 := blk_frozen BK102.out 0; have hfz8_1 := blk_frozen BK102.out 1; have hfz8_2 := blk_frozen BK102.out 2))
      go_ret
      exact ⟨by first | rfl | (simp [errW_none, errW_some] <;> rfl) | (simp [*, errW_none, errW_some] <;> rfl), by repeat (first | (with_reducible first | exact HB.out | apply below_alloc | apply pw_below_drewN | apply below_drew1 | refine below_set ?_ GE102.out) | exact HB.out)⟩
     ·
      rw [if_neg c6] at H
      have c6b0 : decide (((rd_T36 l0 x13_1).f0) < 0) = false := decide_eq_false c6
      clear c6
      have HC9 := Aside0.mk H
      clear H
      have p101 : 0 ≤ (x13_1 : Int) := of_decide_eq_true (by first | (with_reducible assumption) | assumption)
      have q101 : x13_1 < (l0.length : Int) := of_decide_eq_true (by first | (with_reducible assumption) | assumption)
      obtain ⟨ad101, A101_2, c101_2, e101, hx101_0, hx101_1, hx101_2, hl101_2, hi101_2⟩ := at_T36 HR0.out x13_1 p101 q101
      cases e101
      try replace hx101_0 := (HB.out.cell (World.block_lt_of_cell? w _ hx101_0)).trans hx101_0
      try replace hx101_1 := (HB.out.cell (World.block_lt_of_cell? w _ hx101_1)).trans hx101_1
      try replace hx101_2 := (HB.out.cell (World.block_lt_of_cell? w _ hx101_2)).trans hx101_2
      have HR101_2 := Aside0.mk hi101_2
      have HC101_2 := Aside0.mk hl101_2
      clear hi101_2 hl101_2
      replace p101 := eq_true p101
      replace q101 := eq_true q101
      go_upto_region 8 with (first | ((with_reducible refine gate_dst (N := 4) rfl ?_); (try (refine gate_guard (by rfl) ?_; dsimp only)); refine box_event ?hg (N := 4) ?hd (cs := #[.int .i64 0, .int .i64 0, .slice none 0 0]) (t := 36) ?hr ?_; (case hd => rfl); (case hg => rfl); (case hr => first | (go_simp; done) | (go_simp; rfl)); intro gb102 hg w10 hbox hb; have n0_ := Aside0.mk (below_step (by repeat (first | (with_reducible first | exact HB.out | apply below_alloc | apply pw_below_drewN | apply below_drew1) | exact HB.out)) hb); have n1_ := Aside0.mk (hbox); have n2_ := Aside0.mk ((by rw [hg]; exact (below_size (by repeat (first | (with_reducible first | exact HB.out | apply below_alloc | apply pw_below_drewN | apply below_drew1) | exact HB.out))) : w.heap.size ≤ gb102)); have n3_ := Aside0.mk ((by rw [hg]; exact (below_size (by repeat (first | (with_reducible first | exact HB.out | apply below_alloc | apply pw_below_drewN | apply below_drew1) | exact HB.out))) : w.heap.size ≤ gb102)); clear HB; have HB := n0_; have BK102 := n1_; have GW102 := n2_; have GE102 := n3_; clear n0_ n1_ n2_ n3_; clear hb hbox hg; have hcz11_0 : w10.cell? ⟨gb102, 0, none⟩ = some (.int .i64 0) := (blk_cell BK102.out 0).trans rfl; have hcz11_1 : w10.cell? ⟨gb102, 1, none⟩ = some (.int .i64 0) := (blk_cell BK102.out 1).trans rfl; have hcz11_2 : w10.cell? ⟨gb102, 2, none⟩ = some (.slice none 0 0) := (blk_cell BK102.out 2).trans rfl; have hfz11_0 := blk_frozen BK102.out 0; have hfz11_1 := blk_frozen BK102.out 1; have hfz11_2 := blk_frozen BK102.out 2))
      (try simp only [Act.put, List.setIfInBounds_toArray, List.set_cons_zero, List.set_cons_succ])
      go_cut [30] (fun v30 wc => ∃ (kq : Nat) (x30_8 : Bool), v30 = .bool x30_8 ∧ Aside0 (door_Check.j1 kq l0 x13_1 l0 (l0.length : Int) x13_1 x30_8 ((rd_T36 l0 x13_1).f0) ((rd_T36 l0 x13_1).f1) ((rd_T36 l0 x13_1).f2) = some r) ∧ Aside0 (kq ≤ k1) ∧ Aside0 (wc.heap[gb102]? = some (.cells #[.int .i64 ((rd_T36 l0 x13_1).f0), .int .i64 ((rd_T36 l0 x13_1).f1), (.slice A101_2 ((rd_T36 l0 x13_1).f2).length c101_2)] 36 (0, 0))) ∧ Aside0 (Below w.heap.size w wc))
      case first =>
       have H := HC9.out
       clear HC9
       by_cases c12 : (((rd_T36 l0 x13_1).f2).length : Int) < 2
       ·
        rw [if_pos c12] at H
        have c12b0 : decide ((((rd_T36 l0 x13_1).f2).length : Int) < 2) = true := decide_eq_true c12
        have c12b1 : decide (((rd_T36 l0 x13_1).f2).length < 2) = true := decide_eq_true (by omega)
        clear c12
        (first | rw [c12b0] | (simp only [i64_w, i32_w]; rw [c12b0]) | skip)
        have H' := Aside0.mk H
        clear H
        have hcz13_0 : w10.cell? ⟨gb102, 0, none⟩ = some (.int .i64 0) := (blk_cell BK102.out 0).trans rfl
        have hcz13_1 : w10.cell? ⟨gb102, 1, none⟩ = some (.int .i64 0) := (blk_cell BK102.out 1).trans rfl
        have hcz13_2 : w10.cell? ⟨gb102, 2, none⟩ = some (.slice none 0 0) := (blk_cell BK102.out 2).trans rfl
        have hfz13_0 := blk_frozen BK102.out 0
        have hfz13_1 := blk_frozen BK102.out 1
        have hfz13_2 := blk_frozen BK102.out 2
        go_wp2
        go_meet
        case rel => exact ⟨_, (true), (by first | rfl | (simp; done) | (simp [*]; done)), H', ⟨by have := HK1.out; first | omega | exact Nat.le_refl _⟩, ⟨by (with_reducible repeat (first | refine blk_drewN ?_ _ | refine blk_drew ?_ | refine blk_alloc ?_ _)); refine blk_put (cs := #[.int .i64 ((rd_T36 l0 x13_1).f0), .int .i64 ((rd_T36 l0 x13_1).f1), .slice none 0 0]) ?_ 2 _ rfl; (with_reducible repeat (first | refine blk_drewN ?_ _ | refine blk_drew ?_ | refine blk_alloc ?_ _)); refine blk_put (cs := #[.int .i64 ((rd_T36 l0 x13_1).f0), .int .i64 0, .slice none 0 0]) ?_ 1 _ rfl; (with_reducible repeat (first | refine blk_drewN ?_ _ | refine blk_drew ?_ | refine blk_alloc ?_ _)); refine blk_put (cs := #[.int .i64 0, .int .i64 0, .slice none 0 0]) ?_ 0 _ rfl; (with_reducible repeat (first | refine blk_drewN ?_ _ | refine blk_drew ?_ | refine blk_alloc ?_ _)); exact BK102.out⟩, ⟨by repeat (first | (with_reducible first | exact HB.out | apply below_alloc | apply pw_below_drewN | apply below_drew1 | refine below_set ?_ GE102.out) | exact HB.out)⟩⟩
       ·
        rw [if_neg c12] at H
        have c12b0 : decide ((((rd_T36 l0 x13_1).f2).length : Int) < 2) = false := decide_eq_false c12
        have c12b1 : decide (((rd_T36 l0 x13_1).f2).length < 2) = false := decide_eq_false (by omega)
        clear c12
        (first | rw [c12b0] | (simp only [i64_w, i32_w]; rw [c12b0]) | skip)
        have H' := Aside0.mk H
        clear H
        have hcz14_0 : w10.cell? ⟨gb102, 0, none⟩ = some (.int .i64 0) := (blk_cell BK102.out 0).trans rfl
        have hcz14_1 : w10.cell? ⟨gb102, 1, none⟩ = some (.int .i64 0) := (blk_cell BK102.out 1).trans rfl
        have hcz14_2 : w10.cell? ⟨gb102, 2, none⟩ = some (.slice none 0 0) := (blk_cell BK102.out 2).trans rfl
        have hfz14_0 := blk_frozen BK102.out 0
        have hfz14_1 := blk_frozen BK102.out 1
        have hfz14_2 := blk_frozen BK102.out 2
        go_wp2
        go_meet
        case rel => exact ⟨_, (decide ((((rd_T36 l0 x13_1).f2).length : Int) > 6)), (by first | rfl | (simp; done) | (simp [*]; done)), H', ⟨by have := HK1.out; first | omega | exact Nat.le_refl _⟩, ⟨by (with_reducible repeat (first | refine blk_drewN ?_ _ | refine blk_drew ?_ | refine blk_alloc ?_ _)); refine blk_put (cs := #[.int .i64 ((rd_T36 l0 x13_1).f0), .int .i64 ((rd_T36 l0 x13_1).f1), .slice none 0 0]) ?_ 2 _ rfl; (with_reducible repeat (first | refine blk_drewN ?_ _ | refine blk_drew ?_ | refine blk_alloc ?_ _)); refine blk_put (cs := #[.int .i64 ((rd_T36 l0 x13_1).f0), .int .i64 0, .slice none 0 0]) ?_ 1 _ rfl; (with_reducible repeat (first | refine blk_drewN ?_ _ | refine blk_drew ?_ | refine blk_alloc ?_ _)); refine blk_put (cs := #[.int .i64 0, .int .i64 0, .slice none 0 0]) ?_ 0 _ rfl; (with_reducible repeat (first | refine blk_drewN ?_ _ | refine blk_drew ?_ | refine blk_alloc ?_ _)); exact BK102.out⟩, ⟨by repeat (first | (with_reducible first | exact HB.out | apply below_alloc | apply pw_below_drewN | apply below_drew1 | refine below_set ?_ GE102.out) | exact HB.out)⟩⟩
      case rest =>
       clear HC9
       try clear c1; try clear p1; try clear q1; try clear hx1; try clear c2; try clear c2b0; try clear c2b1; try clear p2; try clear c3; try clear c3b0; try clear c4; try clear c4b0; try clear c5; try clear c5b0; try clear c6; try clear c6b0; try clear c10; try clear p10; try clear q10; try clear hx10; try clear c12
       try clear c12b0; try clear c12b1; try clear hcz11_0; try clear hcz11_1; try clear hcz11_2; try clear hcz13_0; try clear hcz13_1; try clear hcz13_2; try clear hcz14_0; try clear hcz14_1; try clear hcz14_2; try clear hcz8_0; try clear hcz8_1; try clear hcz8_2; try clear hfz11_0; try clear hfz11_1; try clear hfz11_2
       try clear hfz13_0; try clear hfz13_1; try clear hfz13_2; try clear hfz14_0; try clear hfz14_1; try clear hfz14_2; try clear hfz8_0; try clear hfz8_1; try clear hfz8_2; try clear hx101_0; try clear hx101_1; try clear hx101_2; try clear p101; try clear p2; try clear q101
       obtain ⟨kq, x30_8, rfl, HA, HJ8, BK102, HB⟩ := hcut
       cases kq with
       | zero => exact absurd HA.out (by simp [door_Check.j1])
       | succ kj8 =>
        have H := HA.out
        clear HA
        simp only [door_Check.j1] at H
        by_cases c15 : x30_8 = true
        ·
         subst c15
         have H1 : (some 2) = some r := by rw [if_pos rfl] at H; exact H
         clear H
         have H := H1
         clear H1
         obtain rfl := Option.some.inj H
         go_wp2
         go_ret
         exact ⟨by first | rfl | (simp [errW_none, errW_some] <;> rfl) | (simp [*, errW_none, errW_some] <;> rfl), by repeat (first | (with_reducible first | exact HB.out | apply below_alloc | apply pw_below_drewN | apply below_drew1 | refine below_set ?_ GE102.out) | exact HB.out)⟩
        ·
         replace c15 := Bool.eq_false_iff.mpr c15
         subst c15
         have H1 : (door_Check.l1 kj8 l0 x13_1 true l0 (l0.length : Int) x13_1 ((rd_T36 l0 x13_1).f2) (((rd_T36 l0 x13_1).f2).length : Int) 0 ((rd_T36 l0 x13_1).f0) ((rd_T36 l0 x13_1).f1) ((rd_T36 l0 x13_1).f2)) = some r := by rw [if_neg (show ¬ (false = true) by decide)] at H; exact H
         clear H
         have H := H1
         clear H1
         have H' := Aside0.mk H
         clear H
         have hcz16_0 : wc.cell? ⟨gb102, 0, none⟩ = some (.int .i64 ((rd_T36 l0 x13_1).f0)) := (blk_cell BK102.out 0).trans rfl
         have hcz16_1 : wc.cell? ⟨gb102, 1, none⟩ = some (.int .i64 ((rd_T36 l0 x13_1).f1)) := (blk_cell BK102.out 1).trans rfl
         have hcz16_2 : wc.cell? ⟨gb102, 2, none⟩ = some (.slice A101_2 ((rd_T36 l0 x13_1).f2).length c101_2) := (blk_cell BK102.out 2).trans rfl
         have hfz16_0 := blk_frozen BK102.out 0
         have hfz16_1 := blk_frozen BK102.out 1
         have hfz16_2 := blk_frozen BK102.out 2
         go_wp2
         go_loopg [5, 34] kj8 (fun kq v5 v34 w' => ∃ (x5_3 : Bool) (x34_3 : Int), v5 = .bool x5_3 ∧ v34 = .int .i64 x34_3 ∧ Aside0 (door_Check.l1 kq l0 x13_1 x5_3 l0 (l0.length : Int) x13_1 ((rd_T36 l0 x13_1).f2) (((rd_T36 l0 x13_1).f2).length : Int) x34_3 ((rd_T36 l0 x13_1).f0) ((rd_T36 l0 x13_1).f1) ((rd_T36 l0 x13_1).f2) = some r) ∧ Aside0 (kq ≤ kj8) ∧ Aside0 (w'.heap[gb102]? = some (.cells #[.int .i64 ((rd_T36 l0 x13_1).f0), .int .i64 ((rd_T36 l0 x13_1).f1), (.slice A101_2 ((rd_T36 l0 x13_1).f2).length c101_2)] 36 (0, 0))) ∧ Aside0 (Below w.heap.size w w'))
         case atStart => exact ⟨(true), (0), (by first | rfl | (simp; done) | (simp [*]; done)), (by first | rfl | (simp; done) | (simp [*]; done)), H', ⟨Nat.le_refl _⟩, ⟨by (with_reducible repeat (first | refine blk_drewN ?_ _ | refine blk_drew ?_ | refine blk_alloc ?_ _)); exact BK102.out⟩, ⟨by repeat (first | (with_reducible first | exact HB.out | apply below_alloc | apply pw_below_drewN | apply below_drew1 | refine below_set ?_ GE102.out) | exact HB.out)⟩⟩
         case round =>
          clear H'
          try clear c1; try clear p1; try clear q1; try clear hx1; try clear c2; try clear c2b0; try clear c2b1; try clear p2; try clear c3; try clear c3b0; try clear c4; try clear c4b0; try clear c5; try clear c5b0; try clear c6; try clear c6b0; try clear c10; try clear p10; try clear q10; try clear hx10; try clear c12
          try clear c12b0; try clear c12b1; try clear c15; try clear hcz11_0; try clear hcz11_1; try clear hcz11_2; try clear hcz13_0; try clear hcz13_1; try clear hcz13_2; try clear hcz14_0; try clear hcz14_1; try clear hcz14_2; try clear hcz16_0; try clear hcz16_1; try clear hcz16_2; try clear hcz8_0; try clear hcz8_1
          try clear hcz8_2; try clear hfz11_0; try clear hfz11_1; try clear hfz11_2; try clear hfz13_0; try clear hfz13_1; try clear hfz13_2; try clear hfz14_0; try clear hfz14_1; try clear hfz14_2; try clear hfz16_0; try clear hfz16_1; try clear hfz16_2; try clear hfz8_0; try clear hfz8_1; try clear hfz8_2; try clear hx101_0
          try clear hx101_1; try clear hx101_2; try clear p1; try clear p10; try clear p101; try clear p2; try clear q1; try clear q10; try clear q101
          obtain ⟨x5_3, x34_3, rfl, rfl, HA, HK3, BK102, HB⟩ := hrel
          cases gk with
          | zero => exact absurd HA.out (by simp [door_Check.l1])
          | succ k3 =>
           have H := HA.out
           clear HA
           simp only [door_Check.l1] at H
           by_cases c17 : x34_3 < (((rd_T36 l0 x13_1).f2).length : Int)
           ·
            rw [if_pos c17] at H
            have c17b0 : decide (x34_3 < (((rd_T36 l0 x13_1).f2).length : Int)) = true := decide_eq_true c17
            clear c17
            by_cases c18 : 0 ≤ x34_3
            rotate_left
            ·
             rw [if_neg c18] at H
             exact absurd H (by simp)
            rw [if_pos c18] at H
            have c18b0 : decide (0 ≤ x34_3) = true := decide_eq_true c18
            clear c18
            by_cases c19 : x34_3 < (((rd_T36 l0 x13_1).f2).length : Int)
            rotate_left
            ·
             rw [if_neg c19] at H
             exact absurd H (by simp)
            rw [if_pos c19] at H
            have c19b0 : decide (x34_3 < (((rd_T36 l0 x13_1).f2).length : Int)) = true := decide_eq_true c19
            clear c19
            by_cases c20 : (rd ((rd_T36 l0 x13_1).f2) x34_3) < 0
            ·
             rw [if_pos c20] at H
             have c20b0 : decide ((rd ((rd_T36 l0 x13_1).f2) x34_3) < 0) = true := decide_eq_true c20
             clear c20
             obtain rfl := Option.some.inj H
             have p103 : 0 ≤ (x34_3 : Int) := of_decide_eq_true (by first | (with_reducible assumption) | assumption)
             have q103 : x34_3 < (((rd_T36 l0 x13_1).f2).length : Int) := of_decide_eq_true (by first | (with_reducible assumption) | assumption)
             obtain ⟨ad103, e103, hx103_0⟩ := Kd.at_int HR101_2.out x34_3 p103 q103
             cases e103
             try replace hx103_0 := (HB.out.cell (World.block_lt_of_cell? w _ hx103_0)).trans hx103_0
             replace p103 := eq_true p103
             replace q103 := eq_true q103
             go_wp2
             go_ret
             exact ⟨by first | rfl | (simp [errW_none, errW_some] <;> rfl) | (simp [*, errW_none, errW_some] <;> rfl), by repeat (first | (with_reducible first | exact HB.out | apply below_alloc | apply pw_below_drewN | apply below_drew1 | refine below_set ?_ GE102.out) | exact HB.out)⟩
            ·
             rw [if_neg c20] at H
             have c20b0 : decide ((rd ((rd_T36 l0 x13_1).f2) x34_3) < 0) = false := decide_eq_false c20
             clear c20
             by_cases c21 : (rd ((rd_T36 l0 x13_1).f2) x34_3) > 262144
             ·
              rw [if_pos c21] at H
              have c21b0 : decide (262144 < (rd ((rd_T36 l0 x13_1).f2) x34_3)) = true := decide_eq_true c21
              clear c21
              obtain rfl := Option.some.inj H
              have p103 : 0 ≤ (x34_3 : Int) := of_decide_eq_true (by first | (with_reducible assumption) | assumption)
              have q103 : x34_3 < (((rd_T36 l0 x13_1).f2).length : Int) := of_decide_eq_true (by first | (with_reducible assumption) | assumption)
              obtain ⟨ad103, e103, hx103_0⟩ := Kd.at_int HR101_2.out x34_3 p103 q103
              cases e103
              try replace hx103_0 := (HB.out.cell (World.block_lt_of_cell? w _ hx103_0)).trans hx103_0
              replace p103 := eq_true p103
              replace q103 := eq_true q103
              go_wp2
              go_ret
              exact ⟨by first | rfl | (simp [errW_none, errW_some] <;> rfl) | (simp [*, errW_none, errW_some] <;> rfl), by repeat (first | (with_reducible first | exact HB.out | apply below_alloc | apply pw_below_drewN | apply below_drew1 | refine below_set ?_ GE102.out) | exact HB.out)⟩
             ·
              rw [if_neg c21] at H
              have c21b0 : decide (262144 < (rd ((rd_T36 l0 x13_1).f2) x34_3)) = false := decide_eq_false c21
              clear c21
              by_cases c22 : x5_3 = true
              ·
               subst c22
               have H1 : (if x34_3 = 0 then (door_Check.l1 k3 l0 x13_1 true l0 (l0.length : Int) x13_1 ((rd_T36 l0 x13_1).f2) (((rd_T36 l0 x13_1).f2).length : Int) (wrap64 (x34_3 + 1)) ((rd_T36 l0 x13_1).f0) ((rd_T36 l0 x13_1).f1) ((rd_T36 l0 x13_1).f2)) else (if 0 ≤ (wrap64 (x34_3 - 1)) then (if (wrap64 (x34_3 - 1)) < (((rd_T36 l0 x13_1).f2).length : Int) then (door_Check.l1 k3 l0 x13_1 (decide ((rd ((rd_T36 l0 x13_1).f2) x34_3) < (rd ((rd_T36 l0 x13_1).f2) (wrap64 (x34_3 - 1))))) l0 (l0.length : Int) x13_1 ((rd_T36 l0 x13_1).f2) (((rd_T36 l0 x13_1).f2).length : Int) (wrap64 (x34_3 + 1)) ((rd_T36 l0 x13_1).f0) ((rd_T36 l0 x13_1).f1) ((rd_T36 l0 x13_1).f2)) else (none)) else (none))) = some r := by rw [if_pos rfl] at H; exact H
               clear H
               have H := H1
               clear H1
               by_cases c23 : x34_3 = 0
               ·
                rw [if_pos c23] at H
                have c23b0 : (x34_3 == 0) = true := beq_iff_eq.mpr c23
                have c23b1 : (x34_3 != 0) = false := bne_eq_false_iff_eq.mpr c23
                clear c23
                have H' := Aside0.mk H
                clear H
                have p103 : 0 ≤ (x34_3 : Int) := of_decide_eq_true (by first | (with_reducible assumption) | assumption)
                have q103 : x34_3 < (((rd_T36 l0 x13_1).f2).length : Int) := of_decide_eq_true (by first | (with_reducible assumption) | assumption)
                obtain ⟨ad103, e103, hx103_0⟩ := Kd.at_int HR101_2.out x34_3 p103 q103
                cases e103
                try replace hx103_0 := (HB.out.cell (World.block_lt_of_cell? w _ hx103_0)).trans hx103_0
                replace p103 := eq_true p103
                replace q103 := eq_true q103
                go_wp2
                go_roundg k3
                case measure => have := HK1.out; have := HJ8.out; have := HK3.out; omega
                case rel => exact ⟨(true), (wrap64 (x34_3 + 1)), (by first | rfl | (simp; done) | (simp [*]; done)), (by first | rfl | (simp; done) | (simp [*]; done)), H', ⟨by have := HK1.out; have := HJ8.out; have := HK3.out; omega⟩, ⟨by (with_reducible repeat (first | refine blk_drewN ?_ _ | refine blk_drew ?_ | refine blk_alloc ?_ _)); exact BK102.out⟩, ⟨by repeat (first | (with_reducible first | exact HB.out | apply below_alloc | apply pw_below_drewN | apply below_drew1 | refine below_set ?_ GE102.out) | exact HB.out)⟩⟩
               ·
                rw [if_neg c23] at H
                have c23b0 : (x34_3 == 0) = false := beq_eq_false_iff_ne.mpr c23
                have c23b1 : (x34_3 != 0) = true := bne_iff_ne.mpr c23
                obtain ⟨ji24, hji24⟩ : ∃ j_ : Int, (wrap64 (x34_3 - 1)) = j_ := ⟨_, rfl⟩
                replace H : (if 0 ≤ (ji24) then (if (ji24) < (((rd_T36 l0 x13_1).f2).length : Int) then (door_Check.l1 k3 l0 x13_1 (decide ((rd ((rd_T36 l0 x13_1).f2) x34_3) < (rd ((rd_T36 l0 x13_1).f2) (ji24)))) l0 (l0.length : Int) x13_1 ((rd_T36 l0 x13_1).f2) (((rd_T36 l0 x13_1).f2).length : Int) (wrap64 (x34_3 + 1)) ((rd_T36 l0 x13_1).f0) ((rd_T36 l0 x13_1).f1) ((rd_T36 l0 x13_1).f2)) else (none)) else (none)) = some r := by first | (rw [hji24] at H; exact H) | (simp only [hji24] at H ⊢; exact H)
                have hji24w : (IntKind.i64.wrap (x34_3 - 1)) = ji24 := (i64_w _).trans hji24
                by_cases c25 : 0 ≤ (ji24)
                rotate_left
                ·
                 rw [if_neg c25] at H
                 exact absurd H (by simp)
                rw [if_pos c25] at H
                have c25b0 : decide (0 ≤ (ji24)) = true := decide_eq_true c25
                clear c25
                by_cases c26 : (ji24) < (((rd_T36 l0 x13_1).f2).length : Int)
                rotate_left
                ·
                 rw [if_neg c26] at H
                 exact absurd H (by simp)
                rw [if_pos c26] at H
                have c26b0 : decide ((ji24) < (((rd_T36 l0 x13_1).f2).length : Int)) = true := decide_eq_true c26
                clear c26
                have H' := Aside0.mk H
                clear H
                have p103 : 0 ≤ (x34_3 : Int) := of_decide_eq_true (by first | (with_reducible assumption) | assumption)
                have q103 : x34_3 < (((rd_T36 l0 x13_1).f2).length : Int) := of_decide_eq_true (by first | (with_reducible assumption) | assumption)
                obtain ⟨ad103, e103, hx103_0⟩ := Kd.at_int HR101_2.out x34_3 p103 q103
                cases e103
                try replace hx103_0 := (HB.out.cell (World.block_lt_of_cell? w _ hx103_0)).trans hx103_0
                replace p103 := eq_true p103
                replace q103 := eq_true q103
                have hcz27_0 : wr.cell? ⟨gb102, 0, none⟩ = some (.int .i64 ((rd_T36 l0 x13_1).f0)) := (blk_cell BK102.out 0).trans rfl
                have hcz27_1 : wr.cell? ⟨gb102, 1, none⟩ = some (.int .i64 ((rd_T36 l0 x13_1).f1)) := (blk_cell BK102.out 1).trans rfl
                have hcz27_2 : wr.cell? ⟨gb102, 2, none⟩ = some (.slice (some ad103) ((rd_T36 l0 x13_1).f2).length c101_2) := (blk_cell BK102.out 2).trans rfl
                have hfz27_0 := blk_frozen BK102.out 0
                have hfz27_1 := blk_frozen BK102.out 1
                have hfz27_2 := blk_frozen BK102.out 2
                have p104 : 0 ≤ ((ji24) : Int) := of_decide_eq_true (by first | (with_reducible assumption) | assumption)
                have q104 : (ji24) < (((rd_T36 l0 x13_1).f2).length : Int) := of_decide_eq_true (by first | (with_reducible assumption) | assumption)
                obtain ⟨ad104, e104, hx104_0⟩ := Kd.at_int HR101_2.out (ji24) p104 q104
                obtain rfl : ad103 = ad104 := (by injection e104)
                try replace hx104_0 := (HB.out.cell (World.block_lt_of_cell? w _ hx104_0)).trans hx104_0
                replace p104 := eq_true p104
                replace q104 := eq_true q104
                go_wp2
                go_roundg k3
                case measure => have := HK1.out; have := HJ8.out; have := HK3.out; omega
                case rel => exact ⟨(decide ((rd ((rd_T36 l0 x13_1).f2) x34_3) < (rd ((rd_T36 l0 x13_1).f2) (ji24)))), (wrap64 (x34_3 + 1)), (by first | rfl | (simp; done) | (simp only [← hji24] <;> (first | rfl | simp)) | (simp [*]; done)), (by first | rfl | (simp; done) | (simp [*]; done)), H', ⟨by have := HK1.out; have := HJ8.out; have := HK3.out; omega⟩, ⟨by (with_reducible repeat (first | refine blk_drewN ?_ _ | refine blk_drew ?_ | refine blk_alloc ?_ _)); exact BK102.out⟩, ⟨by repeat (first | (with_reducible first | exact HB.out | apply below_alloc | apply pw_below_drewN | apply below_drew1 | refine below_set ?_ GE102.out) | exact HB.out)⟩⟩
              ·
               replace c22 := Bool.eq_false_iff.mpr c22
               subst c22
               have H1 : (door_Check.l1 k3 l0 x13_1 false l0 (l0.length : Int) x13_1 ((rd_T36 l0 x13_1).f2) (((rd_T36 l0 x13_1).f2).length : Int) (wrap64 (x34_3 + 1)) ((rd_T36 l0 x13_1).f0) ((rd_T36 l0 x13_1).f1) ((rd_T36 l0 x13_1).f2)) = some r := by rw [if_neg (show ¬ (false = true) by decide)] at H; exact H
               clear H
               have H := H1
               clear H1
               have H' := Aside0.mk H
               clear H
               have p103 : 0 ≤ (x34_3 : Int) := of_decide_eq_true (by first | (with_reducible assumption) | assumption)
               have q103 : x34_3 < (((rd_T36 l0 x13_1).f2).length : Int) := of_decide_eq_true (by first | (with_reducible assumption) | assumption)
               obtain ⟨ad103, e103, hx103_0⟩ := Kd.at_int HR101_2.out x34_3 p103 q103
               cases e103
               try replace hx103_0 := (HB.out.cell (World.block_lt_of_cell? w _ hx103_0)).trans hx103_0
               replace p103 := eq_true p103
               replace q103 := eq_true q103
               go_wp2
               go_roundg k3
               case measure => have := HK1.out; have := HJ8.out; have := HK3.out; omega
               case rel => exact ⟨(false), (wrap64 (x34_3 + 1)), (by first | rfl | (simp; done) | (simp [*]; done)), (by first | rfl | (simp; done) | (simp [*]; done)), H', ⟨by have := HK1.out; have := HJ8.out; have := HK3.out; omega⟩, ⟨by (with_reducible repeat (first | refine blk_drewN ?_ _ | refine blk_drew ?_ | refine blk_alloc ?_ _)); exact BK102.out⟩, ⟨by repeat (first | (with_reducible first | exact HB.out | apply below_alloc | apply pw_below_drewN | apply below_drew1 | refine below_set ?_ GE102.out) | exact HB.out)⟩⟩
           ·
            rw [if_neg c17] at H
            have c17b0 : decide (x34_3 < (((rd_T36 l0 x13_1).f2).length : Int)) = false := decide_eq_false c17
            clear c17
            by_cases c28 : x5_3 = true
            ·
             subst c28
             have H1 : (if ((rd_T36 l0 x13_1).f1) = (-1) then (door_Check.l0 k3 l0 l0 (l0.length : Int) (wrap64 (x13_1 + 1))) else (if ((rd_T36 l0 x13_1).f1) < 0 then (some 15) else (if ((rd_T36 l0 x13_1).f1) ≥ (l0.length : Int) then (some 15) else (if ((rd_T36 l0 x13_1).f1) = x13_1 then (some 15) else (if 0 ≤ ((rd_T36 l0 x13_1).f1) then (if ((rd_T36 l0 x13_1).f1) < (l0.length : Int) then (if ((rd_T36 l0 ((rd_T36 l0 x13_1).f1)).f1) = x13_1 then (door_Check.l0 k3 l0 l0 (l0.length : Int) (wrap64 (x13_1 + 1))) else (some 15)) else (none)) else (none)))))) = some r := by rw [if_pos rfl] at H; exact H
             clear H
             have H := H1
             clear H1
             by_cases c29 : ((rd_T36 l0 x13_1).f1) = (-1)
             ·
              rw [if_pos c29] at H
              have c29b0 : (((rd_T36 l0 x13_1).f1) == (-1)) = true := beq_iff_eq.mpr c29
              have c29b1 : (((rd_T36 l0 x13_1).f1) != (-1)) = false := bne_eq_false_iff_eq.mpr c29
              clear c29
              have H' := Aside0.mk H
              clear H
              have hcz30_0 : wr.cell? ⟨gb102, 0, none⟩ = some (.int .i64 ((rd_T36 l0 x13_1).f0)) := (blk_cell BK102.out 0).trans rfl
              have hcz30_1 : wr.cell? ⟨gb102, 1, none⟩ = some (.int .i64 ((rd_T36 l0 x13_1).f1)) := (blk_cell BK102.out 1).trans rfl
              have hcz30_2 : wr.cell? ⟨gb102, 2, none⟩ = some (.slice A101_2 ((rd_T36 l0 x13_1).f2).length c101_2) := (blk_cell BK102.out 2).trans rfl
              have hfz30_0 := blk_frozen BK102.out 0
              have hfz30_1 := blk_frozen BK102.out 1
              have hfz30_2 := blk_frozen BK102.out 2
              go_wp2
              go_roundg k3
              case measure => have := HK1.out; have := HJ8.out; have := HK3.out; omega
              case rel => exact ⟨(wrap64 (x13_1 + 1)), (by first | rfl | (simp; done) | (simp [*]; done)), H', ⟨by have := HK1.out; have := HJ8.out; have := HK3.out; omega⟩, ⟨by repeat (first | (with_reducible first | exact HB.out | apply below_alloc | apply pw_below_drewN | apply below_drew1 | refine below_set ?_ GE102.out) | exact HB.out)⟩⟩
             ·
              rw [if_neg c29] at H
              have c29b0 : (((rd_T36 l0 x13_1).f1) == (-1)) = false := beq_eq_false_iff_ne.mpr c29
              have c29b1 : (((rd_T36 l0 x13_1).f1) != (-1)) = true := bne_iff_ne.mpr c29
              by_cases c31 : ((rd_T36 l0 x13_1).f1) < 0
              ·
               rw [if_pos c31] at H
               have c31b0 : decide (((rd_T36 l0 x13_1).f1) < 0) = true := decide_eq_true c31
               clear c31
               obtain rfl := Option.some.inj H
               have hcz32_0 : wr.cell? ⟨gb102, 0, none⟩ = some (.int .i64 ((rd_T36 l0 x13_1).f0)) := (blk_cell BK102.out 0).trans rfl
               have hcz32_1 : wr.cell? ⟨gb102, 1, none⟩ = some (.int .i64 ((rd_T36 l0 x13_1).f1)) := (blk_cell BK102.out 1).trans rfl
               have hcz32_2 : wr.cell? ⟨gb102, 2, none⟩ = some (.slice A101_2 ((rd_T36 l0 x13_1).f2).length c101_2) := (blk_cell BK102.out 2).trans rfl
               have hfz32_0 := blk_frozen BK102.out 0
               have hfz32_1 := blk_frozen BK102.out 1
               have hfz32_2 := blk_frozen BK102.out 2
               go_wp2
               go_ret
               exact ⟨by first | rfl | (simp [errW_none, errW_some] <;> rfl) | (simp [*, errW_none, errW_some] <;> rfl), by repeat (first | (with_reducible first | exact HB.out | apply below_alloc | apply pw_below_drewN | apply below_drew1 | refine below_set ?_ GE102.out) | exact HB.out)⟩
              ·
               rw [if_neg c31] at H
               have c31b0 : decide (((rd_T36 l0 x13_1).f1) < 0) = false := decide_eq_false c31
               clear c31
               by_cases c33 : ((rd_T36 l0 x13_1).f1) ≥ (l0.length : Int)
               ·
                rw [if_pos c33] at H
                have c33b0 : decide ((l0.length : Int) ≤ ((rd_T36 l0 x13_1).f1)) = true := decide_eq_true c33
                clear c33
                obtain rfl := Option.some.inj H
                have hcz34_0 : wr.cell? ⟨gb102, 0, none⟩ = some (.int .i64 ((rd_T36 l0 x13_1).f0)) := (blk_cell BK102.out 0).trans rfl
                have hcz34_1 : wr.cell? ⟨gb102, 1, none⟩ = some (.int .i64 ((rd_T36 l0 x13_1).f1)) := (blk_cell BK102.out 1).trans rfl
                have hcz34_2 : wr.cell? ⟨gb102, 2, none⟩ = some (.slice A101_2 ((rd_T36 l0 x13_1).f2).length c101_2) := (blk_cell BK102.out 2).trans rfl
                have hfz34_0 := blk_frozen BK102.out 0
                have hfz34_1 := blk_frozen BK102.out 1
                have hfz34_2 := blk_frozen BK102.out 2
                go_wp2
                go_ret
                exact ⟨by first | rfl | (simp [errW_none, errW_some] <;> rfl) | (simp [*, errW_none, errW_some] <;> rfl), by repeat (first | (with_reducible first | exact HB.out | apply below_alloc | apply pw_below_drewN | apply below_drew1 | refine below_set ?_ GE102.out) | exact HB.out)⟩
               ·
                rw [if_neg c33] at H
                have c33b0 : decide ((l0.length : Int) ≤ ((rd_T36 l0 x13_1).f1)) = false := decide_eq_false c33
                clear c33
                by_cases c35 : ((rd_T36 l0 x13_1).f1) = x13_1
                ·
                 rw [if_pos c35] at H
                 have c35b0 : (((rd_T36 l0 x13_1).f1) == x13_1) = true := beq_iff_eq.mpr c35
                 have c35b1 : (((rd_T36 l0 x13_1).f1) != x13_1) = false := bne_eq_false_iff_eq.mpr c35
                 clear c35
                 obtain rfl := Option.some.inj H
                 have hcz36_0 : wr.cell? ⟨gb102, 0, none⟩ = some (.int .i64 ((rd_T36 l0 x13_1).f0)) := (blk_cell BK102.out 0).trans rfl
                 have hcz36_1 : wr.cell? ⟨gb102, 1, none⟩ = some (.int .i64 ((rd_T36 l0 x13_1).f1)) := (blk_cell BK102.out 1).trans rfl
                 have hcz36_2 : wr.cell? ⟨gb102, 2, none⟩ = some (.slice A101_2 ((rd_T36 l0 x13_1).f2).length c101_2) := (blk_cell BK102.out 2).trans rfl
                 have hfz36_0 := blk_frozen BK102.out 0
                 have hfz36_1 := blk_frozen BK102.out 1
                 have hfz36_2 := blk_frozen BK102.out 2
                 go_wp2
                 go_ret
                 exact ⟨by first | rfl | (simp [errW_none, errW_some] <;> rfl) | (simp [*, errW_none, errW_some] <;> rfl), by repeat (first | (with_reducible first | exact HB.out | apply below_alloc | apply pw_below_drewN | apply below_drew1 | refine below_set ?_ GE102.out) | exact HB.out)⟩
                ·
                 rw [if_neg c35] at H
                 have c35b0 : (((rd_T36 l0 x13_1).f1) == x13_1) = false := beq_eq_false_iff_ne.mpr c35
                 have c35b1 : (((rd_T36 l0 x13_1).f1) != x13_1) = true := bne_iff_ne.mpr c35
                 by_cases c37 : 0 ≤ ((rd_T36 l0 x13_1).f1)
                 rotate_left
                 ·
                  rw [if_neg c37] at H
                  exact absurd H (by simp)
                 rw [if_pos c37] at H
                 have c37b0 : decide (0 ≤ ((rd_T36 l0 x13_1).f1)) = true := decide_eq_true c37
                 clear c37
                 by_cases c38 : ((rd_T36 l0 x13_1).f1) < (l0.length : Int)
                 rotate_left
                 ·
                  rw [if_neg c38] at H
                  exact absurd H (by simp)
                 rw [if_pos c38] at H
                 have c38b0 : decide (((rd_T36 l0 x13_1).f1) < (l0.length : Int)) = true := decide_eq_true c38
                 clear c38
                 by_cases c39 : ((rd_T36 l0 ((rd_T36 l0 x13_1).f1)).f1) = x13_1
                 ·
                  rw [if_pos c39] at H
                  have c39b0 : (((rd_T36 l0 ((rd_T36 l0 x13_1).f1)).f1) == x13_1) = true := beq_iff_eq.mpr c39
                  have c39b1 : (((rd_T36 l0 ((rd_T36 l0 x13_1).f1)).f1) != x13_1) = false := bne_eq_false_iff_eq.mpr c39
                  clear c39
                  have H' := Aside0.mk H
                  clear H
                  have hcz40_0 : wr.cell? ⟨gb102, 0, none⟩ = some (.int .i64 ((rd_T36 l0 x13_1).f0)) := (blk_cell BK102.out 0).trans rfl
                  have hcz40_1 : wr.cell? ⟨gb102, 1, none⟩ = some (.int .i64 ((rd_T36 l0 x13_1).f1)) := (blk_cell BK102.out 1).trans rfl
                  have hcz40_2 : wr.cell? ⟨gb102, 2, none⟩ = some (.slice A101_2 ((rd_T36 l0 x13_1).f2).length c101_2) := (blk_cell BK102.out 2).trans rfl
                  have hfz40_0 := blk_frozen BK102.out 0
                  have hfz40_1 := blk_frozen BK102.out 1
                  have hfz40_2 := blk_frozen BK102.out 2
                  have p105 : 0 ≤ (((rd_T36 l0 x13_1).f1) : Int) := of_decide_eq_true (by first | (with_reducible assumption) | assumption)
                  have q105 : ((rd_T36 l0 x13_1).f1) < (l0.length : Int) := of_decide_eq_true (by first | (with_reducible assumption) | assumption)
                  obtain ⟨ad105, A105_2, c105_2, e105, hx105_0, hx105_1, hx105_2, hl105_2, hi105_2⟩ := at_T36 HR0.out ((rd_T36 l0 x13_1).f1) p105 q105
                  obtain rfl : ad101 = ad105 := (by injection e105)
                  try replace hx105_0 := (HB.out.cell (World.block_lt_of_cell? w _ hx105_0)).trans hx105_0
                  try replace hx105_1 := (HB.out.cell (World.block_lt_of_cell? w _ hx105_1)).trans hx105_1
                  try replace hx105_2 := (HB.out.cell (World.block_lt_of_cell? w _ hx105_2)).trans hx105_2
                  have HR105_2 := Aside0.mk hi105_2
                  have HC105_2 := Aside0.mk hl105_2
                  clear hi105_2 hl105_2
                  replace p105 := eq_true p105
                  replace q105 := eq_true q105
                  go_wp2
                  go_roundg k3
                  case measure => have := HK1.out; have := HJ8.out; have := HK3.out; omega
                  case rel => exact ⟨(wrap64 (x13_1 + 1)), (by first | rfl | (simp; done) | (simp [*]; done)), H', ⟨by have := HK1.out; have := HJ8.out; have := HK3.out; omega⟩, ⟨by repeat (first | (with_reducible first | exact HB.out | apply below_alloc | apply pw_below_drewN | apply below_drew1 | refine below_set ?_ GE102.out) | exact HB.out)⟩⟩
                 ·
                  rw [if_neg c39] at H
                  have c39b0 : (((rd_T36 l0 ((rd_T36 l0 x13_1).f1)).f1) == x13_1) = false := beq_eq_false_iff_ne.mpr c39
                  have c39b1 : (((rd_T36 l0 ((rd_T36 l0 x13_1).f1)).f1) != x13_1) = true := bne_iff_ne.mpr c39
                  obtain rfl := Option.some.inj H
                  have hcz41_0 : wr.cell? ⟨gb102, 0, none⟩ = some (.int .i64 ((rd_T36 l0 x13_1).f0)) := (blk_cell BK102.out 0).trans rfl
                  have hcz41_1 : wr.cell? ⟨gb102, 1, none⟩ = some (.int .i64 ((rd_T36 l0 x13_1).f1)) := (blk_cell BK102.out 1).trans rfl
                  have hcz41_2 : wr.cell? ⟨gb102, 2, none⟩ = some (.slice A101_2 ((rd_T36 l0 x13_1).f2).length c101_2) := (blk_cell BK102.out 2).trans rfl
                  have hfz41_0 := blk_frozen BK102.out 0
                  have hfz41_1 := blk_frozen BK102.out 1
                  have hfz41_2 := blk_frozen BK102.out 2
                  have p105 : 0 ≤ (((rd_T36 l0 x13_1).f1) : Int) := of_decide_eq_true (by first | (with_reducible assumption) | assumption)
                  have q105 : ((rd_T36 l0 x13_1).f1) < (l0.length : Int) := of_decide_eq_true (by first | (with_reducible assumption) | assumption)
                  obtain ⟨ad105, A105_2, c105_2, e105, hx105_0, hx105_1, hx105_2, hl105_2, hi105_2⟩ := at_T36 HR0.out ((rd_T36 l0 x13_1).f1) p105 q105
                  obtain rfl : ad101 = ad105 := (by injection e105)
                  try replace hx105_0 := (HB.out.cell (World.block_lt_of_cell? w _ hx105_0)).trans hx105_0
                  try replace hx105_1 := (HB.out.cell (World.block_lt_of_cell? w _ hx105_1)).trans hx105_1
                  try replace hx105_2 := (HB.out.cell (World.block_lt_of_cell? w _ hx105_2)).trans hx105_2
                  have HR105_2 := Aside0.mk hi105_2
                  have HC105_2 := Aside0.mk hl105_2
                  clear hi105_2 hl105_2
                  replace p105 := eq_true p105
                  replace q105 := eq_true q105
                  go_wp2
                  go_ret
                  exact ⟨by first | rfl | (simp [errW_none, errW_some] <;> rfl) | (simp [*, errW_none, errW_some] <;> rfl), by repeat (first | (with_reducible first | exact HB.out | apply below_alloc | apply pw_below_drewN | apply below_drew1 | refine below_set ?_ GE102.out) | exact HB.out)⟩
            ·
             replace c28 := Bool.eq_false_iff.mpr c28
             subst c28
             have H1 : (some 15) = some r := by rw [if_neg (show ¬ (false = true) by decide)] at H; exact H
             clear H
             have H := H1
             clear H1
             obtain rfl := Option.some.inj H
             go_wp2
             go_ret
             exact ⟨by first | rfl | (simp [errW_none, errW_some] <;> rfl) | (simp [*, errW_none, errW_some] <;> rfl), by repeat (first | (with_reducible first | exact HB.out | apply below_alloc | apply pw_below_drewN | apply below_drew1 | refine below_set ?_ GE102.out) | exact HB.out)⟩
    ·
     rw [if_neg c3] at H
     have c3b0 : decide (x13_1 < (l0.length : Int)) = false := decide_eq_false c3
     clear c3
     obtain rfl := Option.some.inj H
     go_wp2
     go_ret
     exact ⟨by first | rfl | (simp [errW_none, errW_some] <;> rfl) | (simp [*, errW_none, errW_some] <;> rfl), by repeat (first | (with_reducible first | exact HB.out | apply below_alloc | apply pw_below_drewN | apply below_drew1) | exact HB.out)⟩

/-! ### slices_Min_int_int: function 27 -/
def slices_Min_int_int.l0 : Nat → List Int → Int → Int → Option (Int)
 | 0, _, _, _ => none
 | k + 1, x0, x3, x4 => if x4 < (x0.length : Int) then (if 0 ≤ x4 then (slices_Min_int_int.l0 k x0 (mn x3 (rd x0 x4)) (wrap64 (x4 + 1))) else (none)) else (some x3)
def slices_Min_int_int.f (k : Nat) (l0 : List Int) : Option (Int) := if (l0.length : Int) < 1 then (none) else (if 0 < (l0.length : Int) then (slices_Min_int_int.l0 k l0 (rd l0 0) 1) else (none))
theorem slices_Min_int_int.mono_l : ∀ k, (∀ y0 y1 y2, LeO (slices_Min_int_int.l0 k y0 y1 y2) (slices_Min_int_int.l0 (k + 1) y0 y1 y2))
 | 0 => fun _ _ _ r h => by simp [slices_Min_int_int.l0] at h
 | k + 1 => by
  have ih0 := slices_Min_int_int.mono_l k
  ·
   intro y0 y1 y2
   unfold slices_Min_int_int.l0
   repeat' first
   | (with_reducible exact ih0 _ _ _)
   | (with_reducible exact LeO.refl _)
   | (with_reducible exact LeO.none _)
   | (with_reducible refine LeO.ite ?_ ?_)
   | (with_reducible refine LeO.bind ?_ (fun _ => ?_))
   | exact ih0 _ _ _
   | exact LeO.none _
   | refine LeO.ite ?_ ?_
   | refine LeO.bind ?_ (fun _ => ?_)
theorem slices_Min_int_int.mono : ∀ a0 k, LeO (slices_Min_int_int.f k a0) (slices_Min_int_int.f (k + 1) a0) := by
 intro a0 k
 have ih0 := slices_Min_int_int.mono_l k
 unfold slices_Min_int_int.f
 repeat' first
   | (with_reducible exact ih0 _ _ _)
   | (with_reducible exact LeO.refl _)
   | (with_reducible exact LeO.none _)
   | (with_reducible refine LeO.ite ?_ ?_)
   | (with_reducible refine LeO.bind ?_ (fun _ => ?_))
   | exact ih0 _ _ _
   | exact LeO.none _
   | refine LeO.ite ?_ ?_
   | refine LeO.bind ?_ (fun _ => ?_)
set_option maxHeartbeats 8000000 in
set_option maxRecDepth 100000 in
theorem slices_Min_int_int.calls (k : Nat) (A0 : Option Addr) (c0 : Nat) (l0 : List Int) (r : Int) (w : World) (hr0 : Kd.C (Kd.int .i64) w A0 l0.length l0) (hc0 : l0.length ≤ c0) (h : slices_Min_int_int.f k l0 = some r) :
  Calls Try.prog 27 #[.slice A0 l0.length c0] w fun e w' => e = .returned (.int .i64 r) ∧ Below w.heap.size w w' := by
 have HR0 := Aside0.mk hr0
 have HC0 := Aside0.mk hc0
 clear hr0 hc0
 have HB := Aside0.mk (Below.refl w.heap.size w)
 have H : (if (l0.length : Int) < 1 then (none) else (if 0 < (l0.length : Int) then (slices_Min_int_int.l0 k l0 (rd l0 0) 1) else (none))) = some r := h
 clear h
 by_cases c2 : (l0.length : Int) < 1
 ·
  rw [if_pos c2] at H
  exact absurd H (by simp)
 rw [if_neg c2] at H
 have c2b0 : decide ((l0.length : Int) < 1) = false := decide_eq_false c2
 have c2b1 : decide (l0.length < 1) = false := decide_eq_false (by omega)
 clear c2
 by_cases c3 : 0 < (l0.length : Int)
 rotate_left
 ·
  rw [if_neg c3] at H
  exact absurd H (by simp)
 rw [if_pos c3] at H
 have c3b0 : decide (0 < (l0.length : Int)) = true := decide_eq_true c3
 have c3b1 : decide (0 < l0.length) = true := decide_eq_true (by omega)
 clear c3
 have H' := Aside0.mk H
 clear H
 have p106 : 0 ≤ (0 : Int) := (by omega)
 have q106 : 0 < (l0.length : Int) := of_decide_eq_true (by first | (with_reducible assumption) | assumption)
 obtain ⟨ad106, e106, hx106_0⟩ := Kd.at_int HR0.out 0 p106 q106
 cases e106
 have qi106 : (0 < l0.length) = True := eq_true (by omega)
 (try rw [show ((0 : Int)).toNat = 0 from rfl] at hx106_0)
 (try rw [Addr.add_zero'] at hx106_0)
 replace p106 := eq_true p106
 replace q106 := eq_true q106
 go_enter Try.func27, Try.ntmps27
 go_wp2
 go_loopg [3, 4] k (fun kq v3 v4 w' => ∃ (x3_1 : Int) (x4_1 : Int), v3 = .int .i64 x3_1 ∧ v4 = .int .i64 x4_1 ∧ Aside0 (slices_Min_int_int.l0 kq l0 x3_1 x4_1 = some r) ∧ Aside0 (kq ≤ k) ∧ Aside0 (Below w.heap.size w w'))
 case atStart => exact ⟨(rd l0 0), (1), (by first | rfl | (simp; done) | (simp [*]; done)), (by first | rfl | (simp; done) | (simp [*]; done)), H', ⟨Nat.le_refl _⟩, ⟨by repeat (first | (with_reducible first | exact HB.out | apply below_alloc | apply pw_below_drewN | apply below_drew1) | exact HB.out)⟩⟩
 case round =>
  clear H'
  try clear p1; try clear q1; try clear hx1; try clear qi1; try clear c2; try clear c2b0; try clear c2b1; try clear p2; try clear c3; try clear c3b0; try clear c3b1; try clear hx106_0; try clear p106; try clear q106
  obtain ⟨x3_1, x4_1, rfl, rfl, HA, HK1, HB⟩ := hrel
  cases gk with
  | zero => exact absurd HA.out (by simp [slices_Min_int_int.l0])
  | succ k1 =>
   have H := HA.out
   clear HA
   simp only [slices_Min_int_int.l0] at H
   by_cases c4 : x4_1 < (l0.length : Int)
   ·
    rw [if_pos c4] at H
    have c4b0 : decide (x4_1 < (l0.length : Int)) = true := decide_eq_true c4
    clear c4
    by_cases c5 : 0 ≤ x4_1
    rotate_left
    ·
     rw [if_neg c5] at H
     exact absurd H (by simp)
    rw [if_pos c5] at H
    have c5b0 : decide (0 ≤ x4_1) = true := decide_eq_true c5
    clear c5
    obtain ⟨ji6, hji6⟩ : ∃ j_ : Int, (mn x3_1 (rd l0 x4_1)) = j_ := ⟨_, rfl⟩
    replace H : (slices_Min_int_int.l0 k1 l0 ji6 (wrap64 (x4_1 + 1))) = some r := by first | (rw [hji6] at H; exact H) | (simp only [hji6] at H ⊢; exact H)
    have hji6_ : (if (rd l0 x4_1) < x3_1 then (rd l0 x4_1) else x3_1) = ji6 := hji6
    have H' := Aside0.mk H
    clear H
    have p107 : 0 ≤ (x4_1 : Int) := of_decide_eq_true (by first | (with_reducible assumption) | assumption)
    have q107 : x4_1 < (l0.length : Int) := of_decide_eq_true (by first | (with_reducible assumption) | assumption)
    obtain ⟨ad107, e107, hx107_0⟩ := Kd.at_int HR0.out x4_1 p107 q107
    obtain rfl : ad106 = ad107 := (by injection e107)
    try replace hx107_0 := (HB.out.cell (World.block_lt_of_cell? w _ hx107_0)).trans hx107_0
    replace p107 := eq_true p107
    replace q107 := eq_true q107
    go_wp2
    go_roundg k1
    case measure => have := HK1.out; omega
    case rel => exact ⟨(ji6), (wrap64 (x4_1 + 1)), (by first | rfl | (simp; done) | (simp only [← hji6] <;> (first | rfl | simp)) | (simp [*]; done)), (by first | rfl | (simp; done) | (simp [*]; done)), H', ⟨by have := HK1.out; omega⟩, ⟨by repeat (first | (with_reducible first | exact HB.out | apply below_alloc | apply pw_below_drewN | apply below_drew1) | exact HB.out)⟩⟩
   ·
    rw [if_neg c4] at H
    have c4b0 : decide (x4_1 < (l0.length : Int)) = false := decide_eq_false c4
    clear c4
    obtain rfl := Option.some.inj H
    go_wp2
    go_ret
    exact ⟨by first | rfl | (simp [errW_none, errW_some] <;> rfl) | (simp [*, errW_none, errW_some] <;> rfl), by repeat (first | (with_reducible first | exact HB.out | apply below_alloc | apply pw_below_drewN | apply below_drew1) | exact HB.out)⟩

end Go.Proofs.Ytmlkchkhgjebgaa.PDoo
