/- Functions of the given program as Lean functions, and proofs that its calls come to what these say. Written by a program of this seat (wip/mkprint.py); Lean checks it all. -/
import Derived.Test.YtcgeflbifbaecaaPFecx0
import Derived.Test.YtcgeflbifbaecaaPFecx3
namespace Go.Proofs.Ytcgeflbifbaecaa.PFec
open Go.RowKit Go.Proofs.YtcgeflbifbaecaaW.PrintWords Go.Proofs.YtcgeflbifbaecaaW.PrintLast Go.Proofs.YtcgeflbifbaecaaW.PrintMore
attribute [local go_sem] max2_int min2_int max_two min_two max_three min_three max_four min_four   -- for this text's walks alone
set_option linter.unusedVariables false
set_option linter.unusedSimpArgs false

/-! ### feeder_timely: function 46 -/
mutual
def feeder_timely.j0 : Nat → Int → Bool → List (S32) → List Int → Int → Option (Bool)
 | 0, _, _, _, _, _ => none
 | k + 1, x1, x12, x146000, x146001, x146002 => if x12 = true then (some false) else (feeder_timely.l0 k x1 x146000 (x146000.length : Int) 0)
def feeder_timely.l0 : Nat → Int → List (S32) → Int → Int → Option (Bool)
 | 0, _, _, _, _ => none
 | k + 1, x1, x14, x15, x16 => if x16 < x15 then (if 0 ≤ x16 then (if x16 < (x14.length : Int) then (if x1 < ((rd_T32 x14 x16).f1) then (some false) else (feeder_timely.l0 k x1 x14 x15 (wrap64 (x16 + 1)))) else (none)) else (none)) else (some true)
end
def feeder_timely.f (k : Nat) (l0_0 : List (S32)) (l0_1 : List Int) (a0_2 : Int) (a1 : Int) : Option (Bool) := if a1 < 0 then (feeder_timely.j0 k a1 true l0_0 l0_1 a0_2) else (feeder_timely.j0 k a1 (decide (a1 > 2147483648)) l0_0 l0_1 a0_2)
theorem feeder_timely.mono_l : ∀ k, (∀ y0 y1 y2 y3 y4, LeO (feeder_timely.j0 k y0 y1 y2 y3 y4) (feeder_timely.j0 (k + 1) y0 y1 y2 y3 y4)) ∧ (∀ y0 y1 y2 y3, LeO (feeder_timely.l0 k y0 y1 y2 y3) (feeder_timely.l0 (k + 1) y0 y1 y2 y3))
 | 0 => ⟨fun _ _ _ _ _ r h => by simp [feeder_timely.j0] at h, fun _ _ _ _ r h => by simp [feeder_timely.l0] at h⟩
 | k + 1 => by
  obtain ⟨ih0, ih1⟩ := feeder_timely.mono_l k
  refine ⟨?_, ?_⟩
  ·
   intro y0 y1 y2 y3 y4
   unfold feeder_timely.j0
   repeat' first
   | (with_reducible exact ih0 _ _ _ _ _)
   | (with_reducible exact ih1 _ _ _ _)
   | (with_reducible exact LeO.refl _)
   | (with_reducible exact LeO.none _)
   | (with_reducible refine LeO.ite ?_ ?_)
   | (with_reducible refine LeO.bind ?_ (fun _ => ?_))
   | exact ih0 _ _ _ _ _
   | exact ih1 _ _ _ _
   | exact LeO.none _
   | refine LeO.ite ?_ ?_
   | refine LeO.bind ?_ (fun _ => ?_)
  ·
   intro y0 y1 y2 y3
   unfold feeder_timely.l0
   repeat' first
   | (with_reducible exact ih0 _ _ _ _ _)
   | (with_reducible exact ih1 _ _ _ _)
   | (with_reducible exact LeO.refl _)
   | (with_reducible exact LeO.none _)
   | (with_reducible refine LeO.ite ?_ ?_)
   | (with_reducible refine LeO.bind ?_ (fun _ => ?_))
   | exact ih0 _ _ _ _ _
   | exact ih1 _ _ _ _
   | exact LeO.none _
   | refine LeO.ite ?_ ?_
   | refine LeO.bind ?_ (fun _ => ?_)
theorem feeder_timely.mono : ∀ a0 a1 a2 a3 k, LeO (feeder_timely.f k a0 a1 a2 a3) (feeder_timely.f (k + 1) a0 a1 a2 a3) := by
 intro a0 a1 a2 a3 k
 obtain ⟨ih0, ih1⟩ := feeder_timely.mono_l k
 unfold feeder_timely.f
 repeat' first
   | (with_reducible exact ih0 _ _ _ _ _)
   | (with_reducible exact ih1 _ _ _ _)
   | (with_reducible exact LeO.refl _)
   | (with_reducible exact LeO.none _)
   | (with_reducible refine LeO.ite ?_ ?_)
   | (with_reducible refine LeO.bind ?_ (fun _ => ?_))
   | exact ih0 _ _ _ _ _
   | exact ih1 _ _ _ _
   | exact LeO.none _
   | refine LeO.ite ?_ ?_
   | refine LeO.bind ?_ (fun _ => ?_)
set_option maxHeartbeats 8000000 in
set_option maxRecDepth 100000 in
theorem feeder_timely.calls (k : Nat) (A0_0 : Option Addr) (c0_0 : Nat) (l0_0 : List (S32)) (A0_1 : Option Addr) (c0_1 : Nat) (l0_1 : List Int) (a0_2 : Int) (a1 : Int) (r : Bool) (w : World) (hr0_0 : Kd.C k32 w A0_0 l0_0.length l0_0) (hc0_0 : l0_0.length ≤ c0_0) (hr0_1 : Kd.C (Kd.int .i64) w A0_1 l0_1.length l0_1) (hc0_1 : l0_1.length ≤ c0_1) (h : feeder_timely.f k l0_0 l0_1 a0_2 a1 = some r) :
  Calls Try.prog 46 #[.agg #[.slice A0_0 l0_0.length c0_0, .slice A0_1 l0_1.length c0_1, .int .i64 a0_2], .int .i64 a1] w fun e w' => e = .returned (.bool r) ∧ Below w.heap.size w w' := by
 have hu28 := Try.underlying28
 have hu32 := Try.underlying32
 have HR0_0 := Aside0.mk hr0_0
 have HC0_0 := Aside0.mk hc0_0
 clear hr0_0 hc0_0
 have HR0_1 := Aside0.mk hr0_1
 have HC0_1 := Aside0.mk hc0_1
 clear hr0_1 hc0_1
 have HB := Aside0.mk (Below.refl w.heap.size w)
 have H : (if a1 < 0 then (feeder_timely.j0 k a1 true l0_0 l0_1 a0_2) else (feeder_timely.j0 k a1 (decide (a1 > 2147483648)) l0_0 l0_1 a0_2)) = some r := h
 clear h
 have HC3 := Aside0.mk H
 clear H
 go_enter Try.func46, Try.ntmps46
 go_upto_region 1 with (first | ((with_reducible refine gate_dst (N := 2) rfl ?_); refine box_event ?hg (N := 2) ?hd (cs := #[.slice A0_0 l0_0.length c0_0, .slice A0_1 l0_1.length c0_1, .int .i64 a0_2]) (t := 28) ?hr ?_; (case hd => rfl); (case hg => rfl); (case hr => first | (go_simp; done) | (go_simp; rfl)); intro gb145 hg w4 hbox hb; have n0_ := Aside0.mk (below_step (by repeat (first | (with_reducible first | exact HB.out | apply below_alloc | apply pw_below_drewN | apply below_drew1) | exact HB.out)) hb); have n1_ := Aside0.mk (hbox); have n2_ := Aside0.mk ((by rw [hg]; exact (below_size (by repeat (first | (with_reducible first | exact HB.out | apply below_alloc | apply pw_below_drewN | apply below_drew1) | exact HB.out))) : w.heap.size ≤ gb145)); have n3_ := Aside0.mk ((by rw [hg]; exact (below_size (by repeat (first | (with_reducible first | exact HB.out | apply below_alloc | apply pw_below_drewN | apply below_drew1) | exact HB.out))) : w.heap.size ≤ gb145)); clear HB; have HB := n0_; have BK145 := n1_; have GW145 := n2_; have GE145 := n3_; clear n0_ n1_ n2_ n3_; clear hb hbox hg))
 (try simp only [Act.put, List.setIfInBounds_toArray, List.set_cons_zero, List.set_cons_succ])
 go_cut [12] (fun v12 wc => ∃ (kq : Nat) (x12_2 : Bool), v12 = .bool x12_2 ∧ Aside0 (feeder_timely.j0 kq a1 x12_2 l0_0 l0_1 a0_2 = some r) ∧ Aside0 (kq ≤ k) ∧ Aside0 (wc.heap[gb145]? = some (.cells #[(.slice A0_0 l0_0.length c0_0), (.slice A0_1 l0_1.length c0_1), .int .i64 a0_2] 28 (0, 0))) ∧ Aside0 (Below w.heap.size w wc))
 case first =>
  have H := HC3.out
  clear HC3
  by_cases c5 : a1 < 0
  ·
   rw [if_pos c5] at H
   have c5b0 : decide (a1 < 0) = true := decide_eq_true c5
   clear c5
   (first | rw [c5b0] | (simp only [i64_w, i32_w]; rw [c5b0]) | skip)
   have H' := Aside0.mk H
   clear H
   go_wp2
   go_meet
   case rel => exact ⟨_, (true), (by first | rfl | (simp; done) | (simp [*]; done)), H', ⟨by first | omega | exact Nat.le_refl _⟩, ⟨by (with_reducible repeat (first | refine blk_drewN ?_ _ | refine blk_drew ?_ | refine blk_alloc ?_ _)); exact BK145.out⟩, ⟨by repeat (first | (with_reducible first | exact HB.out | apply below_alloc | apply pw_below_drewN | apply below_drew1 | refine below_set ?_ GE145.out) | exact HB.out)⟩⟩
  ·
   rw [if_neg c5] at H
   have c5b0 : decide (a1 < 0) = false := decide_eq_false c5
   clear c5
   (first | rw [c5b0] | (simp only [i64_w, i32_w]; rw [c5b0]) | skip)
   have H' := Aside0.mk H
   clear H
   go_wp2
   go_meet
   case rel => exact ⟨_, (decide (a1 > 2147483648)), (by first | rfl | (simp; done) | (simp [*]; done)), H', ⟨by first | omega | exact Nat.le_refl _⟩, ⟨by (with_reducible repeat (first | refine blk_drewN ?_ _ | refine blk_drew ?_ | refine blk_alloc ?_ _)); exact BK145.out⟩, ⟨by repeat (first | (with_reducible first | exact HB.out | apply below_alloc | apply pw_below_drewN | apply below_drew1 | refine below_set ?_ GE145.out) | exact HB.out)⟩⟩
 case rest =>
  clear HC3
  try clear p2; try clear c4; try clear c5; try clear c5b0
  obtain ⟨kq, x12_2, rfl, HA, HJ2, BK145, HB⟩ := hcut
  cases kq with
  | zero => exact absurd HA.out (by simp [feeder_timely.j0])
  | succ kj2 =>
   have H := HA.out
   clear HA
   simp only [feeder_timely.j0] at H
   by_cases c6 : x12_2 = true
   ·
    subst c6
    have H1 : (some false) = some r := by rw [if_pos rfl] at H; exact H
    clear H
    have H := H1
    clear H1
    obtain rfl := Option.some.inj H
    go_wp2
    go_ret
    exact ⟨by first | rfl | (simp [errW_none, errW_some] <;> rfl) | (simp [*, errW_none, errW_some] <;> rfl), by repeat (first | (with_reducible first | exact HB.out | apply below_alloc | apply pw_below_drewN | apply below_drew1 | refine below_set ?_ GE145.out) | exact HB.out)⟩
   ·
    replace c6 := Bool.eq_false_iff.mpr c6
    subst c6
    have H1 : (feeder_timely.l0 kj2 a1 l0_0 (l0_0.length : Int) 0) = some r := by rw [if_neg (show ¬ (false = true) by decide)] at H; exact H
    clear H
    have H := H1
    clear H1
    have H' := Aside0.mk H
    clear H
    have hcz7_0 : wc.cell? ⟨gb145, 0, none⟩ = some (.slice A0_0 l0_0.length c0_0) := (blk_cell BK145.out 0).trans rfl
    have hcz7_1 : wc.cell? ⟨gb145, 1, none⟩ = some (.slice A0_1 l0_1.length c0_1) := (blk_cell BK145.out 1).trans rfl
    have hcz7_2 : wc.cell? ⟨gb145, 2, none⟩ = some (.int .i64 a0_2) := (blk_cell BK145.out 2).trans rfl
    have hfz7_0 := blk_frozen BK145.out 0
    have hfz7_1 := blk_frozen BK145.out 1
    have hfz7_2 := blk_frozen BK145.out 2
    go_wp2
    go_loopg [16] kj2 (fun kq v16 w' => ∃ (x16_2 : Int), v16 = .int .i64 x16_2 ∧ Aside0 (feeder_timely.l0 kq a1 l0_0 (l0_0.length : Int) x16_2 = some r) ∧ Aside0 (kq ≤ kj2) ∧ Aside0 (w'.heap[gb145]? = some (.cells #[(.slice A0_0 l0_0.length c0_0), (.slice A0_1 l0_1.length c0_1), .int .i64 a0_2] 28 (0, 0))) ∧ Aside0 (Below w.heap.size w w'))
    case atStart => exact ⟨(0), (by first | rfl | (simp; done) | (simp [*]; done)), H', ⟨Nat.le_refl _⟩, ⟨by (with_reducible repeat (first | refine blk_drewN ?_ _ | refine blk_drew ?_ | refine blk_alloc ?_ _)); exact BK145.out⟩, ⟨by repeat (first | (with_reducible first | exact HB.out | apply below_alloc | apply pw_below_drewN | apply below_drew1 | refine below_set ?_ GE145.out) | exact HB.out)⟩⟩
    case round =>
     clear H'
     try clear p2; try clear c4; try clear c5; try clear c5b0; try clear c6; try clear hcz7_0; try clear hcz7_1; try clear hcz7_2; try clear hfz7_0; try clear hfz7_1; try clear hfz7_2; try clear p2
     obtain ⟨x16_2, rfl, HA, HK2, BK145, HB⟩ := hrel
     cases gk with
     | zero => exact absurd HA.out (by simp [feeder_timely.l0])
     | succ k2 =>
      have H := HA.out
      clear HA
      simp only [feeder_timely.l0] at H
      by_cases c8 : x16_2 < (l0_0.length : Int)
      ·
       rw [if_pos c8] at H
       have c8b0 : decide (x16_2 < (l0_0.length : Int)) = true := decide_eq_true c8
       clear c8
       by_cases c9 : 0 ≤ x16_2
       rotate_left
       ·
        rw [if_neg c9] at H
        exact absurd H (by simp)
       rw [if_pos c9] at H
       have c9b0 : decide (0 ≤ x16_2) = true := decide_eq_true c9
       clear c9
       by_cases c10 : x16_2 < (l0_0.length : Int)
       rotate_left
       ·
        rw [if_neg c10] at H
        exact absurd H (by simp)
       rw [if_pos c10] at H
       have c10b0 : decide (x16_2 < (l0_0.length : Int)) = true := decide_eq_true c10
       clear c10
       by_cases c11 : a1 < ((rd_T32 l0_0 x16_2).f1)
       ·
        rw [if_pos c11] at H
        have c11b0 : decide (a1 < ((rd_T32 l0_0 x16_2).f1)) = true := decide_eq_true c11
        clear c11
        obtain rfl := Option.some.inj H
        have p146 : 0 ≤ (x16_2 : Int) := of_decide_eq_true (by first | (with_reducible assumption) | assumption)
        have q146 : x16_2 < (l0_0.length : Int) := of_decide_eq_true (by first | (with_reducible assumption) | assumption)
        obtain ⟨ad146, e146, hx146_0, hx146_1, hx146_2, hx146_3, hx146_4⟩ := at_T32 HR0_0.out x16_2 p146 q146
        cases e146
        try replace hx146_0 := (HB.out.cell (World.block_lt_of_cell? w _ hx146_0)).trans hx146_0
        try replace hx146_1 := (HB.out.cell (World.block_lt_of_cell? w _ hx146_1)).trans hx146_1
        try replace hx146_2 := (HB.out.cell (World.block_lt_of_cell? w _ hx146_2)).trans hx146_2
        try replace hx146_3 := (HB.out.cell (World.block_lt_of_cell? w _ hx146_3)).trans hx146_3
        try replace hx146_4 := (HB.out.cell (World.block_lt_of_cell? w _ hx146_4)).trans hx146_4
        replace p146 := eq_true p146
        replace q146 := eq_true q146
        go_wp2_with (first | ((with_reducible refine gate_dst (N := 6) rfl ?_); refine box_event ?hg (N := 6) ?hd (cs := #[.int .i64 0, .int .i64 0, .int .i64 0, .bool false, .bool false]) (t := 32) ?hr ?_; (case hd => rfl); (case hg => rfl); (case hr => first | (go_simp; done) | (go_simp; rfl)); intro gb147 hg w12 hbox hb; have n0_ := Aside0.mk (blk_below (g := gb145) (o := .cells #[.slice (some ad146) l0_0.length c0_0, .slice A0_1 l0_1.length c0_1, .int .i64 a0_2] 28 (0, 0)) (by (with_reducible repeat (first | refine blk_drewN ?_ _ | refine blk_drew ?_ | refine blk_alloc ?_ _)); exact BK145.out) hb); have n1_ := Aside0.mk (below_step (by repeat (first | (with_reducible first | exact HB.out | apply below_alloc | apply pw_below_drewN | apply below_drew1 | refine below_set ?_ GE145.out) | exact HB.out)) hb); have n2_ := Aside0.mk (hbox); have n3_ := Aside0.mk ((by rw [hg]; exact (below_size (by repeat (first | (with_reducible first | exact HB.out | apply below_alloc | apply pw_below_drewN | apply below_drew1 | refine below_set ?_ GE145.out) | exact HB.out))) : w.heap.size ≤ gb147)); have n4_ := Aside0.mk ((by rw [hg]; exact (below_size (by repeat (first | (with_reducible first | exact HB.out | apply below_alloc | apply pw_below_drewN | apply below_drew1 | refine below_set ?_ GE145.out) | exact HB.out))) : w.heap.size ≤ gb147)); have n5_ := Aside0.mk ((by rw [hg]; exact Nat.ne_of_lt (blk_lt (g := gb145) (o := .cells #[.slice (some ad146) l0_0.length c0_0, .slice A0_1 l0_1.length c0_1, .int .i64 a0_2] 28 (0, 0)) (by (with_reducible repeat (first | refine blk_drewN ?_ _ | refine blk_drew ?_ | refine blk_alloc ?_ _)); exact BK145.out)) : gb145 ≠ gb147)); have n6_ := Aside0.mk ((by rw [hg]; exact Nat.ne_of_gt (blk_lt (g := gb145) (o := .cells #[.slice (some ad146) l0_0.length c0_0, .slice A0_1 l0_1.length c0_1, .int .i64 a0_2] 28 (0, 0)) (by (with_reducible repeat (first | refine blk_drewN ?_ _ | refine blk_drew ?_ | refine blk_alloc ?_ _)); exact BK145.out)) : gb147 ≠ gb145)); clear BK145; clear HB; have BK145 := n0_; have HB := n1_; have BK147 := n2_; have GW147 := n3_; have GE147 := n4_; have NB145_147 := n5_; have NB147_145 := n6_; clear n0_ n1_ n2_ n3_ n4_ n5_ n6_; clear hb hbox hg; have hnb13 := NB147_145.out; have hnc13 := NB145_147.out; have hcz14_0 : w12.cell? ⟨gb147, 0, none⟩ = some (.int .i64 0) := (blk_cell BK147.out 0).trans rfl; have hcz14_1 : w12.cell? ⟨gb147, 1, none⟩ = some (.int .i64 0) := (blk_cell BK147.out 1).trans rfl; have hcz14_2 : w12.cell? ⟨gb147, 2, none⟩ = some (.int .i64 0) := (blk_cell BK147.out 2).trans rfl; have hcz14_3 : w12.cell? ⟨gb147, 3, none⟩ = some (.bool false) := (blk_cell BK147.out 3).trans rfl; have hcz14_4 : w12.cell? ⟨gb147, 4, none⟩ = some (.bool false) := (blk_cell BK147.out 4).trans rfl; have hfz14_0 := blk_frozen BK147.out 0; have hfz14_1 := blk_frozen BK147.out 1; have hfz14_2 := blk_frozen BK147.out 2; have hfz14_3 := blk_frozen BK147.out 3; have hfz14_4 := blk_frozen BK147.out 4))
        go_ret
        exact ⟨by first | rfl | (simp [errW_none, errW_some] <;> rfl) | (simp [*, errW_none, errW_some] <;> rfl), by repeat (first | (with_reducible first | exact HB.out | apply below_alloc | apply pw_below_drewN | apply below_drew1 | refine below_set ?_ GE145.out | refine below_set ?_ GE147.out) | exact HB.out)⟩
       ·
        rw [if_neg c11] at H
        have c11b0 : decide (a1 < ((rd_T32 l0_0 x16_2).f1)) = false := decide_eq_false c11
        clear c11
        have H' := Aside0.mk H
        clear H
        have p146 : 0 ≤ (x16_2 : Int) := of_decide_eq_true (by first | (with_reducible assumption) | assumption)
        have q146 : x16_2 < (l0_0.length : Int) := of_decide_eq_true (by first | (with_reducible assumption) | assumption)
        obtain ⟨ad146, e146, hx146_0, hx146_1, hx146_2, hx146_3, hx146_4⟩ := at_T32 HR0_0.out x16_2 p146 q146
        cases e146
        try replace hx146_0 := (HB.out.cell (World.block_lt_of_cell? w _ hx146_0)).trans hx146_0
        try replace hx146_1 := (HB.out.cell (World.block_lt_of_cell? w _ hx146_1)).trans hx146_1
        try replace hx146_2 := (HB.out.cell (World.block_lt_of_cell? w _ hx146_2)).trans hx146_2
        try replace hx146_3 := (HB.out.cell (World.block_lt_of_cell? w _ hx146_3)).trans hx146_3
        try replace hx146_4 := (HB.out.cell (World.block_lt_of_cell? w _ hx146_4)).trans hx146_4
        replace p146 := eq_true p146
        replace q146 := eq_true q146
        go_wp2_with (first | ((with_reducible refine gate_dst (N := 6) rfl ?_); refine box_event ?hg (N := 6) ?hd (cs := #[.int .i64 0, .int .i64 0, .int .i64 0, .bool false, .bool false]) (t := 32) ?hr ?_; (case hd => rfl); (case hg => rfl); (case hr => first | (go_simp; done) | (go_simp; rfl)); intro gb147 hg w15 hbox hb; have n0_ := Aside0.mk (blk_below (g := gb145) (o := .cells #[.slice (some ad146) l0_0.length c0_0, .slice A0_1 l0_1.length c0_1, .int .i64 a0_2] 28 (0, 0)) (by (with_reducible repeat (first | refine blk_drewN ?_ _ | refine blk_drew ?_ | refine blk_alloc ?_ _)); exact BK145.out) hb); have n1_ := Aside0.mk (below_step (by repeat (first | (with_reducible first | exact HB.out | apply below_alloc | apply pw_below_drewN | apply below_drew1 | refine below_set ?_ GE145.out) | exact HB.out)) hb); have n2_ := Aside0.mk (hbox); have n3_ := Aside0.mk ((by rw [hg]; exact (below_size (by repeat (first | (with_reducible first | exact HB.out | apply below_alloc | apply pw_below_drewN | apply below_drew1 | refine below_set ?_ GE145.out) | exact HB.out))) : w.heap.size ≤ gb147)); have n4_ := Aside0.mk ((by rw [hg]; exact (below_size (by repeat (first | (with_reducible first | exact HB.out | apply below_alloc | apply pw_below_drewN | apply below_drew1 | refine below_set ?_ GE145.out) | exact HB.out))) : w.heap.size ≤ gb147)); have n5_ := Aside0.mk ((by rw [hg]; exact Nat.ne_of_lt (blk_lt (g := gb145) (o := .cells #[.slice (some ad146) l0_0.length c0_0, .slice A0_1 l0_1.length c0_1, .int .i64 a0_2] 28 (0, 0)) (by (with_reducible repeat (first | refine blk_drewN ?_ _ | refine blk_drew ?_ | refine blk_alloc ?_ _)); exact BK145.out)) : gb145 ≠ gb147)); have n6_ := Aside0.mk ((by rw [hg]; exact Nat.ne_of_gt (blk_lt (g := gb145) (o := .cells #[.slice (some ad146) l0_0.length c0_0, .slice A0_1 l0_1.length c0_1, .int .i64 a0_2] 28 (0, 0)) (by (with_reducible repeat (first | refine blk_drewN ?_ _ | refine blk_drew ?_ | refine blk_alloc ?_ _)); exact BK145.out)) : gb147 ≠ gb145)); clear BK145; clear HB; have BK145 := n0_; have HB := n1_; have BK147 := n2_; have GW147 := n3_; have GE147 := n4_; have NB145_147 := n5_; have NB147_145 := n6_; clear n0_ n1_ n2_ n3_ n4_ n5_ n6_; clear hb hbox hg; have hnb16 := NB147_145.out; have hnc16 := NB145_147.out; have hcz17_0 : w15.cell? ⟨gb147, 0, none⟩ = some (.int .i64 0) := (blk_cell BK147.out 0).trans rfl; have hcz17_1 : w15.cell? ⟨gb147, 1, none⟩ = some (.int .i64 0) := (blk_cell BK147.out 1).trans rfl; have hcz17_2 : w15.cell? ⟨gb147, 2, none⟩ = some (.int .i64 0) := (blk_cell BK147.out 2).trans rfl; have hcz17_3 : w15.cell? ⟨gb147, 3, none⟩ = some (.bool false) := (blk_cell BK147.out 3).trans rfl; have hcz17_4 : w15.cell? ⟨gb147, 4, none⟩ = some (.bool false) := (blk_cell BK147.out 4).trans rfl; have hfz17_0 := blk_frozen BK147.out 0; have hfz17_1 := blk_frozen BK147.out 1; have hfz17_2 := blk_frozen BK147.out 2; have hfz17_3 := blk_frozen BK147.out 3; have hfz17_4 := blk_frozen BK147.out 4))
        go_roundg k2
        case measure => have := HJ2.out; have := HK2.out; omega
        case rel => exact ⟨(wrap64 (x16_2 + 1)), (by first | rfl | (simp; done) | (simp [*]; done)), H', ⟨by have := HJ2.out; have := HK2.out; omega⟩, ⟨by (with_reducible repeat (first | refine blk_drewN ?_ _ | refine blk_drew ?_ | refine blk_alloc ?_ _)); refine blk_far ?_ NB145_147.out _; (with_reducible repeat (first | refine blk_drewN ?_ _ | refine blk_drew ?_ | refine blk_alloc ?_ _)); refine blk_far ?_ NB145_147.out _; (with_reducible repeat (first | refine blk_drewN ?_ _ | refine blk_drew ?_ | refine blk_alloc ?_ _)); refine blk_far ?_ NB145_147.out _; (with_reducible repeat (first | refine blk_drewN ?_ _ | refine blk_drew ?_ | refine blk_alloc ?_ _)); refine blk_far ?_ NB145_147.out _; (with_reducible repeat (first | refine blk_drewN ?_ _ | refine blk_drew ?_ | refine blk_alloc ?_ _)); refine blk_far ?_ NB145_147.out _; (with_reducible repeat (first | refine blk_drewN ?_ _ | refine blk_drew ?_ | refine blk_alloc ?_ _)); exact BK145.out⟩, ⟨by repeat (first | (with_reducible first | exact HB.out | apply below_alloc | apply pw_below_drewN | apply below_drew1 | refine below_set ?_ GE145.out | refine below_set ?_ GE147.out) | exact HB.out)⟩⟩
      ·
       rw [if_neg c8] at H
       have c8b0 : decide (x16_2 < (l0_0.length : Int)) = false := decide_eq_false c8
       clear c8
       obtain rfl := Option.some.inj H
       go_wp2
       go_ret
       exact ⟨by first | rfl | (simp [errW_none, errW_some] <;> rfl) | (simp [*, errW_none, errW_some] <;> rfl), by repeat (first | (with_reducible first | exact HB.out | apply below_alloc | apply pw_below_drewN | apply below_drew1 | refine below_set ?_ GE145.out) | exact HB.out)⟩

/-! ### feeder_can: function 42 -/
def feeder_can.j0 : Nat → Int → Bool → List (S32) → List Int → Int → Option (Int)
 | 0, _, _, _, _, _ => none
 | k + 1, x2, x21, x149000, x149001, x149002 => if x21 = true then (some 16) else ((feeder_timely.f k x149000 x149001 x149002 x2).bind fun t150 => (if t150 = true then (some 0) else (some 8)))
def feeder_can.f (k : Nat) (l0_0 : List (S32)) (l0_1 : List Int) (a0_2 : Int) (a1 : Int) (a2 : Int) : Option (Int) := (feeder_Check.f k l0_0 l0_1 a0_2).bind fun t149 => (if t149 = 0 then (if a1 < 0 then (feeder_can.j0 k a2 true l0_0 l0_1 a0_2) else (feeder_can.j0 k a2 (decide (a1 ≥ (l0_0.length : Int))) l0_0 l0_1 a0_2)) else (some t149))
theorem feeder_can.mono_l : ∀ k, (∀ y0 y1 y2 y3 y4, LeO (feeder_can.j0 k y0 y1 y2 y3 y4) (feeder_can.j0 (k + 1) y0 y1 y2 y3 y4))
 | 0 => fun _ _ _ _ _ r h => by simp [feeder_can.j0] at h
 | k + 1 => by
  have ih0 := feeder_can.mono_l k
  ·
   intro y0 y1 y2 y3 y4
   unfold feeder_can.j0
   repeat' first
   | (with_reducible exact ih0 _ _ _ _ _)
   | (with_reducible exact feeder_Check.mono _ _ _ _)
   | (with_reducible exact feeder_timely.mono _ _ _ _ _)
   | (with_reducible exact LeO.refl _)
   | (with_reducible exact LeO.none _)
   | (with_reducible refine LeO.ite ?_ ?_)
   | (with_reducible refine LeO.bind ?_ (fun _ => ?_))
   | exact ih0 _ _ _ _ _
   | exact feeder_Check.mono _ _ _ _
   | exact feeder_timely.mono _ _ _ _ _
   | exact LeO.none _
   | refine LeO.ite ?_ ?_
   | refine LeO.bind ?_ (fun _ => ?_)
theorem feeder_can.mono : ∀ a0 a1 a2 a3 a4 k, LeO (feeder_can.f k a0 a1 a2 a3 a4) (feeder_can.f (k + 1) a0 a1 a2 a3 a4) := by
 intro a0 a1 a2 a3 a4 k
 have ih0 := feeder_can.mono_l k
 unfold feeder_can.f
 repeat' first
   | (with_reducible exact ih0 _ _ _ _ _)
   | (with_reducible exact feeder_Check.mono _ _ _ _)
   | (with_reducible exact feeder_timely.mono _ _ _ _ _)
   | (with_reducible exact LeO.refl _)
   | (with_reducible exact LeO.none _)
   | (with_reducible refine LeO.ite ?_ ?_)
   | (with_reducible refine LeO.bind ?_ (fun _ => ?_))
   | exact ih0 _ _ _ _ _
   | exact feeder_Check.mono _ _ _ _
   | exact feeder_timely.mono _ _ _ _ _
   | exact LeO.none _
   | refine LeO.ite ?_ ?_
   | refine LeO.bind ?_ (fun _ => ?_)
set_option maxHeartbeats 8000000 in
set_option maxRecDepth 100000 in
theorem feeder_can.calls (k : Nat) (A0_0 : Option Addr) (c0_0 : Nat) (l0_0 : List (S32)) (A0_1 : Option Addr) (c0_1 : Nat) (l0_1 : List Int) (a0_2 : Int) (a1 : Int) (a2 : Int) (r : Int) (w : World) (hr0_0 : Kd.C k32 w A0_0 l0_0.length l0_0) (hc0_0 : l0_0.length ≤ c0_0) (hr0_1 : Kd.C (Kd.int .i64) w A0_1 l0_1.length l0_1) (hc0_1 : l0_1.length ≤ c0_1) (h : feeder_can.f k l0_0 l0_1 a0_2 a1 a2 = some r) :
  Calls Try.prog 42 #[.agg #[.slice A0_0 l0_0.length c0_0, .slice A0_1 l0_1.length c0_1, .int .i64 a0_2], .int .i64 a1, .int .i64 a2] w fun e w' => e = .returned (.int .i64 r) ∧ Below w.heap.size w w' := by
 have hu28 := Try.underlying28
 have HR0_0 := Aside0.mk hr0_0
 have HC0_0 := Aside0.mk hc0_0
 clear hr0_0 hc0_0
 have HR0_1 := Aside0.mk hr0_1
 have HC0_1 := Aside0.mk hc0_1
 clear hr0_1 hc0_1
 have HB := Aside0.mk (Below.refl w.heap.size w)
 have H : ((feeder_Check.f k l0_0 l0_1 a0_2).bind fun t149 => (if t149 = 0 then (if a1 < 0 then (feeder_can.j0 k a2 true l0_0 l0_1 a0_2) else (feeder_can.j0 k a2 (decide (a1 ≥ (l0_0.length : Int))) l0_0 l0_1 a0_2)) else (some t149))) = some r := h
 clear h
 replace H := Option.bind_eq_some_iff.mp H
 obtain ⟨t149, A40, H⟩ := H
 replace H : (if t149 = 0 then (if a1 < 0 then (feeder_can.j0 k a2 true l0_0 l0_1 a0_2) else (feeder_can.j0 k a2 (decide (a1 ≥ (l0_0.length : Int))) l0_0 l0_1 a0_2)) else (some t149)) = some r := H
 have A4 := Aside0.mk A40
 clear A40
 by_cases c5 : t149 = 0
 ·
  rw [if_pos c5] at H
  have c5b0 : (t149 == 0) = true := beq_iff_eq.mpr c5
  have c5b1 : (t149 != 0) = false := bne_eq_false_iff_eq.mpr c5
  clear c5
  have HC6 := Aside0.mk H
  clear H
  go_enter Try.func42, Try.ntmps42
  go_upto_region 4 with (first | ((with_reducible refine gate_dst (N := 3) rfl ?_); (try (refine gate_guard (by rfl) ?_; dsimp only)); refine box_event ?hg (N := 3) ?hd (cs := #[.slice A0_0 l0_0.length c0_0, .slice A0_1 l0_1.length c0_1, .int .i64 a0_2]) (t := 28) ?hr ?_; (case hd => rfl); (case hg => rfl); (case hr => first | (go_simp; done) | (go_simp; rfl)); intro gb148 hg w7 hbox hb; have n0_ := Aside0.mk (below_step (by repeat (first | (with_reducible first | exact HB.out | apply below_alloc | apply pw_below_drewN | apply below_drew1) | exact HB.out)) hb); have n1_ := Aside0.mk (hbox); have n2_ := Aside0.mk ((by rw [hg]; exact (below_size (by repeat (first | (with_reducible first | exact HB.out | apply below_alloc | apply pw_below_drewN | apply below_drew1) | exact HB.out))) : w.heap.size ≤ gb148)); have n3_ := Aside0.mk ((by rw [hg]; exact (below_size (by repeat (first | (with_reducible first | exact HB.out | apply below_alloc | apply pw_below_drewN | apply below_drew1) | exact HB.out))) : w.heap.size ≤ gb148)); clear HB; have HB := n0_; have BK148 := n1_; have GW148 := n2_; have GE148 := n3_; clear n0_ n1_ n2_ n3_; clear hb hbox hg; have hcz8_0 : w7.cell? ⟨gb148, 0, none⟩ = some (.slice A0_0 l0_0.length c0_0) := (blk_cell BK148.out 0).trans rfl; have hcz8_1 : w7.cell? ⟨gb148, 1, none⟩ = some (.slice A0_1 l0_1.length c0_1) := (blk_cell BK148.out 1).trans rfl; have hcz8_2 : w7.cell? ⟨gb148, 2, none⟩ = some (.int .i64 a0_2) := (blk_cell BK148.out 2).trans rfl; have hfz8_0 := blk_frozen BK148.out 0; have hfz8_1 := blk_frozen BK148.out 1; have hfz8_2 := blk_frozen BK148.out 2) | ((with_reducible refine gate_callee (f := 23) rfl ?_); refine goesL_ (some 9) rfl rfl Try.func23 (by kernel_rfl) rfl #[.agg #[.slice A0_0 l0_0.length c0_0, .slice A0_1 l0_1.length c0_1, .int .i64 a0_2]] rfl (by (try simp only [List.map_toArray, List.map_cons, List.map_nil]); first | done | rfl | (simp only [List.length_drop, List.length_take]; rfl)) ?_; (with_reducible refine (feeder_Check.calls k _ _ l0_0 _ _ l0_1 a0_2 t149 _ ?side1 ?side2 ?side3 ?side4 A4.out).mono ?_); (case side1 => repeat (first | exact (by first | exact (Kd.C_below HR0_0.out HB.out) | exact HR0_0.out) | (with_reducible refine Kd.C_alloc ?_ _) | (with_reducible refine Kd.C_drewN ?_ _) | (with_reducible refine Kd.C_drew ?_))); (case side2 => exact HC0_0.out); (case side3 => repeat (first | exact (by first | exact (Kd.C_below HR0_1.out HB.out) | exact HR0_1.out) | (with_reducible refine Kd.C_alloc ?_ _) | (with_reducible refine Kd.C_drewN ?_ _) | (with_reducible refine Kd.C_drew ?_))); (case side4 => exact HC0_1.out); rintro e w9 ⟨rfl, hb⟩; refine ⟨_, rfl, ?_⟩; have n0_ := Aside0.mk (blk_below (g := gb148) (o := .cells #[.slice A0_0 l0_0.length c0_0, .slice A0_1 l0_1.length c0_1, .int .i64 a0_2] 28 (0, 0)) (by (with_reducible repeat (first | refine blk_drewN ?_ _ | refine blk_drew ?_ | refine blk_alloc ?_ _)); exact BK148.out) hb); have n1_ := Aside0.mk (below_step (by repeat (first | (with_reducible first | exact HB.out | apply below_alloc | apply pw_below_drewN | apply below_drew1 | refine below_set ?_ GE148.out) | exact HB.out)) hb); clear BK148; clear HB; have BK148 := n0_; have HB := n1_; clear n0_ n1_; (try clear hb); (try clear hb2); (try clear hge); (try clear hk); (try clear hi)))
  (try simp only [Act.put, List.setIfInBounds_toArray, List.set_cons_zero, List.set_cons_succ])
  go_cut [21] (fun v21 wc => ∃ (kq : Nat) (x21_5 : Bool), v21 = .bool x21_5 ∧ Aside0 (feeder_can.j0 kq a2 x21_5 l0_0 l0_1 a0_2 = some r) ∧ Aside0 (kq ≤ k) ∧ Aside0 (wc.heap[gb148]? = some (.cells #[(.slice A0_0 l0_0.length c0_0), (.slice A0_1 l0_1.length c0_1), .int .i64 a0_2] 28 (0, 0))) ∧ Aside0 (Below w.heap.size w wc))
  case first =>
   have H := HC6.out
   clear HC6
   by_cases c10 : a1 < 0
   ·
    rw [if_pos c10] at H
    have c10b0 : decide (a1 < 0) = true := decide_eq_true c10
    clear c10
    (first | rw [c10b0] | (simp only [i64_w, i32_w]; rw [c10b0]) | skip)
    have H' := Aside0.mk H
    clear H
    go_wp2
    go_meet
    case rel => exact ⟨_, (true), (by first | rfl | (simp; done) | (simp [*]; done)), H', ⟨by first | omega | exact Nat.le_refl _⟩, ⟨by (with_reducible repeat (first | refine blk_drewN ?_ _ | refine blk_drew ?_ | refine blk_alloc ?_ _)); exact BK148.out⟩, ⟨by repeat (first | (with_reducible first | exact HB.out | apply below_alloc | apply pw_below_drewN | apply below_drew1 | refine below_set ?_ GE148.out) | exact HB.out)⟩⟩
   ·
    rw [if_neg c10] at H
    have c10b0 : decide (a1 < 0) = false := decide_eq_false c10
    clear c10
    (first | rw [c10b0] | (simp only [i64_w, i32_w]; rw [c10b0]) | skip)
    have H' := Aside0.mk H
    clear H
    have hcz11_0 : w9.cell? ⟨gb148, 0, none⟩ = some (.slice A0_0 l0_0.length c0_0) := (blk_cell BK148.out 0).trans rfl
    have hcz11_1 : w9.cell? ⟨gb148, 1, none⟩ = some (.slice A0_1 l0_1.length c0_1) := (blk_cell BK148.out 1).trans rfl
    have hcz11_2 : w9.cell? ⟨gb148, 2, none⟩ = some (.int .i64 a0_2) := (blk_cell BK148.out 2).trans rfl
    have hfz11_0 := blk_frozen BK148.out 0
    have hfz11_1 := blk_frozen BK148.out 1
    have hfz11_2 := blk_frozen BK148.out 2
    go_wp2
    go_meet
    case rel => exact ⟨_, (decide (a1 ≥ (l0_0.length : Int))), (by first | rfl | (simp; done) | (simp [*]; done)), H', ⟨by first | omega | exact Nat.le_refl _⟩, ⟨by (with_reducible repeat (first | refine blk_drewN ?_ _ | refine blk_drew ?_ | refine blk_alloc ?_ _)); exact BK148.out⟩, ⟨by repeat (first | (with_reducible first | exact HB.out | apply below_alloc | apply pw_below_drewN | apply below_drew1 | refine below_set ?_ GE148.out) | exact HB.out)⟩⟩
  case rest =>
   clear HC6
   try clear c1; try clear c2; try clear p2; try clear c4; try clear c5; try clear c5b0; try clear c5b1; try clear c10; try clear c10b0; try clear hcz11_0; try clear hcz11_1; try clear hcz11_2; try clear hcz8_0; try clear hcz8_1; try clear hcz8_2; try clear hfz11_0; try clear hfz11_1; try clear hfz11_2
   try clear hfz8_0; try clear hfz8_1; try clear hfz8_2
   obtain ⟨kq, x21_5, rfl, HA, HJ5, BK148, HB⟩ := hcut
   cases kq with
   | zero => exact absurd HA.out (by simp [feeder_can.j0])
   | succ kj5 =>
    have H := HA.out
    clear HA
    simp only [feeder_can.j0] at H
    by_cases c12 : x21_5 = true
    ·
     subst c12
     have H1 : (some 16) = some r := by rw [if_pos rfl] at H; exact H
     clear H
     have H := H1
     clear H1
     obtain rfl := Option.some.inj H
     go_wp2
     go_ret
     exact ⟨by first | rfl | (simp [errW_none, errW_some] <;> rfl) | (simp [*, errW_none, errW_some] <;> rfl), by repeat (first | (with_reducible first | exact HB.out | apply below_alloc | apply pw_below_drewN | apply below_drew1 | refine below_set ?_ GE148.out) | exact HB.out)⟩
    ·
     replace c12 := Bool.eq_false_iff.mpr c12
     subst c12
     have H1 : ((feeder_timely.f kj5 l0_0 l0_1 a0_2 a2).bind fun t150 => (if t150 = true then (some 0) else (some 8))) = some r := by rw [if_neg (show ¬ (false = true) by decide)] at H; exact H
     clear H
     have H := H1
     clear H1
     replace H := Option.bind_eq_some_iff.mp H
     obtain ⟨t150, A130, H⟩ := H
     replace H : (if t150 = true then (some 0) else (some 8)) = some r := H
     have A13 := Aside0.mk A130
     clear A130
     by_cases c14 : t150 = true
     ·
      subst c14
      have H1 : (some 0) = some r := by rw [if_pos rfl] at H; exact H
      clear H
      have H := H1
      clear H1
      obtain rfl := Option.some.inj H
      have hcz15_0 : wc.cell? ⟨gb148, 0, none⟩ = some (.slice A0_0 l0_0.length c0_0) := (blk_cell BK148.out 0).trans rfl
      have hcz15_1 : wc.cell? ⟨gb148, 1, none⟩ = some (.slice A0_1 l0_1.length c0_1) := (blk_cell BK148.out 1).trans rfl
      have hcz15_2 : wc.cell? ⟨gb148, 2, none⟩ = some (.int .i64 a0_2) := (blk_cell BK148.out 2).trans rfl
      have hfz15_0 := blk_frozen BK148.out 0
      have hfz15_1 := blk_frozen BK148.out 1
      have hfz15_2 := blk_frozen BK148.out 2
      go_wp2_with (first | ((with_reducible refine gate_callee (f := 46) rfl ?_); refine goesL_ (some 24) rfl rfl Try.func46 (by kernel_rfl) rfl #[.agg #[.slice A0_0 l0_0.length c0_0, .slice A0_1 l0_1.length c0_1, .int .i64 a0_2], .int .i64 a2] rfl (by (try simp only [List.map_toArray, List.map_cons, List.map_nil]); first | done | rfl | (simp only [List.length_drop, List.length_take]; rfl)) ?_; (with_reducible refine (feeder_timely.calls kj5 _ _ l0_0 _ _ l0_1 a0_2 a2 true _ ?side1 ?side2 ?side3 ?side4 A13.out).mono ?_); (case side1 => repeat (first | exact (by first | exact (Kd.C_below HR0_0.out HB.out) | exact HR0_0.out) | (with_reducible refine Kd.C_alloc ?_ _) | (with_reducible refine Kd.C_drewN ?_ _) | (with_reducible refine Kd.C_drew ?_))); (case side2 => exact HC0_0.out); (case side3 => repeat (first | exact (by first | exact (Kd.C_below HR0_1.out HB.out) | exact HR0_1.out) | (with_reducible refine Kd.C_alloc ?_ _) | (with_reducible refine Kd.C_drewN ?_ _) | (with_reducible refine Kd.C_drew ?_))); (case side4 => exact HC0_1.out); rintro e w16 ⟨rfl, hb⟩; refine ⟨_, rfl, ?_⟩; have n0_ := Aside0.mk (blk_below (g := gb148) (o := .cells #[.slice A0_0 l0_0.length c0_0, .slice A0_1 l0_1.length c0_1, .int .i64 a0_2] 28 (0, 0)) (by (with_reducible repeat (first | refine blk_drewN ?_ _ | refine blk_drew ?_ | refine blk_alloc ?_ _)); exact BK148.out) hb); have n1_ := Aside0.mk (below_step (by repeat (first | (with_reducible first | exact HB.out | apply below_alloc | apply pw_below_drewN | apply below_drew1 | refine below_set ?_ GE148.out) | exact HB.out)) hb); clear BK148; clear HB; have BK148 := n0_; have HB := n1_; clear n0_ n1_; (try clear hb); (try clear hb2); (try clear hge); (try clear hk); (try clear hi)))
      go_ret
      exact ⟨by first | rfl | (simp [errW_none, errW_some] <;> rfl) | (simp [*, errW_none, errW_some] <;> rfl), by repeat (first | (with_reducible first | exact HB.out | apply below_alloc | apply pw_below_drewN | apply below_drew1 | refine below_set ?_ GE148.out) | exact HB.out)⟩
     ·
      replace c14 := Bool.eq_false_iff.mpr c14
      subst c14
      have H1 : (some 8) = some r := by rw [if_neg (show ¬ (false = true) by decide)] at H; exact H
      clear H
      have H := H1
      clear H1
      obtain rfl := Option.some.inj H
      have hcz17_0 : wc.cell? ⟨gb148, 0, none⟩ = some (.slice A0_0 l0_0.length c0_0) := (blk_cell BK148.out 0).trans rfl
      have hcz17_1 : wc.cell? ⟨gb148, 1, none⟩ = some (.slice A0_1 l0_1.length c0_1) := (blk_cell BK148.out 1).trans rfl
      have hcz17_2 : wc.cell? ⟨gb148, 2, none⟩ = some (.int .i64 a0_2) := (blk_cell BK148.out 2).trans rfl
      have hfz17_0 := blk_frozen BK148.out 0
      have hfz17_1 := blk_frozen BK148.out 1
      have hfz17_2 := blk_frozen BK148.out 2
      go_wp2_with (first | ((with_reducible refine gate_callee (f := 46) rfl ?_); refine goesL_ (some 24) rfl rfl Try.func46 (by kernel_rfl) rfl #[.agg #[.slice A0_0 l0_0.length c0_0, .slice A0_1 l0_1.length c0_1, .int .i64 a0_2], .int .i64 a2] rfl (by (try simp only [List.map_toArray, List.map_cons, List.map_nil]); first | done | rfl | (simp only [List.length_drop, List.length_take]; rfl)) ?_; (with_reducible refine (feeder_timely.calls kj5 _ _ l0_0 _ _ l0_1 a0_2 a2 false _ ?side1 ?side2 ?side3 ?side4 A13.out).mono ?_); (case side1 => repeat (first | exact (by first | exact (Kd.C_below HR0_0.out HB.out) | exact HR0_0.out) | (with_reducible refine Kd.C_alloc ?_ _) | (with_reducible refine Kd.C_drewN ?_ _) | (with_reducible refine Kd.C_drew ?_))); (case side2 => exact HC0_0.out); (case side3 => repeat (first | exact (by first | exact (Kd.C_below HR0_1.out HB.out) | exact HR0_1.out) | (with_reducible refine Kd.C_alloc ?_ _) | (with_reducible refine Kd.C_drewN ?_ _) | (with_reducible refine Kd.C_drew ?_))); (case side4 => exact HC0_1.out); rintro e w18 ⟨rfl, hb⟩; refine ⟨_, rfl, ?_⟩; have n0_ := Aside0.mk (blk_below (g := gb148) (o := .cells #[.slice A0_0 l0_0.length c0_0, .slice A0_1 l0_1.length c0_1, .int .i64 a0_2] 28 (0, 0)) (by (with_reducible repeat (first | refine blk_drewN ?_ _ | refine blk_drew ?_ | refine blk_alloc ?_ _)); exact BK148.out) hb); have n1_ := Aside0.mk (below_step (by repeat (first | (with_reducible first | exact HB.out | apply below_alloc | apply pw_below_drewN | apply below_drew1 | refine below_set ?_ GE148.out) | exact HB.out)) hb); clear BK148; clear HB; have BK148 := n0_; have HB := n1_; clear n0_ n1_; (try clear hb); (try clear hb2); (try clear hge); (try clear hk); (try clear hi)))
      go_ret
      exact ⟨by first | rfl | (simp [errW_none, errW_some] <;> rfl) | (simp [*, errW_none, errW_some] <;> rfl), by repeat (first | (with_reducible first | exact HB.out | apply below_alloc | apply pw_below_drewN | apply below_drew1 | refine below_set ?_ GE148.out) | exact HB.out)⟩
 ·
  rw [if_neg c5] at H
  have c5b0 : (t149 == 0) = false := beq_eq_false_iff_ne.mpr c5
  have c5b1 : (t149 != 0) = true := bne_iff_ne.mpr c5
  obtain rfl := Option.some.inj H
  go_enter Try.func42, Try.ntmps42
  go_wp2_with (first | ((with_reducible refine gate_dst (N := 3) rfl ?_); (try (refine gate_guard (by rfl) ?_; dsimp only)); refine box_event ?hg (N := 3) ?hd (cs := #[.slice A0_0 l0_0.length c0_0, .slice A0_1 l0_1.length c0_1, .int .i64 a0_2]) (t := 28) ?hr ?_; (case hd => rfl); (case hg => rfl); (case hr => first | (go_simp; done) | (go_simp; rfl)); intro gb148 hg w19 hbox hb; have n0_ := Aside0.mk (below_step (by repeat (first | (with_reducible first | exact HB.out | apply below_alloc | apply pw_below_drewN | apply below_drew1) | exact HB.out)) hb); have n1_ := Aside0.mk (hbox); have n2_ := Aside0.mk ((by rw [hg]; exact (below_size (by repeat (first | (with_reducible first | exact HB.out | apply below_alloc | apply pw_below_drewN | apply below_drew1) | exact HB.out))) : w.heap.size ≤ gb148)); have n3_ := Aside0.mk ((by rw [hg]; exact (below_size (by repeat (first | (with_reducible first | exact HB.out | apply below_alloc | apply pw_below_drewN | apply below_drew1) | exact HB.out))) : w.heap.size ≤ gb148)); clear HB; have HB := n0_; have BK148 := n1_; have GW148 := n2_; have GE148 := n3_; clear n0_ n1_ n2_ n3_; clear hb hbox hg; have hcz20_0 : w19.cell? ⟨gb148, 0, none⟩ = some (.slice A0_0 l0_0.length c0_0) := (blk_cell BK148.out 0).trans rfl; have hcz20_1 : w19.cell? ⟨gb148, 1, none⟩ = some (.slice A0_1 l0_1.length c0_1) := (blk_cell BK148.out 1).trans rfl; have hcz20_2 : w19.cell? ⟨gb148, 2, none⟩ = some (.int .i64 a0_2) := (blk_cell BK148.out 2).trans rfl; have hfz20_0 := blk_frozen BK148.out 0; have hfz20_1 := blk_frozen BK148.out 1; have hfz20_2 := blk_frozen BK148.out 2) | ((with_reducible refine gate_callee (f := 23) rfl ?_); refine goesL_ (some 9) rfl rfl Try.func23 (by kernel_rfl) rfl #[.agg #[.slice A0_0 l0_0.length c0_0, .slice A0_1 l0_1.length c0_1, .int .i64 a0_2]] rfl (by (try simp only [List.map_toArray, List.map_cons, List.map_nil]); first | done | rfl | (simp only [List.length_drop, List.length_take]; rfl)) ?_; (with_reducible refine (feeder_Check.calls k _ _ l0_0 _ _ l0_1 a0_2 t149 _ ?side1 ?side2 ?side3 ?side4 A4.out).mono ?_); (case side1 => repeat (first | exact (by first | exact (Kd.C_below HR0_0.out HB.out) | exact HR0_0.out) | (with_reducible refine Kd.C_alloc ?_ _) | (with_reducible refine Kd.C_drewN ?_ _) | (with_reducible refine Kd.C_drew ?_))); (case side2 => exact HC0_0.out); (case side3 => repeat (first | exact (by first | exact (Kd.C_below HR0_1.out HB.out) | exact HR0_1.out) | (with_reducible refine Kd.C_alloc ?_ _) | (with_reducible refine Kd.C_drewN ?_ _) | (with_reducible refine Kd.C_drew ?_))); (case side4 => exact HC0_1.out); rintro e w21 ⟨rfl, hb⟩; refine ⟨_, rfl, ?_⟩; have n0_ := Aside0.mk (blk_below (g := gb148) (o := .cells #[.slice A0_0 l0_0.length c0_0, .slice A0_1 l0_1.length c0_1, .int .i64 a0_2] 28 (0, 0)) (by (with_reducible repeat (first | refine blk_drewN ?_ _ | refine blk_drew ?_ | refine blk_alloc ?_ _)); exact BK148.out) hb); have n1_ := Aside0.mk (below_step (by repeat (first | (with_reducible first | exact HB.out | apply below_alloc | apply pw_below_drewN | apply below_drew1 | refine below_set ?_ GE148.out) | exact HB.out)) hb); clear BK148; clear HB; have BK148 := n0_; have HB := n1_; clear n0_ n1_; (try clear hb); (try clear hb2); (try clear hge); (try clear hk); (try clear hi)))
  go_ret
  exact ⟨by first | rfl | (simp [errW_none, errW_some] <;> rfl) | (simp [*, errW_none, errW_some] <;> rfl), by repeat (first | (with_reducible first | exact HB.out | apply below_alloc | apply pw_below_drewN | apply below_drew1 | refine below_set ?_ GE148.out) | exact HB.out)⟩

/-! ### feeder_clone: function 43 -/
def feeder_clone.f (l0_0 : List (S32)) (l0_1 : List Int) (a0_2 : Int) : Option ((List (S32)) × List Int × Int) := if ([] : List (S32)).length + l0_0.length < 4398046511104 then (if ([] : List Int).length + l0_1.length < 17592186044416 then (some ((([] : List (S32)) ++ l0_0), (([] : List Int) ++ l0_1), a0_2)) else (none)) else (none)
set_option maxHeartbeats 8000000 in
set_option maxRecDepth 100000 in
theorem feeder_clone.calls (A0_0 : Option Addr) (c0_0 : Nat) (l0_0 : List (S32)) (A0_1 : Option Addr) (c0_1 : Nat) (l0_1 : List Int) (a0_2 : Int) (r1 : List (S32)) (r2 : List Int) (r3 : Int) (w : World) (hr0_0 : Kd.C k32 w A0_0 l0_0.length l0_0) (hc0_0 : l0_0.length ≤ c0_0) (hr0_1 : Kd.C (Kd.int .i64) w A0_1 l0_1.length l0_1) (hc0_1 : l0_1.length ≤ c0_1) (h : feeder_clone.f l0_0 l0_1 a0_2 = some (r1, r2, r3)) :
  Calls Try.prog 43 #[.agg #[.slice A0_0 l0_0.length c0_0, .slice A0_1 l0_1.length c0_1, .int .i64 a0_2]] w fun e w' => ∃ v0_ v1_ : Value, e = .returned (.agg #[v0_, v1_, .int .i64 r3]) ∧ Kd.R k32 32 w' w.heap.size (fun _ => True) v0_ r1 ∧ Kd.R (Kd.int .i64) 3 w' w.heap.size (fun _ => True) v1_ r2 ∧ Below w.heap.size w w' := by
 have hu28 := Try.underlying28
 have HR0_0 := Aside0.mk hr0_0
 have HC0_0 := Aside0.mk hc0_0
 clear hr0_0 hc0_0
 have HR0_1 := Aside0.mk hr0_1
 have HC0_1 := Aside0.mk hc0_1
 clear hr0_1 hc0_1
 have HB := Aside0.mk (Below.refl w.heap.size w)
 have H : (if ([] : List (S32)).length + l0_0.length < 4398046511104 then (if ([] : List Int).length + l0_1.length < 17592186044416 then (some ((([] : List (S32)) ++ l0_0), (([] : List Int) ++ l0_1), a0_2)) else (none)) else (none)) = some (r1, r2, r3) := h
 clear h
 by_cases c2 : ([] : List (S32)).length + l0_0.length < 4398046511104
 rotate_left
 ·
  rw [if_neg c2] at H
  exact absurd H (by simp)
 rw [if_pos c2] at H
 have LMc2 := Aside0.mk c2
 clear c2
 obtain ⟨y153, hy153⟩ : ∃ y_ : List (S32), y_ = (([] : List (S32)) ++ l0_0) := ⟨_, rfl⟩
 replace H : (if ([] : List Int).length + l0_1.length < 17592186044416 then (some (y153, (([] : List Int) ++ l0_1), a0_2)) else (none)) = some (r1, r2, r3) := by first | (rw [hy153]; with_reducible exact H) | (have H2_ := (Option.bind_some _ _).symm.trans H; rw [hy153]; with_reducible exact H2_) | (have H2_ := (Option.bind_some _ _).symm.trans H; with_reducible exact H2_) | with_reducible exact H | (rw [hy153]; exact H) | exact H
 have Ny153 := Aside0.mk hy153
 clear hy153
 by_cases c3 : ([] : List Int).length + l0_1.length < 17592186044416
 rotate_left
 ·
  rw [if_neg c3] at H
  exact absurd H (by simp)
 rw [if_pos c3] at H
 have LMc3 := Aside0.mk c3
 clear c3
 obtain ⟨y156, hy156⟩ : ∃ y_ : List Int, y_ = (([] : List Int) ++ l0_1) := ⟨_, rfl⟩
 replace H : (some (y153, y156, a0_2)) = some (r1, r2, r3) := by first | (rw [hy156]; with_reducible exact H) | (have H2_ := (Option.bind_some _ _).symm.trans H; rw [hy156]; with_reducible exact H2_) | (have H2_ := (Option.bind_some _ _).symm.trans H; with_reducible exact H2_) | with_reducible exact H | (rw [hy156]; exact H) | exact H
 have Ny156 := Aside0.mk hy156
 clear hy156
 simp only [Option.some.injEq, Prod.mk.injEq] at H
 obtain ⟨rfl, rfl, rfl⟩ := H
 go_enter Try.func43, Try.ntmps43
 go_wp2_with (first | ((with_reducible refine gate_dst (N := 1) rfl ?_); refine box_event ?hg (N := 1) ?hd (cs := #[.slice A0_0 l0_0.length c0_0, .slice A0_1 l0_1.length c0_1, .int .i64 a0_2]) (t := 28) ?hr ?_; (case hd => rfl); (case hg => rfl); (case hr => first | (go_simp; done) | (go_simp; rfl)); intro gb151 hg w4 hbox hb; have n0_ := Aside0.mk (below_step (by repeat (first | (with_reducible first | exact HB.out | apply below_alloc | apply pw_below_drewN | apply below_drew1) | exact HB.out)) hb); have n1_ := Aside0.mk (hbox); have n2_ := Aside0.mk ((by rw [hg]; exact (below_size (by repeat (first | (with_reducible first | exact HB.out | apply below_alloc | apply pw_below_drewN | apply below_drew1) | exact HB.out))) : w.heap.size ≤ gb151)); have n3_ := Aside0.mk ((by rw [hg]; exact (below_size (by repeat (first | (with_reducible first | exact HB.out | apply below_alloc | apply pw_below_drewN | apply below_drew1) | exact HB.out))) : w.heap.size ≤ gb151)); clear HB; have HB := n0_; have BK151 := n1_; have GW151 := n2_; have GE151 := n3_; clear n0_ n1_ n2_ n3_; clear hb hbox hg) | ((with_reducible refine gate_dst (N := 2) rfl ?_); refine box_event ?hg (N := 2) ?hd (cs := #[.slice none 0 0, .slice none 0 0, .int .i64 0]) (t := 28) ?hr ?_; (case hd => rfl); (case hg => rfl); (case hr => first | (go_simp; done) | (go_simp; rfl)); intro gb152 hg w5 hbox hb; have n0_ := Aside0.mk (blk_below (g := gb151) (o := .cells #[.slice A0_0 l0_0.length c0_0, .slice A0_1 l0_1.length c0_1, .int .i64 a0_2] 28 (0, 0)) (by (with_reducible repeat (first | refine blk_drewN ?_ _ | refine blk_drew ?_ | refine blk_alloc ?_ _)); exact BK151.out) hb); have n1_ := Aside0.mk (below_step (by repeat (first | (with_reducible first | exact HB.out | apply below_alloc | apply pw_below_drewN | apply below_drew1 | refine below_set ?_ GE151.out) | exact HB.out)) hb); have n2_ := Aside0.mk (hbox); have n3_ := Aside0.mk ((by rw [hg]; exact (below_size (by repeat (first | (with_reducible first | exact HB.out | apply below_alloc | apply pw_below_drewN | apply below_drew1 | refine below_set ?_ GE151.out) | exact HB.out))) : w.heap.size ≤ gb152)); have n4_ := Aside0.mk ((by rw [hg]; exact (below_size (by repeat (first | (with_reducible first | exact HB.out | apply below_alloc | apply pw_below_drewN | apply below_drew1 | refine below_set ?_ GE151.out) | exact HB.out))) : w.heap.size ≤ gb152)); have n5_ := Aside0.mk ((by rw [hg]; exact Nat.ne_of_lt (blk_lt (g := gb151) (o := .cells #[.slice A0_0 l0_0.length c0_0, .slice A0_1 l0_1.length c0_1, .int .i64 a0_2] 28 (0, 0)) (by (with_reducible repeat (first | refine blk_drewN ?_ _ | refine blk_drew ?_ | refine blk_alloc ?_ _)); exact BK151.out)) : gb151 ≠ gb152)); have n6_ := Aside0.mk ((by rw [hg]; exact Nat.ne_of_gt (blk_lt (g := gb151) (o := .cells #[.slice A0_0 l0_0.length c0_0, .slice A0_1 l0_1.length c0_1, .int .i64 a0_2] 28 (0, 0)) (by (with_reducible repeat (first | refine blk_drewN ?_ _ | refine blk_drew ?_ | refine blk_alloc ?_ _)); exact BK151.out)) : gb152 ≠ gb151)); clear BK151; clear HB; have BK151 := n0_; have HB := n1_; have BK152 := n2_; have GW152 := n3_; have GE152 := n4_; have NB151_152 := n5_; have NB152_151 := n6_; clear n0_ n1_ n2_ n3_ n4_ n5_ n6_; clear hb hbox hg; have hnb6 := NB151_152.out; have hnc6 := NB152_151.out; have hcz7_0 : w5.cell? ⟨gb151, 0, none⟩ = some (.slice A0_0 l0_0.length c0_0) := (blk_cell BK151.out 0).trans rfl; have hcz7_1 : w5.cell? ⟨gb151, 1, none⟩ = some (.slice A0_1 l0_1.length c0_1) := (blk_cell BK151.out 1).trans rfl; have hcz7_2 : w5.cell? ⟨gb151, 2, none⟩ = some (.int .i64 a0_2) := (blk_cell BK151.out 2).trans rfl; have hfz7_0 := blk_frozen BK151.out 0; have hfz7_1 := blk_frozen BK151.out 1; have hfz7_2 := blk_frozen BK151.out 2) | ((with_reducible refine gate_builtin (b := .append) (xs := #[.const (.slice none 0 0), .tmp 4]) rfl ?_); at_builtin; refine Kd.R_append_rows k32 (w0 := w) w.heap.size rfl (.const (.slice none 0 0)) (.tmp 4) 25 32 (.agg #[(.int .i64 0), (.int .i64 0), (.int .i64 0), (.bool false), (.bool false)]) 32 rfl Try.underlying25 info32 rfl (by decide) (by omega) (.slice none 0 0) ([] : List (S32)) l0_0 _ _ _ (fun _ => True) (fun _ => False) rfl rfl ?aO ?aR (fun _ _ h => h) (fun _ h => h.elim) ?aF ?aB ?aS ?aL ?_; (case aR => repeat (first | exact (by first | exact (Kd.C_below HR0_0.out HB.out) | exact HR0_0.out) | (with_reducible refine Kd.C_alloc ?_ _) | (with_reducible refine Kd.C_drewN ?_ _) | (with_reducible refine Kd.C_drew ?_))); (case aB => exact (by repeat (first | (with_reducible first | exact HB.out | apply below_alloc | apply pw_below_drewN | apply below_drew1 | refine below_set ?_ GE151.out | refine below_set ?_ GE152.out) | exact HB.out))); (case aF => exact (fun _ _ => trivial)); (case aO => exact ((Kd.R_nil _ _ _ _ (fun _ => True)))); (case aS => exact (below_size (by repeat (first | (with_reducible first | exact HB.out | apply below_alloc | apply pw_below_drewN | apply below_drew1 | refine below_set ?_ GE151.out | refine below_set ?_ GE152.out) | exact HB.out)))); (case aL => have := LMc2.out; omega); intro v154 w8 ho hb hg hat; rw [← Ny153.out] at ho; have n0_ := Aside0.mk (blk_grown (g := gb151) (o := .cells #[.slice A0_0 l0_0.length c0_0, .slice A0_1 l0_1.length c0_1, .int .i64 a0_2] 28 (0, 0)) (by (with_reducible repeat (first | refine blk_drewN ?_ _ | refine blk_drew ?_ | refine blk_alloc ?_ _)); exact BK151.out) hg (by simp [Value.ownBlock])); have n1_ := Aside0.mk (blk_grown (g := gb152) (o := .cells #[.slice none 0 0, .slice none 0 0, .int .i64 0] 28 (0, 0)) (by (with_reducible repeat (first | refine blk_drewN ?_ _ | refine blk_drew ?_ | refine blk_alloc ?_ _)); exact BK152.out) hg (by simp [Value.ownBlock])); have n2_ := Aside0.mk (hb); have n3_ := Aside0.mk (ho); clear BK151; clear BK152; clear HB; have BK151 := n0_; have BK152 := n1_; have HB := n2_; have HO155 := n3_; clear n0_ n1_ n2_ n3_; clear ho hb hg hat; obtain ⟨Ao9, co9, eo9⟩ := Kd.R_slice HO155.out; subst eo9; have hcz10_0 : w8.cell? ⟨gb151, 0, none⟩ = some (.slice A0_0 l0_0.length c0_0) := (blk_cell BK151.out 0).trans rfl; have hcz10_1 : w8.cell? ⟨gb151, 1, none⟩ = some (.slice A0_1 l0_1.length c0_1) := (blk_cell BK151.out 1).trans rfl; have hcz10_2 : w8.cell? ⟨gb151, 2, none⟩ = some (.int .i64 a0_2) := (blk_cell BK151.out 2).trans rfl; have hfz10_0 := blk_frozen BK151.out 0; have hfz10_1 := blk_frozen BK151.out 1; have hfz10_2 := blk_frozen BK151.out 2) | ((with_reducible refine gate_builtin (b := .append) (xs := #[.const (.slice none 0 0), .tmp 8]) rfl ?_); at_builtin; refine Kd.R_append_rows (Kd.int .i64) (w0 := w) w.heap.size rfl (.const (.slice none 0 0)) (.tmp 8) 26 3 (.int .i64 0) 8 rfl Try.underlying26 info3 rfl (by decide) (by omega) (.slice none 0 0) ([] : List Int) l0_1 _ _ _ (fun _ => True) (fun _ => False) rfl rfl ?aO ?aR (fun _ _ h => h) (fun _ h => h.elim) ?aF ?aB ?aS ?aL ?_; (case aR => exact Kd.C_below HR0_1.out (by repeat (first | (with_reducible first | exact HB.out | apply below_alloc | apply pw_below_drewN | apply below_drew1 | refine below_set ?_ GE151.out | refine below_set ?_ GE152.out) | exact HB.out))); (case aB => exact (by repeat (first | (with_reducible first | exact HB.out | apply below_alloc | apply pw_below_drewN | apply below_drew1 | refine below_set ?_ GE151.out | refine below_set ?_ GE152.out) | exact HB.out))); (case aF => exact (fun _ _ => trivial)); (case aO => exact ((Kd.R_nil _ _ _ _ (fun _ => True)))); (case aS => exact (below_size (by repeat (first | (with_reducible first | exact HB.out | apply below_alloc | apply pw_below_drewN | apply below_drew1 | refine below_set ?_ GE151.out | refine below_set ?_ GE152.out) | exact HB.out)))); (case aL => have := LMc3.out; omega); intro v157 w11 ho hb hg hat; rw [← Ny156.out] at ho; have n0_ := Aside0.mk (blk_grown (g := gb151) (o := .cells #[.slice Ao9 y153.length co9, .slice A0_1 l0_1.length c0_1, .int .i64 a0_2] 28 (0, 0)) (by (with_reducible repeat (first | refine blk_drewN ?_ _ | refine blk_drew ?_ | refine blk_alloc ?_ _)); refine blk_put (cs := #[.slice A0_0 l0_0.length c0_0, .slice A0_1 l0_1.length c0_1, .int .i64 a0_2]) ?_ 0 _ rfl; (with_reducible repeat (first | refine blk_drewN ?_ _ | refine blk_drew ?_ | refine blk_alloc ?_ _)); exact BK151.out) hg (by simp [Value.ownBlock])); have n1_ := Aside0.mk (blk_grown (g := gb152) (o := .cells #[.slice none 0 0, .slice none 0 0, .int .i64 0] 28 (0, 0)) (by (with_reducible repeat (first | refine blk_drewN ?_ _ | refine blk_drew ?_ | refine blk_alloc ?_ _)); refine blk_far ?_ NB152_151.out _; (with_reducible repeat (first | refine blk_drewN ?_ _ | refine blk_drew ?_ | refine blk_alloc ?_ _)); exact BK152.out) hg (by simp [Value.ownBlock])); have n2_ := Aside0.mk (Kd.R_grown (by (with_reducible repeat (first | apply Kd.R_alloc | apply Kd.R_drewN | apply Kd.R_drew)); exact (Kd.R_mono (Kd.R_far (p := ⟨gb151, 0, none⟩) (Kd.R_types HO155.out BK151.out (by decide)) (fun _ hk => hk.2) (.slice Ao9 y153.length co9)) (fun _ h_ => h_.1))) hg (fun _ _ => by simp [Value.ownBlock])); have n3_ := Aside0.mk (hb); have n4_ := Aside0.mk (ho); clear BK151; clear BK152; clear HO155; clear HB; have BK151 := n0_; have BK152 := n1_; have HO155 := n2_; have HB := n3_; have HO158 := n4_; clear n0_ n1_ n2_ n3_ n4_; clear ho hb hg hat; obtain ⟨Ao12, co12, eo12⟩ := Kd.R_slice HO158.out; subst eo12; have hcz13_0 : w11.cell? ⟨gb151, 0, none⟩ = some (.slice Ao9 y153.length co9) := (blk_cell BK151.out 0).trans rfl; have hcz13_1 : w11.cell? ⟨gb151, 1, none⟩ = some (.slice A0_1 l0_1.length c0_1) := (blk_cell BK151.out 1).trans rfl; have hcz13_2 : w11.cell? ⟨gb151, 2, none⟩ = some (.int .i64 a0_2) := (blk_cell BK151.out 2).trans rfl; have hfz13_0 := blk_frozen BK151.out 0; have hfz13_1 := blk_frozen BK151.out 1; have hfz13_2 := blk_frozen BK151.out 2; have hcz14_0 : w11.cell? ⟨gb152, 0, none⟩ = some (.slice none 0 0) := (blk_cell BK152.out 0).trans rfl; have hcz14_1 : w11.cell? ⟨gb152, 1, none⟩ = some (.slice none 0 0) := (blk_cell BK152.out 1).trans rfl; have hcz14_2 : w11.cell? ⟨gb152, 2, none⟩ = some (.int .i64 0) := (blk_cell BK152.out 2).trans rfl; have hfz14_0 := blk_frozen BK152.out 0; have hfz14_1 := blk_frozen BK152.out 1; have hfz14_2 := blk_frozen BK152.out 2))
 refine bodyPost_ret (results_cell_row rfl _ _ gb152 28 #[.slice Ao9 y153.length co9, .slice Ao12 y156.length co12, .int .i64 a0_2] (0, 0) _ rfl (by (with_reducible repeat (first | refine blk_drewN ?_ _ | refine blk_drew ?_ | refine blk_alloc ?_ _)); refine blk_put (cs := #[.slice Ao9 y153.length co9, .slice Ao12 y156.length co12, .int .i64 0]) ?_ 2 _ rfl; (with_reducible repeat (first | refine blk_drewN ?_ _ | refine blk_drew ?_ | refine blk_alloc ?_ _)); refine blk_put (cs := #[.slice Ao9 y153.length co9, .slice none 0 0, .int .i64 0]) ?_ 1 _ rfl; (with_reducible repeat (first | refine blk_drewN ?_ _ | refine blk_drew ?_ | refine blk_alloc ?_ _)); refine blk_put (cs := #[.slice none 0 0, .slice none 0 0, .int .i64 0]) ?_ 0 _ rfl; (with_reducible repeat (first | refine blk_drewN ?_ _ | refine blk_drew ?_ | refine blk_alloc ?_ _)); refine blk_far ?_ NB152_151.out _; (with_reducible repeat (first | refine blk_drewN ?_ _ | refine blk_drew ?_ | refine blk_alloc ?_ _)); exact BK152.out) Try.underlying28 rfl (by kernel_rfl)) rfl ?_
 exact ⟨_, _, by first | rfl | (simp [errW_none, errW_some] <;> rfl) | (simp [*, errW_none, errW_some] <;> rfl), by (with_reducible repeat (first | apply Kd.R_alloc | apply Kd.R_drewN | apply Kd.R_drew)); exact Kd.R_mono (Kd.R_far (p := ⟨gb152, 2, none⟩) (Kd.R_far (p := ⟨gb152, 1, none⟩) (Kd.R_far (p := ⟨gb152, 0, none⟩) (Kd.R_far (p := ⟨gb151, 1, none⟩) (Kd.R_types (Kd.R_types HO155.out BK151.out (by decide)) BK152.out (by decide)) (fun _ hk => hk.1.2) (.slice Ao12 y156.length co12)) (fun _ hk => hk.2) (.slice Ao9 y153.length co9)) (fun _ hk => hk.2) (.slice Ao12 y156.length co12)) (fun _ hk => hk.2) (.int .i64 a0_2)) (fun _ hk => trivial), by (with_reducible repeat (first | apply Kd.R_alloc | apply Kd.R_drewN | apply Kd.R_drew)); exact Kd.R_mono (Kd.R_far (p := ⟨gb152, 2, none⟩) (Kd.R_far (p := ⟨gb152, 1, none⟩) (Kd.R_far (p := ⟨gb152, 0, none⟩) (Kd.R_far (p := ⟨gb151, 1, none⟩) (Kd.R_types (Kd.R_types HO158.out BK151.out (by decide)) BK152.out (by decide)) (fun _ hk => hk.1.2) (.slice Ao12 y156.length co12)) (fun _ hk => hk.2) (.slice Ao9 y153.length co9)) (fun _ hk => hk.2) (.slice Ao12 y156.length co12)) (fun _ hk => hk.2) (.int .i64 a0_2)) (fun _ hk => trivial), by repeat (first | (with_reducible first | exact HB.out | apply below_alloc | apply pw_below_drewN | apply below_drew1 | refine below_set ?_ GE151.out | refine below_set ?_ GE152.out) | exact HB.out)⟩

/-! ### feeder_open: function 44 -/
def feeder_open.f (l0_0 : List (S32)) (l0_1 : List Int) (a0_2 : Int) (a1 : Int) (a2 : Int) : Option (Bool × (List (S32))) := if 0 ≤ a1 then (if a1 < (l0_0.length : Int) then (if ((rd_T32 l0_0 a1).f3 = true) then ((some (l0_0.set (a1 : Int).toNat (⟨(rd_T32 l0_0 a1).f0, (rd_T32 l0_0 a1).f1, (rd_T32 l0_0 a1).f2, false, (rd_T32 l0_0 a1).f4⟩ : S32) : List (S32))).bind fun y162 => ((some (y162.set (a1 : Int).toNat (⟨(rd_T32 y162 a1).f0, a2, (rd_T32 y162 a1).f2, (rd_T32 y162 a1).f3, (rd_T32 y162 a1).f4⟩ : S32) : List (S32))).bind fun y163 => ((some (y163.set (a1 : Int).toNat (⟨(rd_T32 y163 a1).f0, (rd_T32 y163 a1).f1, 0, (rd_T32 y163 a1).f3, (rd_T32 y163 a1).f4⟩ : S32) : List (S32))).bind fun y164 => (some (true, (y164.set (a1 : Int).toNat (⟨(rd_T32 y164 a1).f0, (rd_T32 y164 a1).f1, (rd_T32 y164 a1).f2, (rd_T32 y164 a1).f3, false⟩ : S32))))))) else (some (false, l0_0))) else (none)) else (none)
set_option maxHeartbeats 8000000 in
set_option maxRecDepth 100000 in
theorem feeder_open.calls (P0_0_ : Nat → Prop) (u9000_ : Value) (l0_0 : List (S32)) (A0_1 : Option Addr) (c0_1 : Nat) (l0_1 : List Int) (a0_2 : Int) (a1 : Int) (a2 : Int) (r1 : Bool) (r2 : List (S32)) (w0 w : World) (hB : Below w0.heap.size w0 w) (ho0_0 : Kd.R k32 32 w w0.heap.size P0_0_ u9000_ l0_0) (hr0_1 : ∀ W_, Kept w W_ (fun k_ => P0_0_ k_) → Kd.C (Kd.int .i64) W_ A0_1 l0_1.length l0_1) (hc0_1 : l0_1.length ≤ c0_1) (h : feeder_open.f l0_0 l0_1 a0_2 a1 a2 = some (r1, r2)) :
  Calls Try.prog 44 #[.agg #[u9000_, .slice A0_1 l0_1.length c0_1, .int .i64 a0_2], .int .i64 a1, .int .i64 a2] w fun e w' => e = .returned (.bool r1) ∧ Kd.R k32 32 w' w0.heap.size (fun k_ => (P0_0_ k_ ∨ w.heap.size ≤ k_)) u9000_ r2 ∧ Below w0.heap.size w0 w' ∧ Kept w w' (fun k_ => P0_0_ k_) := by
 have hu28 := Try.underlying28
 have HO0_0 := Aside0.mk (show Kd.R k32 32 w w0.heap.size (fun k_ => (P0_0_ k_ ∨ w.heap.size ≤ k_)) u9000_ l0_0 from Kd.R_mono ho0_0 (fun k_ hk => (.inl hk)))
 have HR0_1 := Aside0.mk hr0_1
 have HC0_1 := Aside0.mk hc0_1
 clear hr0_1 hc0_1
 have HK := Aside0.mk (Kept.refl w (fun k_ => P0_0_ k_))
 have HW0 := Aside0.mk hB.size
 have HB := Aside0.mk hB
 clear hB
 have H : (if 0 ≤ a1 then (if a1 < (l0_0.length : Int) then (if ((rd_T32 l0_0 a1).f3 = true) then ((some (l0_0.set (a1 : Int).toNat (⟨(rd_T32 l0_0 a1).f0, (rd_T32 l0_0 a1).f1, (rd_T32 l0_0 a1).f2, false, (rd_T32 l0_0 a1).f4⟩ : S32) : List (S32))).bind fun y162 => ((some (y162.set (a1 : Int).toNat (⟨(rd_T32 y162 a1).f0, a2, (rd_T32 y162 a1).f2, (rd_T32 y162 a1).f3, (rd_T32 y162 a1).f4⟩ : S32) : List (S32))).bind fun y163 => ((some (y163.set (a1 : Int).toNat (⟨(rd_T32 y163 a1).f0, (rd_T32 y163 a1).f1, 0, (rd_T32 y163 a1).f3, (rd_T32 y163 a1).f4⟩ : S32) : List (S32))).bind fun y164 => (some (true, (y164.set (a1 : Int).toNat (⟨(rd_T32 y164 a1).f0, (rd_T32 y164 a1).f1, (rd_T32 y164 a1).f2, (rd_T32 y164 a1).f3, false⟩ : S32))))))) else (some (false, l0_0))) else (none)) else (none)) = some (r1, r2) := h
 clear h
 by_cases c4 : 0 ≤ a1
 rotate_left
 ·
  rw [if_neg c4] at H
  exact absurd H (by simp)
 rw [if_pos c4] at H
 have c4b0 : decide (0 ≤ a1) = true := decide_eq_true c4
 clear c4
 by_cases c5 : a1 < (l0_0.length : Int)
 rotate_left
 ·
  rw [if_neg c5] at H
  exact absurd H (by simp)
 rw [if_pos c5] at H
 have c5b0 : decide (a1 < (l0_0.length : Int)) = true := decide_eq_true c5
 clear c5
 obtain ⟨bq6, hbq6⟩ : ∃ b_ : Bool, b_ = ((rd_T32 l0_0 a1).f3) := ⟨_, rfl⟩
 replace H : (if (bq6 = true) then ((some (l0_0.set (a1 : Int).toNat (⟨(rd_T32 l0_0 a1).f0, (rd_T32 l0_0 a1).f1, (rd_T32 l0_0 a1).f2, false, (rd_T32 l0_0 a1).f4⟩ : S32) : List (S32))).bind fun y162 => ((some (y162.set (a1 : Int).toNat (⟨(rd_T32 y162 a1).f0, a2, (rd_T32 y162 a1).f2, (rd_T32 y162 a1).f3, (rd_T32 y162 a1).f4⟩ : S32) : List (S32))).bind fun y163 => ((some (y163.set (a1 : Int).toNat (⟨(rd_T32 y163 a1).f0, (rd_T32 y163 a1).f1, 0, (rd_T32 y163 a1).f3, (rd_T32 y163 a1).f4⟩ : S32) : List (S32))).bind fun y164 => (some (true, (y164.set (a1 : Int).toNat (⟨(rd_T32 y164 a1).f0, (rd_T32 y164 a1).f1, (rd_T32 y164 a1).f2, (rd_T32 y164 a1).f3, false⟩ : S32))))))) else (some (false, l0_0))) = some (r1, r2) := by rw [← hbq6] at H; exact H
 have Nbq6 := Aside0.mk hbq6
 clear hbq6
 by_cases c7 : (bq6 = true)
 ·
  subst c7
  have H1 : ((some (l0_0.set (a1 : Int).toNat (⟨(rd_T32 l0_0 a1).f0, (rd_T32 l0_0 a1).f1, (rd_T32 l0_0 a1).f2, false, (rd_T32 l0_0 a1).f4⟩ : S32) : List (S32))).bind fun y162 => ((some (y162.set (a1 : Int).toNat (⟨(rd_T32 y162 a1).f0, a2, (rd_T32 y162 a1).f2, (rd_T32 y162 a1).f3, (rd_T32 y162 a1).f4⟩ : S32) : List (S32))).bind fun y163 => ((some (y163.set (a1 : Int).toNat (⟨(rd_T32 y163 a1).f0, (rd_T32 y163 a1).f1, 0, (rd_T32 y163 a1).f3, (rd_T32 y163 a1).f4⟩ : S32) : List (S32))).bind fun y164 => (some (true, (y164.set (a1 : Int).toNat (⟨(rd_T32 y164 a1).f0, (rd_T32 y164 a1).f1, (rd_T32 y164 a1).f2, (rd_T32 y164 a1).f3, false⟩ : S32))))))) = some (r1, r2) := by rw [if_pos rfl] at H; exact H
  clear H
  have H := H1
  clear H1
  obtain ⟨y162, hy162⟩ : ∃ y_ : List (S32), y_ = (l0_0.set (a1 : Int).toNat (⟨(rd_T32 l0_0 a1).f0, (rd_T32 l0_0 a1).f1, (rd_T32 l0_0 a1).f2, false, (rd_T32 l0_0 a1).f4⟩ : S32)) := ⟨_, rfl⟩
  replace H : ((some (y162.set (a1 : Int).toNat (⟨(rd_T32 y162 a1).f0, a2, (rd_T32 y162 a1).f2, (rd_T32 y162 a1).f3, (rd_T32 y162 a1).f4⟩ : S32) : List (S32))).bind fun y163 => ((some (y163.set (a1 : Int).toNat (⟨(rd_T32 y163 a1).f0, (rd_T32 y163 a1).f1, 0, (rd_T32 y163 a1).f3, (rd_T32 y163 a1).f4⟩ : S32) : List (S32))).bind fun y164 => (some (true, (y164.set (a1 : Int).toNat (⟨(rd_T32 y164 a1).f0, (rd_T32 y164 a1).f1, (rd_T32 y164 a1).f2, (rd_T32 y164 a1).f3, false⟩ : S32)))))) = some (r1, r2) := by first | (rw [hy162]; with_reducible exact H) | (have H2_ := (Option.bind_some _ _).symm.trans H; rw [hy162]; with_reducible exact H2_) | (have H2_ := (Option.bind_some _ _).symm.trans H; with_reducible exact H2_) | with_reducible exact H | (rw [hy162]; exact H) | exact H
  have Ny162 := Aside0.mk hy162
  clear hy162
  obtain ⟨y163, hy163⟩ : ∃ y_ : List (S32), y_ = (y162.set (a1 : Int).toNat (⟨(rd_T32 y162 a1).f0, a2, (rd_T32 y162 a1).f2, (rd_T32 y162 a1).f3, (rd_T32 y162 a1).f4⟩ : S32)) := ⟨_, rfl⟩
  replace H : ((some (y163.set (a1 : Int).toNat (⟨(rd_T32 y163 a1).f0, (rd_T32 y163 a1).f1, 0, (rd_T32 y163 a1).f3, (rd_T32 y163 a1).f4⟩ : S32) : List (S32))).bind fun y164 => (some (true, (y164.set (a1 : Int).toNat (⟨(rd_T32 y164 a1).f0, (rd_T32 y164 a1).f1, (rd_T32 y164 a1).f2, (rd_T32 y164 a1).f3, false⟩ : S32))))) = some (r1, r2) := by first | (rw [hy163]; with_reducible exact H) | (have H2_ := (Option.bind_some _ _).symm.trans H; rw [hy163]; with_reducible exact H2_) | (have H2_ := (Option.bind_some _ _).symm.trans H; with_reducible exact H2_) | with_reducible exact H | (rw [hy163]; exact H) | exact H
  have Ny163 := Aside0.mk hy163
  clear hy163
  obtain ⟨y164, hy164⟩ : ∃ y_ : List (S32), y_ = (y163.set (a1 : Int).toNat (⟨(rd_T32 y163 a1).f0, (rd_T32 y163 a1).f1, 0, (rd_T32 y163 a1).f3, (rd_T32 y163 a1).f4⟩ : S32)) := ⟨_, rfl⟩
  replace H : (some (true, (y164.set (a1 : Int).toNat (⟨(rd_T32 y164 a1).f0, (rd_T32 y164 a1).f1, (rd_T32 y164 a1).f2, (rd_T32 y164 a1).f3, false⟩ : S32)))) = some (r1, r2) := by first | (rw [hy164]; with_reducible exact H) | (have H2_ := (Option.bind_some _ _).symm.trans H; rw [hy164]; with_reducible exact H2_) | (have H2_ := (Option.bind_some _ _).symm.trans H; with_reducible exact H2_) | with_reducible exact H | (rw [hy164]; exact H) | exact H
  have Ny164 := Aside0.mk hy164
  clear hy164
  obtain ⟨y165, hy165⟩ : ∃ y_ : List (S32), y_ = (y164.set (a1 : Int).toNat (⟨(rd_T32 y164 a1).f0, (rd_T32 y164 a1).f1, (rd_T32 y164 a1).f2, (rd_T32 y164 a1).f3, false⟩ : S32)) := ⟨_, rfl⟩
  replace H : (some (true, y165)) = some (r1, r2) := by first | (rw [hy165]; with_reducible exact H) | (have H2_ := (Option.bind_some _ _).symm.trans H; rw [hy165]; with_reducible exact H2_) | (have H2_ := (Option.bind_some _ _).symm.trans H; with_reducible exact H2_) | with_reducible exact H | (rw [hy165]; exact H) | exact H
  have Ny165 := Aside0.mk hy165
  clear hy165
  simp only [Option.some.injEq, Prod.mk.injEq] at H
  obtain ⟨rfl, rfl⟩ := H
  obtain ⟨Ao12, co12, eo12⟩ := Kd.R_slice HO0_0.out
  subst eo12
  go_enter Try.func44, Try.ntmps44
  go_wp2_with (first | ((with_reducible refine gate_dst (N := 3) rfl ?_); refine box_event ?hg (N := 3) ?hd (cs := #[.slice Ao12 l0_0.length co12, .slice A0_1 l0_1.length c0_1, .int .i64 a0_2]) (t := 28) ?hr ?_; (case hd => rfl); (case hg => rfl); (case hr => first | (go_simp; done) | (go_simp; rfl)); intro gb159 hg w13 hbox hb; have n0_ := Aside0.mk (Kd.R_below (by (with_reducible repeat (first | apply Kd.R_alloc | apply Kd.R_drewN | apply Kd.R_drew)); exact HO0_0.out) hb); have n1_ := Aside0.mk (Kept.below (S := (fun k_ => P0_0_ k_)) (by repeat (first | (with_reducible first | exact HK.out | apply Kept.alloc | apply Kept.drewN | apply Kept.drew) | exact HK.out)) hb); have n2_ := Aside0.mk (below_step (by repeat (first | (with_reducible first | exact HB.out | apply below_alloc | apply pw_below_drewN | apply below_drew1) | exact HB.out)) hb); have n3_ := Aside0.mk (hbox); have n4_ := Aside0.mk ((by rw [hg]; exact (by first | exact HK.out.1 | exact (show Kept w _ (fun k_ => P0_0_ k_) from by repeat (first | (with_reducible first | exact HK.out | apply Kept.alloc | apply Kept.drewN | apply Kept.drew) | exact HK.out)).1) : w.heap.size ≤ gb159)); have n5_ := Aside0.mk ((by rw [hg]; exact (below_size (by repeat (first | (with_reducible first | exact HB.out | apply below_alloc | apply pw_below_drewN | apply below_drew1) | exact HB.out))) : w0.heap.size ≤ gb159)); clear HO0_0; clear HK; clear HB; have HO0_0 := n0_; have HK := n1_; have HB := n2_; have BK159 := n3_; have GW159 := n4_; have GE159 := n5_; clear n0_ n1_ n2_ n3_ n4_ n5_; clear hb hbox hg; have hcz14_0 : w13.cell? ⟨gb159, 0, none⟩ = some (.slice Ao12 l0_0.length co12) := (blk_cell BK159.out 0).trans rfl; have hcz14_1 : w13.cell? ⟨gb159, 1, none⟩ = some (.slice A0_1 l0_1.length c0_1) := (blk_cell BK159.out 1).trans rfl; have hcz14_2 : w13.cell? ⟨gb159, 2, none⟩ = some (.int .i64 a0_2) := (blk_cell BK159.out 2).trans rfl; have hfz14_0 := blk_frozen BK159.out 0; have hfz14_1 := blk_frozen BK159.out 1; have hfz14_2 := blk_frozen BK159.out 2; have p160 : 0 ≤ (a1 : Int) := of_decide_eq_true (by first | (with_reducible assumption) | assumption); have q160 : a1 < (l0_0.length : Int) := of_decide_eq_true (by first | (with_reducible assumption) | assumption); obtain ⟨ad160, e160, hx160_0, hx160_1, hx160_2, hx160_3, hx160_4⟩ := at_T32 (Kd.R_reads' HO0_0.out).2.2 a1 p160 q160; (try rw [← Nbq6.out] at hx160_3); (try rw [← Nbq6.out] at hx160_4); cases e160; replace p160 := eq_true p160; replace q160 := eq_true q160; have p161 : 0 ≤ (a1 : Int) := of_decide_eq_true (by first | (with_reducible assumption) | assumption); have q161 : a1 < (l0_0.length : Int) := of_decide_eq_true (by first | (with_reducible assumption) | assumption); obtain ⟨ad161, e161, hx161_0, hx161_1, hx161_2, hx161_3, hx161_4⟩ := at_T32 (Kd.R_reads' HO0_0.out).2.2 a1 p161 q161; (try rw [← Nbq6.out] at hx161_3); (try rw [← Nbq6.out] at hx161_4); obtain rfl : ad160 = ad161 := (by injection e161); replace p161 := eq_true p161; replace q161 := eq_true q161; have p8 : 0 ≤ (a1 : Int) := of_decide_eq_true (by first | (with_reducible assumption) | assumption); have q8 : (a1 : Int) < ((l0_0.length : Int) : Int) := of_decide_eq_true (by first | (with_reducible assumption) | assumption); obtain ⟨go8, co8, eo8, gb8, gl8, cl8, HG8⟩ := Kd.R_form HO0_0.out (by omega); (first | cases eo8 | (injection eo8 with ea_ en_ ec_; (first | subst ea_ | (injection ea_ with ea_; subst ea_)); subst ec_; clear en_)); have GB8 := Aside0.mk gb8; have GG8 := Aside0.mk HG8; clear gb8 gl8 HG8; have HMgo8 := Aside0.mk (show (P0_0_ go8 ∨ w.heap.size ≤ go8) from (HO0_0.out.1 _ rfl)); (first | simp only [add_plain] at hx160_0 | skip); (first | simp only [add_plain] at hx160_1 | skip); (first | simp only [add_plain] at hx160_2 | skip); (first | simp only [add_plain] at hx160_3 | skip); (first | simp only [add_plain] at hx160_4 | skip); (first | simp only [add_plain] at hx161_0 | skip); (first | simp only [add_plain] at hx161_1 | skip); (first | simp only [add_plain] at hx161_2 | skip); (first | simp only [add_plain] at hx161_3 | skip); (first | simp only [add_plain] at hx161_4 | skip); obtain ⟨ce8, hcl8, hM8, hcc8, hfr8⟩ := Kd.R_elem HO0_0.out z32 (a1 : Int) p8 q8; obtain rfl := k32_openM hM8; have hx8_0 : w13.cell? ⟨go8, (a1 : Int).toNat * 5, none⟩ = some (.int .i64 ((rd_T32 l0_0 a1).f0)) := hcc8 0 _ rfl; have hx8_1 : w13.cell? ⟨go8, (a1 : Int).toNat * 5 + 1, none⟩ = some (.int .i64 ((rd_T32 l0_0 a1).f1)) := hcc8 1 _ rfl; have hx8_2 : w13.cell? ⟨go8, (a1 : Int).toNat * 5 + 2, none⟩ = some (.int .i64 ((rd_T32 l0_0 a1).f2)) := hcc8 2 _ rfl; have hx8_3 : w13.cell? ⟨go8, (a1 : Int).toNat * 5 + 3, none⟩ = some (.bool ((rd_T32 l0_0 a1).f3)) := hcc8 3 _ rfl; have hx8_4 : w13.cell? ⟨go8, (a1 : Int).toNat * 5 + 4, none⟩ = some (.bool ((rd_T32 l0_0 a1).f4)) := hcc8 4 _ rfl; have hf8_0 : w13.frozen? ⟨go8, (a1 : Int).toNat * 5, none⟩ = false := hfr8 0; have hf8_1 : w13.frozen? ⟨go8, (a1 : Int).toNat * 5 + 1, none⟩ = false := hfr8 1; have hf8_2 : w13.frozen? ⟨go8, (a1 : Int).toNat * 5 + 2, none⟩ = false := hfr8 2; have hf8_3 : w13.frozen? ⟨go8, (a1 : Int).toNat * 5 + 3, none⟩ = false := hfr8 3; have hf8_4 : w13.frozen? ⟨go8, (a1 : Int).toNat * 5 + 4, none⟩ = false := hfr8 4; clear hcl8 hcc8 hfr8 hM8; replace p8 := eq_true p8; replace q8 := eq_true q8; have HX15 := Aside0.mk (show Kd.R k32 32 w13 w0.heap.size (fun k_ => (P0_0_ k_ ∨ w.heap.size ≤ k_)) (.slice (some ⟨go8, 0, none⟩) l0_0.length co12) l0_0 from (by (with_reducible repeat (first | apply Kd.R_alloc | apply Kd.R_drewN | apply Kd.R_drew)); exact HO0_0.out)); obtain ⟨ce15, hcl15, hM15, hcc15, hfr15⟩ := Kd.R_elem HX15.out z32 (a1 : Int) (of_decide_eq_true (by first | (with_reducible assumption) | assumption)) (by have h_ : (a1 : Int) < ((l0_0.length : Int) : Int) := of_decide_eq_true (by first | (with_reducible assumption) | assumption); first | exact h_ | (have e_ := (Kd.R_reads' HO0_0.out).1; omega) | simpa using h_); obtain rfl := k32_openM hM15; have HP15 := Kd.R_seg HX15.out (a1 : Int) (of_decide_eq_true (by first | (with_reducible assumption) | assumption)) (by have h_ : (a1 : Int) < ((l0_0.length : Int) : Int) := of_decide_eq_true (by first | (with_reducible assumption) | assumption); first | exact h_ | (have e_ := (Kd.R_reads' HO0_0.out).1; omega) | simpa using h_) (seg := [.bool false]) (j := 3) hcl15 hcc15 (show 4 ≤ 5 from by decide) (x' := (⟨(rd_T32 l0_0 a1).f0, (rd_T32 l0_0 a1).f1, (rd_T32 l0_0 a1).f2, false, (rd_T32 l0_0 a1).f4⟩ : S32)) (k32_mkM _ _ _ (⟨(rd_T32 l0_0 a1).f0, (rd_T32 l0_0 a1).f1, (rd_T32 l0_0 a1).f2, false, (rd_T32 l0_0 a1).f4⟩ : S32) ) (fun _ hk => hk); have hx15_3 := hcc15 3 _ rfl; (try simp only [show (k32).sz = 5 from rfl, Nat.mul_one, Nat.add_zero] at hx15_3); have hf15_3 := hfr15 3; (try simp only [show (k32).sz = 5 from rfl, Nat.mul_one, Nat.add_zero] at hf15_3); clear hcl15 hcc15 hfr15 hM15) | ((with_reducible refine gate_store (t := 4) (p := 23) rfl ?_); refine store_event (t := 4) (p := 23) (v := ?vo_w16) (w1 := (w13.setCell ⟨go8, (a1 : Int).toNat * 5 + 3, none⟩ (.bool false))) ?hg ?ho ?hn ?hr ?_; (case ho => rfl); (case hg => rfl); (case hn => rfl); (case hr => first | (go_simp; done) | (go_simp; rfl)); intro w16 hw; have hg : w13.grownBy w16 (some go8) := (by rw [hw]; exact HP15.2); have hp_ : Kd.R k32 32 w16 w0.heap.size (fun k_ => (P0_0_ k_ ∨ w.heap.size ≤ k_)) (.slice (some ⟨go8, 0, none⟩) l0_0.length co12) y162 := (by rw [hw, Ny162.out]; exact HP15.1); clear HP15; have n0_ := Aside0.mk (hp_); have n1_ := Aside0.mk (blk_grown (g := gb159) (o := .cells #[.slice (some ⟨go8, 0, none⟩) l0_0.length co12, .slice A0_1 l0_1.length c0_1, .int .i64 a0_2] 28 (0, 0)) (by (with_reducible repeat (first | refine blk_drewN ?_ _ | refine blk_drew ?_ | refine blk_alloc ?_ _)); exact BK159.out) hg (Kd.R_ne HO0_0.out BK159.out (by decide))); have n2_ := Aside0.mk ((by rw [hw]; exact below_set (HB.out) GB8.out : Below w0.heap.size w0 w16)); have n3_ := Aside0.mk (Kept.of_grown (S := (fun k_ => P0_0_ k_)) hg (by repeat (first | (with_reducible first | exact HK.out | apply Kept.alloc | apply Kept.drewN | apply Kept.drew | refine Kept.setCell ?_ (.inr GW159.out) _) | exact HK.out)) (fun k_ e_ => (HO0_0.out.1 k_ e_))); clear HO0_0; clear BK159; clear HB; clear HK; have HO0_0 := n0_; have BK159 := n1_; have HB := n2_; have HK := n3_; clear n0_ n1_ n2_ n3_; clear hg hw hp_; have p9 : 0 ≤ (a1 : Int) := of_decide_eq_true (by first | (with_reducible assumption) | assumption); have q9 : (a1 : Int) < ((l0_0.length : Int) : Int) := of_decide_eq_true (by first | (with_reducible assumption) | assumption); obtain ⟨ce9, hcl9, hM9, hcc9, hfr9⟩ := Kd.R_elem HO0_0.out z32 (a1 : Int) p9 q9; obtain rfl := k32_openM hM9; have hx9_0 : w16.cell? ⟨go8, (a1 : Int).toNat * 5, none⟩ = some (.int .i64 ((rd_T32 y162 a1).f0)) := hcc9 0 _ rfl; have hx9_1 : w16.cell? ⟨go8, (a1 : Int).toNat * 5 + 1, none⟩ = some (.int .i64 ((rd_T32 y162 a1).f1)) := hcc9 1 _ rfl; have hx9_2 : w16.cell? ⟨go8, (a1 : Int).toNat * 5 + 2, none⟩ = some (.int .i64 ((rd_T32 y162 a1).f2)) := hcc9 2 _ rfl; have hx9_3 : w16.cell? ⟨go8, (a1 : Int).toNat * 5 + 3, none⟩ = some (.bool ((rd_T32 y162 a1).f3)) := hcc9 3 _ rfl; have hx9_4 : w16.cell? ⟨go8, (a1 : Int).toNat * 5 + 4, none⟩ = some (.bool ((rd_T32 y162 a1).f4)) := hcc9 4 _ rfl; have hf9_0 : w16.frozen? ⟨go8, (a1 : Int).toNat * 5, none⟩ = false := hfr9 0; have hf9_1 : w16.frozen? ⟨go8, (a1 : Int).toNat * 5 + 1, none⟩ = false := hfr9 1; have hf9_2 : w16.frozen? ⟨go8, (a1 : Int).toNat * 5 + 2, none⟩ = false := hfr9 2; have hf9_3 : w16.frozen? ⟨go8, (a1 : Int).toNat * 5 + 3, none⟩ = false := hfr9 3; have hf9_4 : w16.frozen? ⟨go8, (a1 : Int).toNat * 5 + 4, none⟩ = false := hfr9 4; clear hcl9 hcc9 hfr9 hM9; replace p9 := eq_true p9; replace q9 := eq_true q9; have HX17 := Aside0.mk (show Kd.R k32 32 w16 w0.heap.size (fun k_ => (P0_0_ k_ ∨ w.heap.size ≤ k_)) (.slice (some ⟨go8, 0, none⟩) l0_0.length co12) y162 from (by (with_reducible repeat (first | apply Kd.R_alloc | apply Kd.R_drewN | apply Kd.R_drew)); exact HO0_0.out)); obtain ⟨ce17, hcl17, hM17, hcc17, hfr17⟩ := Kd.R_elem HX17.out z32 (a1 : Int) (of_decide_eq_true (by first | (with_reducible assumption) | assumption)) (by have h_ : (a1 : Int) < ((l0_0.length : Int) : Int) := of_decide_eq_true (by first | (with_reducible assumption) | assumption); first | exact h_ | (have e_ := (Kd.R_reads' HO0_0.out).1; omega) | simpa using h_); obtain rfl := k32_openM hM17; have HP17 := Kd.R_seg HX17.out (a1 : Int) (of_decide_eq_true (by first | (with_reducible assumption) | assumption)) (by have h_ : (a1 : Int) < ((l0_0.length : Int) : Int) := of_decide_eq_true (by first | (with_reducible assumption) | assumption); first | exact h_ | (have e_ := (Kd.R_reads' HO0_0.out).1; omega) | simpa using h_) (seg := [.int .i64 a2]) (j := 1) hcl17 hcc17 (show 2 ≤ 5 from by decide) (x' := (⟨(rd_T32 y162 a1).f0, a2, (rd_T32 y162 a1).f2, (rd_T32 y162 a1).f3, (rd_T32 y162 a1).f4⟩ : S32)) (k32_mkM _ _ _ (⟨(rd_T32 y162 a1).f0, a2, (rd_T32 y162 a1).f2, (rd_T32 y162 a1).f3, (rd_T32 y162 a1).f4⟩ : S32) ) (fun _ hk => hk); have hx17_1 := hcc17 1 _ rfl; (try simp only [show (k32).sz = 5 from rfl, Nat.mul_one, Nat.add_zero] at hx17_1); have hf17_1 := hfr17 1; (try simp only [show (k32).sz = 5 from rfl, Nat.mul_one, Nat.add_zero] at hf17_1); clear hcl17 hcc17 hfr17 hM17) | ((with_reducible refine gate_store (t := 3) (p := 25) rfl ?_); refine store_event (t := 3) (p := 25) (v := ?vo_w18) (w1 := (w16.setCell ⟨go8, (a1 : Int).toNat * 5 + 1, none⟩ (.int .i64 a2))) ?hg ?ho ?hn ?hr ?_; (case ho => rfl); (case hg => rfl); (case hn => rfl); (case hr => first | (go_simp; done) | (go_simp; rfl)); intro w18 hw; have hg : w16.grownBy w18 (some go8) := (by rw [hw]; exact HP17.2); have hp_ : Kd.R k32 32 w18 w0.heap.size (fun k_ => (P0_0_ k_ ∨ w.heap.size ≤ k_)) (.slice (some ⟨go8, 0, none⟩) l0_0.length co12) y163 := (by rw [hw, Ny163.out]; exact HP17.1); clear HP17; have n0_ := Aside0.mk (hp_); have n1_ := Aside0.mk (blk_grown (g := gb159) (o := .cells #[.slice (some ⟨go8, 0, none⟩) l0_0.length co12, .slice A0_1 l0_1.length c0_1, .int .i64 a0_2] 28 (0, 0)) (by (with_reducible repeat (first | refine blk_drewN ?_ _ | refine blk_drew ?_ | refine blk_alloc ?_ _)); exact BK159.out) hg (Kd.R_ne HO0_0.out BK159.out (by decide))); have n2_ := Aside0.mk ((by rw [hw]; exact below_set (HB.out) GB8.out : Below w0.heap.size w0 w18)); have n3_ := Aside0.mk (Kept.of_grown (S := (fun k_ => P0_0_ k_)) hg (by repeat (first | (with_reducible first | exact HK.out | apply Kept.alloc | apply Kept.drewN | apply Kept.drew | refine Kept.setCell ?_ (.inr GW159.out) _) | exact HK.out)) (fun k_ e_ => (HO0_0.out.1 k_ e_))); clear HO0_0; clear BK159; clear HB; clear HK; have HO0_0 := n0_; have BK159 := n1_; have HB := n2_; have HK := n3_; clear n0_ n1_ n2_ n3_; clear hg hw hp_; have p10 : 0 ≤ (a1 : Int) := of_decide_eq_true (by first | (with_reducible assumption) | assumption); have q10 : (a1 : Int) < ((l0_0.length : Int) : Int) := of_decide_eq_true (by first | (with_reducible assumption) | assumption); obtain ⟨ce10, hcl10, hM10, hcc10, hfr10⟩ := Kd.R_elem HO0_0.out z32 (a1 : Int) p10 q10; obtain rfl := k32_openM hM10; have hx10_0 : w18.cell? ⟨go8, (a1 : Int).toNat * 5, none⟩ = some (.int .i64 ((rd_T32 y163 a1).f0)) := hcc10 0 _ rfl; have hx10_1 : w18.cell? ⟨go8, (a1 : Int).toNat * 5 + 1, none⟩ = some (.int .i64 ((rd_T32 y163 a1).f1)) := hcc10 1 _ rfl; have hx10_2 : w18.cell? ⟨go8, (a1 : Int).toNat * 5 + 2, none⟩ = some (.int .i64 ((rd_T32 y163 a1).f2)) := hcc10 2 _ rfl; have hx10_3 : w18.cell? ⟨go8, (a1 : Int).toNat * 5 + 3, none⟩ = some (.bool ((rd_T32 y163 a1).f3)) := hcc10 3 _ rfl; have hx10_4 : w18.cell? ⟨go8, (a1 : Int).toNat * 5 + 4, none⟩ = some (.bool ((rd_T32 y163 a1).f4)) := hcc10 4 _ rfl; have hf10_0 : w18.frozen? ⟨go8, (a1 : Int).toNat * 5, none⟩ = false := hfr10 0; have hf10_1 : w18.frozen? ⟨go8, (a1 : Int).toNat * 5 + 1, none⟩ = false := hfr10 1; have hf10_2 : w18.frozen? ⟨go8, (a1 : Int).toNat * 5 + 2, none⟩ = false := hfr10 2; have hf10_3 : w18.frozen? ⟨go8, (a1 : Int).toNat * 5 + 3, none⟩ = false := hfr10 3; have hf10_4 : w18.frozen? ⟨go8, (a1 : Int).toNat * 5 + 4, none⟩ = false := hfr10 4; clear hcl10 hcc10 hfr10 hM10; replace p10 := eq_true p10; replace q10 := eq_true q10; have HX19 := Aside0.mk (show Kd.R k32 32 w18 w0.heap.size (fun k_ => (P0_0_ k_ ∨ w.heap.size ≤ k_)) (.slice (some ⟨go8, 0, none⟩) l0_0.length co12) y163 from (by (with_reducible repeat (first | apply Kd.R_alloc | apply Kd.R_drewN | apply Kd.R_drew)); exact HO0_0.out)); obtain ⟨ce19, hcl19, hM19, hcc19, hfr19⟩ := Kd.R_elem HX19.out z32 (a1 : Int) (of_decide_eq_true (by first | (with_reducible assumption) | assumption)) (by have h_ : (a1 : Int) < ((l0_0.length : Int) : Int) := of_decide_eq_true (by first | (with_reducible assumption) | assumption); first | exact h_ | (have e_ := (Kd.R_reads' HO0_0.out).1; omega) | simpa using h_); obtain rfl := k32_openM hM19; have HP19 := Kd.R_seg HX19.out (a1 : Int) (of_decide_eq_true (by first | (with_reducible assumption) | assumption)) (by have h_ : (a1 : Int) < ((l0_0.length : Int) : Int) := of_decide_eq_true (by first | (with_reducible assumption) | assumption); first | exact h_ | (have e_ := (Kd.R_reads' HO0_0.out).1; omega) | simpa using h_) (seg := [.int .i64 0]) (j := 2) hcl19 hcc19 (show 3 ≤ 5 from by decide) (x' := (⟨(rd_T32 y163 a1).f0, (rd_T32 y163 a1).f1, 0, (rd_T32 y163 a1).f3, (rd_T32 y163 a1).f4⟩ : S32)) (k32_mkM _ _ _ (⟨(rd_T32 y163 a1).f0, (rd_T32 y163 a1).f1, 0, (rd_T32 y163 a1).f3, (rd_T32 y163 a1).f4⟩ : S32) ) (fun _ hk => hk); have hx19_2 := hcc19 2 _ rfl; (try simp only [show (k32).sz = 5 from rfl, Nat.mul_one, Nat.add_zero] at hx19_2); have hf19_2 := hfr19 2; (try simp only [show (k32).sz = 5 from rfl, Nat.mul_one, Nat.add_zero] at hf19_2); clear hcl19 hcc19 hfr19 hM19) | ((with_reducible refine gate_store (t := 3) (p := 27) rfl ?_); refine store_event (t := 3) (p := 27) (v := ?vo_w20) (w1 := (w18.setCell ⟨go8, (a1 : Int).toNat * 5 + 2, none⟩ (.int .i64 0))) ?hg ?ho ?hn ?hr ?_; (case ho => rfl); (case hg => rfl); (case hn => rfl); (case hr => first | (go_simp; done) | (go_simp; rfl)); intro w20 hw; have hg : w18.grownBy w20 (some go8) := (by rw [hw]; exact HP19.2); have hp_ : Kd.R k32 32 w20 w0.heap.size (fun k_ => (P0_0_ k_ ∨ w.heap.size ≤ k_)) (.slice (some ⟨go8, 0, none⟩) l0_0.length co12) y164 := (by rw [hw, Ny164.out]; exact HP19.1); clear HP19; have n0_ := Aside0.mk (hp_); have n1_ := Aside0.mk (blk_grown (g := gb159) (o := .cells #[.slice (some ⟨go8, 0, none⟩) l0_0.length co12, .slice A0_1 l0_1.length c0_1, .int .i64 a0_2] 28 (0, 0)) (by (with_reducible repeat (first | refine blk_drewN ?_ _ | refine blk_drew ?_ | refine blk_alloc ?_ _)); exact BK159.out) hg (Kd.R_ne HO0_0.out BK159.out (by decide))); have n2_ := Aside0.mk ((by rw [hw]; exact below_set (HB.out) GB8.out : Below w0.heap.size w0 w20)); have n3_ := Aside0.mk (Kept.of_grown (S := (fun k_ => P0_0_ k_)) hg (by repeat (first | (with_reducible first | exact HK.out | apply Kept.alloc | apply Kept.drewN | apply Kept.drew | refine Kept.setCell ?_ (.inr GW159.out) _) | exact HK.out)) (fun k_ e_ => (HO0_0.out.1 k_ e_))); clear HO0_0; clear BK159; clear HB; clear HK; have HO0_0 := n0_; have BK159 := n1_; have HB := n2_; have HK := n3_; clear n0_ n1_ n2_ n3_; clear hg hw hp_; have p11 : 0 ≤ (a1 : Int) := of_decide_eq_true (by first | (with_reducible assumption) | assumption); have q11 : (a1 : Int) < ((l0_0.length : Int) : Int) := of_decide_eq_true (by first | (with_reducible assumption) | assumption); obtain ⟨ce11, hcl11, hM11, hcc11, hfr11⟩ := Kd.R_elem HO0_0.out z32 (a1 : Int) p11 q11; obtain rfl := k32_openM hM11; have hx11_0 : w20.cell? ⟨go8, (a1 : Int).toNat * 5, none⟩ = some (.int .i64 ((rd_T32 y164 a1).f0)) := hcc11 0 _ rfl; have hx11_1 : w20.cell? ⟨go8, (a1 : Int).toNat * 5 + 1, none⟩ = some (.int .i64 ((rd_T32 y164 a1).f1)) := hcc11 1 _ rfl; have hx11_2 : w20.cell? ⟨go8, (a1 : Int).toNat * 5 + 2, none⟩ = some (.int .i64 ((rd_T32 y164 a1).f2)) := hcc11 2 _ rfl; have hx11_3 : w20.cell? ⟨go8, (a1 : Int).toNat * 5 + 3, none⟩ = some (.bool ((rd_T32 y164 a1).f3)) := hcc11 3 _ rfl; have hx11_4 : w20.cell? ⟨go8, (a1 : Int).toNat * 5 + 4, none⟩ = some (.bool ((rd_T32 y164 a1).f4)) := hcc11 4 _ rfl; have hf11_0 : w20.frozen? ⟨go8, (a1 : Int).toNat * 5, none⟩ = false := hfr11 0; have hf11_1 : w20.frozen? ⟨go8, (a1 : Int).toNat * 5 + 1, none⟩ = false := hfr11 1; have hf11_2 : w20.frozen? ⟨go8, (a1 : Int).toNat * 5 + 2, none⟩ = false := hfr11 2; have hf11_3 : w20.frozen? ⟨go8, (a1 : Int).toNat * 5 + 3, none⟩ = false := hfr11 3; have hf11_4 : w20.frozen? ⟨go8, (a1 : Int).toNat * 5 + 4, none⟩ = false := hfr11 4; clear hcl11 hcc11 hfr11 hM11; replace p11 := eq_true p11; replace q11 := eq_true q11; have HX21 := Aside0.mk (show Kd.R k32 32 w20 w0.heap.size (fun k_ => (P0_0_ k_ ∨ w.heap.size ≤ k_)) (.slice (some ⟨go8, 0, none⟩) l0_0.length co12) y164 from (by (with_reducible repeat (first | apply Kd.R_alloc | apply Kd.R_drewN | apply Kd.R_drew)); exact HO0_0.out)); obtain ⟨ce21, hcl21, hM21, hcc21, hfr21⟩ := Kd.R_elem HX21.out z32 (a1 : Int) (of_decide_eq_true (by first | (with_reducible assumption) | assumption)) (by have h_ : (a1 : Int) < ((l0_0.length : Int) : Int) := of_decide_eq_true (by first | (with_reducible assumption) | assumption); first | exact h_ | (have e_ := (Kd.R_reads' HO0_0.out).1; omega) | simpa using h_); obtain rfl := k32_openM hM21; have HP21 := Kd.R_seg HX21.out (a1 : Int) (of_decide_eq_true (by first | (with_reducible assumption) | assumption)) (by have h_ : (a1 : Int) < ((l0_0.length : Int) : Int) := of_decide_eq_true (by first | (with_reducible assumption) | assumption); first | exact h_ | (have e_ := (Kd.R_reads' HO0_0.out).1; omega) | simpa using h_) (seg := [.bool false]) (j := 4) hcl21 hcc21 (show 5 ≤ 5 from by decide) (x' := (⟨(rd_T32 y164 a1).f0, (rd_T32 y164 a1).f1, (rd_T32 y164 a1).f2, (rd_T32 y164 a1).f3, false⟩ : S32)) (k32_mkM _ _ _ (⟨(rd_T32 y164 a1).f0, (rd_T32 y164 a1).f1, (rd_T32 y164 a1).f2, (rd_T32 y164 a1).f3, false⟩ : S32) ) (fun _ hk => hk); have hx21_4 := hcc21 4 _ rfl; (try simp only [show (k32).sz = 5 from rfl, Nat.mul_one, Nat.add_zero] at hx21_4); have hf21_4 := hfr21 4; (try simp only [show (k32).sz = 5 from rfl, Nat.mul_one, Nat.add_zero] at hf21_4); clear hcl21 hcc21 hfr21 hM21) | ((with_reducible refine gate_store (t := 4) (p := 29) rfl ?_); refine store_event (t := 4) (p := 29) (v := ?vo_w22) (w1 := (w20.setCell ⟨go8, (a1 : Int).toNat * 5 + 4, none⟩ (.bool false))) ?hg ?ho ?hn ?hr ?_; (case ho => rfl); (case hg => rfl); (case hn => rfl); (case hr => first | (go_simp; done) | (go_simp; rfl)); intro w22 hw; have hg : w20.grownBy w22 (some go8) := (by rw [hw]; exact HP21.2); have hp_ : Kd.R k32 32 w22 w0.heap.size (fun k_ => (P0_0_ k_ ∨ w.heap.size ≤ k_)) (.slice (some ⟨go8, 0, none⟩) l0_0.length co12) y165 := (by rw [hw, Ny165.out]; exact HP21.1); clear HP21; have n0_ := Aside0.mk (hp_); have n1_ := Aside0.mk (blk_grown (g := gb159) (o := .cells #[.slice (some ⟨go8, 0, none⟩) l0_0.length co12, .slice A0_1 l0_1.length c0_1, .int .i64 a0_2] 28 (0, 0)) (by (with_reducible repeat (first | refine blk_drewN ?_ _ | refine blk_drew ?_ | refine blk_alloc ?_ _)); exact BK159.out) hg (Kd.R_ne HO0_0.out BK159.out (by decide))); have n2_ := Aside0.mk ((by rw [hw]; exact below_set (HB.out) GB8.out : Below w0.heap.size w0 w22)); have n3_ := Aside0.mk (Kept.of_grown (S := (fun k_ => P0_0_ k_)) hg (by repeat (first | (with_reducible first | exact HK.out | apply Kept.alloc | apply Kept.drewN | apply Kept.drew | refine Kept.setCell ?_ (.inr GW159.out) _) | exact HK.out)) (fun k_ e_ => (HO0_0.out.1 k_ e_))); clear HO0_0; clear BK159; clear HB; clear HK; have HO0_0 := n0_; have BK159 := n1_; have HB := n2_; have HK := n3_; clear n0_ n1_ n2_ n3_; clear hg hw hp_))
  go_ret
  exact ⟨by first | rfl | (simp [errW_none, errW_some] <;> rfl) | (simp [*, errW_none, errW_some] <;> rfl), by (with_reducible repeat (first | apply Kd.R_alloc | apply Kd.R_drewN | apply Kd.R_drew)); exact HO0_0.out, by repeat (first | (with_reducible first | exact HB.out | apply below_alloc | apply pw_below_drewN | apply below_drew1 | refine below_set ?_ GE159.out) | exact HB.out), by repeat (first | (with_reducible first | exact HK.out | apply Kept.alloc | apply Kept.drewN | apply Kept.drew | refine Kept.setCell ?_ (.inr GW159.out) _) | exact HK.out)⟩
 ·
  replace c7 := Bool.eq_false_iff.mpr c7
  subst c7
  have H1 : (some (false, l0_0)) = some (r1, r2) := by rw [if_neg (show ¬ (false = true) by decide)] at H; exact H
  clear H
  have H := H1
  clear H1
  simp only [Option.some.injEq, Prod.mk.injEq] at H
  obtain ⟨rfl, rfl⟩ := H
  obtain ⟨Ao23, co23, eo23⟩ := Kd.R_slice HO0_0.out
  subst eo23
  go_enter Try.func44, Try.ntmps44
  go_wp2_with (first | ((with_reducible refine gate_dst (N := 3) rfl ?_); refine box_event ?hg (N := 3) ?hd (cs := #[.slice Ao23 l0_0.length co23, .slice A0_1 l0_1.length c0_1, .int .i64 a0_2]) (t := 28) ?hr ?_; (case hd => rfl); (case hg => rfl); (case hr => first | (go_simp; done) | (go_simp; rfl)); intro gb159 hg w24 hbox hb; have n0_ := Aside0.mk (Kd.R_below (by (with_reducible repeat (first | apply Kd.R_alloc | apply Kd.R_drewN | apply Kd.R_drew)); exact HO0_0.out) hb); have n1_ := Aside0.mk (Kept.below (S := (fun k_ => P0_0_ k_)) (by repeat (first | (with_reducible first | exact HK.out | apply Kept.alloc | apply Kept.drewN | apply Kept.drew) | exact HK.out)) hb); have n2_ := Aside0.mk (below_step (by repeat (first | (with_reducible first | exact HB.out | apply below_alloc | apply pw_below_drewN | apply below_drew1) | exact HB.out)) hb); have n3_ := Aside0.mk (hbox); have n4_ := Aside0.mk ((by rw [hg]; exact (by first | exact HK.out.1 | exact (show Kept w _ (fun k_ => P0_0_ k_) from by repeat (first | (with_reducible first | exact HK.out | apply Kept.alloc | apply Kept.drewN | apply Kept.drew) | exact HK.out)).1) : w.heap.size ≤ gb159)); have n5_ := Aside0.mk ((by rw [hg]; exact (below_size (by repeat (first | (with_reducible first | exact HB.out | apply below_alloc | apply pw_below_drewN | apply below_drew1) | exact HB.out))) : w0.heap.size ≤ gb159)); clear HO0_0; clear HK; clear HB; have HO0_0 := n0_; have HK := n1_; have HB := n2_; have BK159 := n3_; have GW159 := n4_; have GE159 := n5_; clear n0_ n1_ n2_ n3_ n4_ n5_; clear hb hbox hg; have hcz25_0 : w24.cell? ⟨gb159, 0, none⟩ = some (.slice Ao23 l0_0.length co23) := (blk_cell BK159.out 0).trans rfl; have hcz25_1 : w24.cell? ⟨gb159, 1, none⟩ = some (.slice A0_1 l0_1.length c0_1) := (blk_cell BK159.out 1).trans rfl; have hcz25_2 : w24.cell? ⟨gb159, 2, none⟩ = some (.int .i64 a0_2) := (blk_cell BK159.out 2).trans rfl; have hfz25_0 := blk_frozen BK159.out 0; have hfz25_1 := blk_frozen BK159.out 1; have hfz25_2 := blk_frozen BK159.out 2; have p160 : 0 ≤ (a1 : Int) := of_decide_eq_true (by first | (with_reducible assumption) | assumption); have q160 : a1 < (l0_0.length : Int) := of_decide_eq_true (by first | (with_reducible assumption) | assumption); obtain ⟨ad160, e160, hx160_0, hx160_1, hx160_2, hx160_3, hx160_4⟩ := at_T32 (Kd.R_reads' HO0_0.out).2.2 a1 p160 q160; (try rw [← Nbq6.out] at hx160_3); (try rw [← Nbq6.out] at hx160_4); cases e160; replace p160 := eq_true p160; replace q160 := eq_true q160; have p161 : 0 ≤ (a1 : Int) := of_decide_eq_true (by first | (with_reducible assumption) | assumption); have q161 : a1 < (l0_0.length : Int) := of_decide_eq_true (by first | (with_reducible assumption) | assumption); obtain ⟨ad161, e161, hx161_0, hx161_1, hx161_2, hx161_3, hx161_4⟩ := at_T32 (Kd.R_reads' HO0_0.out).2.2 a1 p161 q161; (try rw [← Nbq6.out] at hx161_3); (try rw [← Nbq6.out] at hx161_4); obtain rfl : ad160 = ad161 := (by injection e161); replace p161 := eq_true p161; replace q161 := eq_true q161))
  go_ret
  exact ⟨by first | rfl | (simp [errW_none, errW_some] <;> rfl) | (simp [*, errW_none, errW_some] <;> rfl), by (with_reducible repeat (first | apply Kd.R_alloc | apply Kd.R_drewN | apply Kd.R_drew)); exact HO0_0.out, by repeat (first | (with_reducible first | exact HB.out | apply below_alloc | apply pw_below_drewN | apply below_drew1 | refine below_set ?_ GE159.out) | exact HB.out), by repeat (first | (with_reducible first | exact HK.out | apply Kept.alloc | apply Kept.drewN | apply Kept.drew | refine Kept.setCell ?_ (.inr GW159.out) _) | exact HK.out)⟩

/-! ### feeder_Open: function 14 -/
def feeder_Open.f (k : Nat) (l0_0 : List (S32)) (l0_1 : List Int) (a0_2 : Int) (a1 : Int) (a2 : Int) : Option ((List (S32)) × List Int × Int × Int) := (feeder_can.f k l0_0 l0_1 a0_2 a1 a2).bind fun t168 => (if t168 = 0 then ((feeder_clone.f l0_0 l0_1 a0_2).bind fun bt169 => ((feeder_open.f bt169.1 bt169.2.1 bt169.2.2 a1 a2).bind fun bt177 => (some (bt177.2, bt169.2.1, bt169.2.2, 0)))) else (some (([] : List (S32)), ([] : List Int), 0, t168)))
theorem feeder_Open.mono : ∀ a0 a1 a2 a3 a4 k, LeO (feeder_Open.f k a0 a1 a2 a3 a4) (feeder_Open.f (k + 1) a0 a1 a2 a3 a4) := by
 intro a0 a1 a2 a3 a4 k
 unfold feeder_Open.f
 repeat' first
   | (with_reducible exact feeder_can.mono _ _ _ _ _ _)
   | (with_reducible exact LeO.refl _)
   | (with_reducible exact LeO.none _)
   | (with_reducible refine LeO.ite ?_ ?_)
   | (with_reducible refine LeO.bind ?_ (fun _ => ?_))
   | exact feeder_can.mono _ _ _ _ _ _
   | exact LeO.none _
   | refine LeO.ite ?_ ?_
   | refine LeO.bind ?_ (fun _ => ?_)
set_option maxHeartbeats 8000000 in
set_option maxRecDepth 100000 in
theorem feeder_Open.calls (k : Nat) (A0_0 : Option Addr) (c0_0 : Nat) (l0_0 : List (S32)) (A0_1 : Option Addr) (c0_1 : Nat) (l0_1 : List Int) (a0_2 : Int) (a1 : Int) (a2 : Int) (r1 : List (S32)) (r2 : List Int) (r3 : Int) (r4 : Int) (w : World) (hr0_0 : Kd.C k32 w A0_0 l0_0.length l0_0) (hc0_0 : l0_0.length ≤ c0_0) (hr0_1 : Kd.C (Kd.int .i64) w A0_1 l0_1.length l0_1) (hc0_1 : l0_1.length ≤ c0_1) (h : feeder_Open.f k l0_0 l0_1 a0_2 a1 a2 = some (r1, r2, r3, r4)) :
  Calls Try.prog 14 #[.agg #[.slice A0_0 l0_0.length c0_0, .slice A0_1 l0_1.length c0_1, .int .i64 a0_2], .int .i64 a1, .int .i64 a2] w fun e w' => ∃ v0_ v1_ : Value, e = .returned (.tuple #[.agg #[v0_, v1_, .int .i64 r3], .int .i64 r4]) ∧ Kd.R k32 32 w' w.heap.size (fun _ => True) v0_ r1 ∧ Kd.R (Kd.int .i64) 3 w' w.heap.size (fun _ => True) v1_ r2 ∧ Below w.heap.size w w' := by
 have hu28 := Try.underlying28
 have HR0_0 := Aside0.mk hr0_0
 have HC0_0 := Aside0.mk hc0_0
 clear hr0_0 hc0_0
 have HR0_1 := Aside0.mk hr0_1
 have HC0_1 := Aside0.mk hc0_1
 clear hr0_1 hc0_1
 have HB := Aside0.mk (Below.refl w.heap.size w)
 have H : ((feeder_can.f k l0_0 l0_1 a0_2 a1 a2).bind fun t168 => (if t168 = 0 then ((feeder_clone.f l0_0 l0_1 a0_2).bind fun bt169 => ((feeder_open.f bt169.1 bt169.2.1 bt169.2.2 a1 a2).bind fun bt177 => (some (bt177.2, bt169.2.1, bt169.2.2, 0)))) else (some (([] : List (S32)), ([] : List Int), 0, t168)))) = some (r1, r2, r3, r4) := h
 clear h
 replace H := Option.bind_eq_some_iff.mp H
 obtain ⟨t168, A40, H⟩ := H
 replace H : (if t168 = 0 then ((feeder_clone.f l0_0 l0_1 a0_2).bind fun bt169 => ((feeder_open.f bt169.1 bt169.2.1 bt169.2.2 a1 a2).bind fun bt177 => (some (bt177.2, bt169.2.1, bt169.2.2, 0)))) else (some (([] : List (S32)), ([] : List Int), 0, t168))) = some (r1, r2, r3, r4) := H
 have A4 := Aside0.mk A40
 clear A40
 by_cases c5 : t168 = 0
 ·
  rw [if_pos c5] at H
  have c5b0 : (t168 == 0) = true := beq_iff_eq.mpr c5
  have c5b1 : (t168 != 0) = false := bne_eq_false_iff_eq.mpr c5
  clear c5
  replace H := Option.bind_eq_some_iff.mp H
  obtain ⟨⟨t169, t172, t175⟩, A60, H⟩ := H
  replace H : ((feeder_open.f t169 t172 t175 a1 a2).bind fun bt177 => (some (bt177.2, t172, t175, 0))) = some (r1, r2, r3, r4) := H
  have A6 := Aside0.mk A60
  clear A60
  replace H := Option.bind_eq_some_iff.mp H
  obtain ⟨⟨t177, t178⟩, A70, H⟩ := H
  replace H : (some (t178, t172, t175, 0)) = some (r1, r2, r3, r4) := H
  have A7 := Aside0.mk A70
  clear A70
  simp only [Option.some.injEq, Prod.mk.injEq] at H
  obtain ⟨rfl, rfl, rfl, rfl⟩ := H
  go_enter Try.func14, Try.ntmps14
  go_wp2_with (first | ((with_reducible refine gate_dst (N := 3) rfl ?_); refine box_event ?hg (N := 3) ?hd (cs := #[.slice A0_0 l0_0.length c0_0, .slice A0_1 l0_1.length c0_1, .int .i64 a0_2]) (t := 28) ?hr ?_; (case hd => rfl); (case hg => rfl); (case hr => first | (go_simp; done) | (go_simp; rfl)); intro gb166 hg w8 hbox hb; have n0_ := Aside0.mk (below_step (by repeat (first | (with_reducible first | exact HB.out | apply below_alloc | apply pw_below_drewN | apply below_drew1) | exact HB.out)) hb); have n1_ := Aside0.mk (hbox); have n2_ := Aside0.mk ((by rw [hg]; exact (below_size (by repeat (first | (with_reducible first | exact HB.out | apply below_alloc | apply pw_below_drewN | apply below_drew1) | exact HB.out))) : w.heap.size ≤ gb166)); have n3_ := Aside0.mk ((by rw [hg]; exact (below_size (by repeat (first | (with_reducible first | exact HB.out | apply below_alloc | apply pw_below_drewN | apply below_drew1) | exact HB.out))) : w.heap.size ≤ gb166)); clear HB; have HB := n0_; have BK166 := n1_; have GW166 := n2_; have GE166 := n3_; clear n0_ n1_ n2_ n3_; clear hb hbox hg) | ((with_reducible refine gate_dst (N := 6) rfl ?_); refine box_event ?hg (N := 6) ?hd (cs := #[.slice none 0 0, .slice none 0 0, .int .i64 0]) (t := 28) ?hr ?_; (case hd => rfl); (case hg => rfl); (case hr => first | (go_simp; done) | (go_simp; rfl)); intro gb167 hg w9 hbox hb; have n0_ := Aside0.mk (blk_below (g := gb166) (o := .cells #[.slice A0_0 l0_0.length c0_0, .slice A0_1 l0_1.length c0_1, .int .i64 a0_2] 28 (0, 0)) (by (with_reducible repeat (first | refine blk_drewN ?_ _ | refine blk_drew ?_ | refine blk_alloc ?_ _)); exact BK166.out) hb); have n1_ := Aside0.mk (below_step (by repeat (first | (with_reducible first | exact HB.out | apply below_alloc | apply pw_below_drewN | apply below_drew1 | refine below_set ?_ GE166.out) | exact HB.out)) hb); have n2_ := Aside0.mk (hbox); have n3_ := Aside0.mk ((by rw [hg]; exact (below_size (by repeat (first | (with_reducible first | exact HB.out | apply below_alloc | apply pw_below_drewN | apply below_drew1 | refine below_set ?_ GE166.out) | exact HB.out))) : w.heap.size ≤ gb167)); have n4_ := Aside0.mk ((by rw [hg]; exact (below_size (by repeat (first | (with_reducible first | exact HB.out | apply below_alloc | apply pw_below_drewN | apply below_drew1 | refine below_set ?_ GE166.out) | exact HB.out))) : w.heap.size ≤ gb167)); have n5_ := Aside0.mk ((by rw [hg]; exact Nat.ne_of_lt (blk_lt (g := gb166) (o := .cells #[.slice A0_0 l0_0.length c0_0, .slice A0_1 l0_1.length c0_1, .int .i64 a0_2] 28 (0, 0)) (by (with_reducible repeat (first | refine blk_drewN ?_ _ | refine blk_drew ?_ | refine blk_alloc ?_ _)); exact BK166.out)) : gb166 ≠ gb167)); have n6_ := Aside0.mk ((by rw [hg]; exact Nat.ne_of_gt (blk_lt (g := gb166) (o := .cells #[.slice A0_0 l0_0.length c0_0, .slice A0_1 l0_1.length c0_1, .int .i64 a0_2] 28 (0, 0)) (by (with_reducible repeat (first | refine blk_drewN ?_ _ | refine blk_drew ?_ | refine blk_alloc ?_ _)); exact BK166.out)) : gb167 ≠ gb166)); clear BK166; clear HB; have BK166 := n0_; have HB := n1_; have BK167 := n2_; have GW167 := n3_; have GE167 := n4_; have NB166_167 := n5_; have NB167_166 := n6_; clear n0_ n1_ n2_ n3_ n4_ n5_ n6_; clear hb hbox hg; have hnb10 := NB166_167.out; have hnc10 := NB167_166.out; have hcz11_0 : w9.cell? ⟨gb166, 0, none⟩ = some (.slice A0_0 l0_0.length c0_0) := (blk_cell BK166.out 0).trans rfl; have hcz11_1 : w9.cell? ⟨gb166, 1, none⟩ = some (.slice A0_1 l0_1.length c0_1) := (blk_cell BK166.out 1).trans rfl; have hcz11_2 : w9.cell? ⟨gb166, 2, none⟩ = some (.int .i64 a0_2) := (blk_cell BK166.out 2).trans rfl; have hfz11_0 := blk_frozen BK166.out 0; have hfz11_1 := blk_frozen BK166.out 1; have hfz11_2 := blk_frozen BK166.out 2) | ((with_reducible refine gate_callee (f := 42) rfl ?_); refine goesL_ (some 13) rfl rfl Try.func42 (by kernel_rfl) rfl #[.agg #[.slice A0_0 l0_0.length c0_0, .slice A0_1 l0_1.length c0_1, .int .i64 a0_2], .int .i64 a1, .int .i64 a2] rfl (by (try simp only [List.map_toArray, List.map_cons, List.map_nil]); first | done | rfl | (simp only [List.length_drop, List.length_take]; rfl)) ?_; (with_reducible refine (feeder_can.calls k _ _ l0_0 _ _ l0_1 a0_2 a1 a2 t168 _ ?side1 ?side2 ?side3 ?side4 A4.out).mono ?_); (case side1 => repeat (first | exact (by first | exact (Kd.C_below HR0_0.out HB.out) | exact HR0_0.out) | (with_reducible refine Kd.C_alloc ?_ _) | (with_reducible refine Kd.C_drewN ?_ _) | (with_reducible refine Kd.C_drew ?_))); (case side2 => exact HC0_0.out); (case side3 => repeat (first | exact (by first | exact (Kd.C_below HR0_1.out HB.out) | exact HR0_1.out) | (with_reducible refine Kd.C_alloc ?_ _) | (with_reducible refine Kd.C_drewN ?_ _) | (with_reducible refine Kd.C_drew ?_))); (case side4 => exact HC0_1.out); rintro e w12 ⟨rfl, hb⟩; refine ⟨_, rfl, ?_⟩; have n0_ := Aside0.mk (blk_below (g := gb166) (o := .cells #[.slice A0_0 l0_0.length c0_0, .slice A0_1 l0_1.length c0_1, .int .i64 a0_2] 28 (0, 0)) (by (with_reducible repeat (first | refine blk_drewN ?_ _ | refine blk_drew ?_ | refine blk_alloc ?_ _)); exact BK166.out) hb); have n1_ := Aside0.mk (blk_below (g := gb167) (o := .cells #[.slice none 0 0, .slice none 0 0, .int .i64 0] 28 (0, 0)) (by (with_reducible repeat (first | refine blk_drewN ?_ _ | refine blk_drew ?_ | refine blk_alloc ?_ _)); exact BK167.out) hb); have n2_ := Aside0.mk (below_step (by repeat (first | (with_reducible first | exact HB.out | apply below_alloc | apply pw_below_drewN | apply below_drew1 | refine below_set ?_ GE166.out | refine below_set ?_ GE167.out) | exact HB.out)) hb); clear BK166; clear BK167; clear HB; have BK166 := n0_; have BK167 := n1_; have HB := n2_; clear n0_ n1_ n2_; (try clear hb); (try clear hb2); (try clear hge); (try clear hk); (try clear hi); have hcz13_0 : w12.cell? ⟨gb166, 0, none⟩ = some (.slice A0_0 l0_0.length c0_0) := (blk_cell BK166.out 0).trans rfl; have hcz13_1 : w12.cell? ⟨gb166, 1, none⟩ = some (.slice A0_1 l0_1.length c0_1) := (blk_cell BK166.out 1).trans rfl; have hcz13_2 : w12.cell? ⟨gb166, 2, none⟩ = some (.int .i64 a0_2) := (blk_cell BK166.out 2).trans rfl; have hfz13_0 := blk_frozen BK166.out 0; have hfz13_1 := blk_frozen BK166.out 1; have hfz13_2 := blk_frozen BK166.out 2) | ((with_reducible refine gate_callee (f := 43) rfl ?_); refine goesL_ (some 19) rfl rfl Try.func43 (by kernel_rfl) rfl #[.agg #[.slice A0_0 l0_0.length c0_0, .slice A0_1 l0_1.length c0_1, .int .i64 a0_2]] rfl (by (try simp only [List.map_toArray, List.map_cons, List.map_nil]); first | done | rfl | (simp only [List.length_drop, List.length_take]; rfl)) ?_; (with_reducible refine (feeder_clone.calls _ _ l0_0 _ _ l0_1 a0_2 t169 t172 t175 _ ?side1 ?side2 ?side3 ?side4 A6.out).mono ?_); (case side1 => repeat (first | exact (by first | exact (Kd.C_below HR0_0.out HB.out) | exact HR0_0.out) | (with_reducible refine Kd.C_alloc ?_ _) | (with_reducible refine Kd.C_drewN ?_ _) | (with_reducible refine Kd.C_drew ?_))); (case side2 => exact HC0_0.out); (case side3 => repeat (first | exact (by first | exact (Kd.C_below HR0_1.out HB.out) | exact HR0_1.out) | (with_reducible refine Kd.C_alloc ?_ _) | (with_reducible refine Kd.C_drewN ?_ _) | (with_reducible refine Kd.C_drew ?_))); (case side4 => exact HC0_1.out); rintro e w14 ⟨v170, v173, rfl, ho0, ho1, hb⟩; refine ⟨_, rfl, ?_⟩; have n0_ := Aside0.mk (Kd.R_lower ho0 (below_size (by repeat (first | (with_reducible first | exact HB.out | apply below_alloc | apply pw_below_drewN | apply below_drew1 | refine below_set ?_ GE166.out | refine below_set ?_ GE167.out) | exact HB.out)))); have n1_ := Aside0.mk (Kd.R_lower ho1 (below_size (by repeat (first | (with_reducible first | exact HB.out | apply below_alloc | apply pw_below_drewN | apply below_drew1 | refine below_set ?_ GE166.out | refine below_set ?_ GE167.out) | exact HB.out)))); have n2_ := Aside0.mk (blk_below (g := gb166) (o := .cells #[.slice A0_0 l0_0.length c0_0, .slice A0_1 l0_1.length c0_1, .int .i64 a0_2] 28 (0, 0)) (by (with_reducible repeat (first | refine blk_drewN ?_ _ | refine blk_drew ?_ | refine blk_alloc ?_ _)); exact BK166.out) hb); have n3_ := Aside0.mk (blk_below (g := gb167) (o := .cells #[.slice none 0 0, .slice none 0 0, .int .i64 0] 28 (0, 0)) (by (with_reducible repeat (first | refine blk_drewN ?_ _ | refine blk_drew ?_ | refine blk_alloc ?_ _)); exact BK167.out) hb); have n4_ := Aside0.mk (below_step (by repeat (first | (with_reducible first | exact HB.out | apply below_alloc | apply pw_below_drewN | apply below_drew1 | refine below_set ?_ GE166.out | refine below_set ?_ GE167.out) | exact HB.out)) hb); clear BK166; clear BK167; clear HB; have HO171 := n0_; have HO174 := n1_; have BK166 := n2_; have BK167 := n3_; have HB := n4_; clear n0_ n1_ n2_ n3_ n4_; (try clear hb); (try clear hb2); (try clear hge); (try clear hk); (try clear hi); (try clear ho0); (try clear ho1)) | ((with_reducible refine gate_dst (N := 9) rfl ?_); refine box_event ?hg (N := 9) ?hd (cs := #[.slice none 0 0, .slice none 0 0, .int .i64 0]) (t := 28) ?hr ?_; (case hd => rfl); (case hg => rfl); (case hr => first | (go_simp; done) | (go_simp; rfl)); intro gb176 hg w15 hbox hb; have n0_ := Aside0.mk (Kd.R_below (by (with_reducible repeat (first | apply Kd.R_alloc | apply Kd.R_drewN | apply Kd.R_drew)); exact HO171.out) hb); have n1_ := Aside0.mk (Kd.R_below (by (with_reducible repeat (first | apply Kd.R_alloc | apply Kd.R_drewN | apply Kd.R_drew)); exact HO174.out) hb); have n2_ := Aside0.mk (blk_below (g := gb166) (o := .cells #[.slice A0_0 l0_0.length c0_0, .slice A0_1 l0_1.length c0_1, .int .i64 a0_2] 28 (0, 0)) (by (with_reducible repeat (first | refine blk_drewN ?_ _ | refine blk_drew ?_ | refine blk_alloc ?_ _)); exact BK166.out) hb); have n3_ := Aside0.mk (blk_below (g := gb167) (o := .cells #[.slice none 0 0, .slice none 0 0, .int .i64 0] 28 (0, 0)) (by (with_reducible repeat (first | refine blk_drewN ?_ _ | refine blk_drew ?_ | refine blk_alloc ?_ _)); exact BK167.out) hb); have n4_ := Aside0.mk (below_step (by repeat (first | (with_reducible first | exact HB.out | apply below_alloc | apply pw_below_drewN | apply below_drew1 | refine below_set ?_ GE166.out | refine below_set ?_ GE167.out) | exact HB.out)) hb); have n5_ := Aside0.mk (hbox); have n6_ := Aside0.mk ((by rw [hg]; exact (below_size (by repeat (first | (with_reducible first | exact HB.out | apply below_alloc | apply pw_below_drewN | apply below_drew1 | refine below_set ?_ GE166.out | refine below_set ?_ GE167.out) | exact HB.out))) : w.heap.size ≤ gb176)); have n7_ := Aside0.mk ((by rw [hg]; exact (below_size (by repeat (first | (with_reducible first | exact HB.out | apply below_alloc | apply pw_below_drewN | apply below_drew1 | refine below_set ?_ GE166.out | refine below_set ?_ GE167.out) | exact HB.out))) : w.heap.size ≤ gb176)); have n8_ := Aside0.mk ((by rw [hg]; exact Nat.ne_of_lt (blk_lt (g := gb166) (o := .cells #[.slice A0_0 l0_0.length c0_0, .slice A0_1 l0_1.length c0_1, .int .i64 a0_2] 28 (0, 0)) (by (with_reducible repeat (first | refine blk_drewN ?_ _ | refine blk_drew ?_ | refine blk_alloc ?_ _)); exact BK166.out)) : gb166 ≠ gb176)); have n9_ := Aside0.mk ((by rw [hg]; exact Nat.ne_of_gt (blk_lt (g := gb166) (o := .cells #[.slice A0_0 l0_0.length c0_0, .slice A0_1 l0_1.length c0_1, .int .i64 a0_2] 28 (0, 0)) (by (with_reducible repeat (first | refine blk_drewN ?_ _ | refine blk_drew ?_ | refine blk_alloc ?_ _)); exact BK166.out)) : gb176 ≠ gb166)); have n10_ := Aside0.mk ((by rw [hg]; exact Nat.ne_of_lt (blk_lt (g := gb167) (o := .cells #[.slice none 0 0, .slice none 0 0, .int .i64 0] 28 (0, 0)) (by (with_reducible repeat (first | refine blk_drewN ?_ _ | refine blk_drew ?_ | refine blk_alloc ?_ _)); exact BK167.out)) : gb167 ≠ gb176)); have n11_ := Aside0.mk ((by rw [hg]; exact Nat.ne_of_gt (blk_lt (g := gb167) (o := .cells #[.slice none 0 0, .slice none 0 0, .int .i64 0] 28 (0, 0)) (by (with_reducible repeat (first | refine blk_drewN ?_ _ | refine blk_drew ?_ | refine blk_alloc ?_ _)); exact BK167.out)) : gb176 ≠ gb167)); clear HO171; clear HO174; clear BK166; clear BK167; clear HB; have HO171 := n0_; have HO174 := n1_; have BK166 := n2_; have BK167 := n3_; have HB := n4_; have BK176 := n5_; have GW176 := n6_; have GE176 := n7_; have NB166_176 := n8_; have NB176_166 := n9_; have NB167_176 := n10_; have NB176_167 := n11_; clear n0_ n1_ n2_ n3_ n4_ n5_ n6_ n7_ n8_ n9_ n10_ n11_; clear hb hbox hg; obtain ⟨Ao16, co16, eo16⟩ := Kd.R_slice HO171.out; subst eo16; have hnb17 := NB176_166.out; have hnc17 := NB166_176.out; have hnb18 := NB176_167.out; have hnc18 := NB167_176.out; have hcz19_0 : w15.cell? ⟨gb176, 0, none⟩ = some (.slice none 0 0) := (blk_cell BK176.out 0).trans rfl; have hcz19_1 : w15.cell? ⟨gb176, 1, none⟩ = some (.slice none 0 0) := (blk_cell BK176.out 1).trans rfl; have hcz19_2 : w15.cell? ⟨gb176, 2, none⟩ = some (.int .i64 0) := (blk_cell BK176.out 2).trans rfl; have hfz19_0 := blk_frozen BK176.out 0; have hfz19_1 := blk_frozen BK176.out 1; have hfz19_2 := blk_frozen BK176.out 2; obtain ⟨Ao20, co20, eo20⟩ := Kd.R_slice HO174.out; subst eo20) | ((with_reducible refine gate_store (t := 28) (p := 9) rfl ?_); refine store_event (t := 28) (p := 9) (v := ?vo_w21) (w1 := (((w15.setCell ⟨gb176, 0, none⟩ (.slice Ao16 t169.length co16)).setCell ⟨gb176, 1, none⟩ (.slice Ao20 t172.length co20)).setCell ⟨gb176, 2, none⟩ (.int .i64 t175))) ?hg ?ho ?hn ?hr ?_; (case ho => rfl); (case hg => rfl); (case hn => rfl); (case hr => first | (go_simp; done) | (go_simp; rfl)); intro w21 hw; have n0_ : Aside0 (Kd.R k32 32 w21 w.heap.size (fun _ => True) (.slice Ao16 t169.length co16) t169) := ⟨(by rw [hw]; exact (by (with_reducible repeat (first | apply Kd.R_alloc | apply Kd.R_drewN | apply Kd.R_drew)); exact Kd.R_mono (Kd.R_far (p := ⟨gb176, 2, none⟩) (Kd.R_far (p := ⟨gb176, 1, none⟩) (Kd.R_far (p := ⟨gb176, 0, none⟩) (Kd.R_types HO171.out BK176.out (by decide)) (fun _ hk => hk.2) (.slice Ao16 t169.length co16)) (fun _ hk => hk.2) (.slice Ao20 t172.length co20)) (fun _ hk => hk.2) (.int .i64 t175)) (fun _ hk => trivial)))⟩; have n1_ : Aside0 (Kd.R (Kd.int .i64) 3 w21 w.heap.size (fun _ => True) (.slice Ao20 t172.length co20) t172) := ⟨(by rw [hw]; exact (by (with_reducible repeat (first | apply Kd.R_alloc | apply Kd.R_drewN | apply Kd.R_drew)); exact Kd.R_mono (Kd.R_far (p := ⟨gb176, 2, none⟩) (Kd.R_far (p := ⟨gb176, 1, none⟩) (Kd.R_far (p := ⟨gb176, 0, none⟩) (Kd.R_types HO174.out BK176.out (by decide)) (fun _ hk => hk.2) (.slice Ao16 t169.length co16)) (fun _ hk => hk.2) (.slice Ao20 t172.length co20)) (fun _ hk => hk.2) (.int .i64 t175)) (fun _ hk => trivial)))⟩; have n2_ : Aside0 (w21.heap[gb166]? = some (.cells #[.slice A0_0 l0_0.length c0_0, .slice A0_1 l0_1.length c0_1, .int .i64 a0_2] 28 (0, 0))) := ⟨(by rw [hw]; exact (by (with_reducible repeat (first | refine blk_drewN ?_ _ | refine blk_drew ?_ | refine blk_alloc ?_ _)); refine blk_far ?_ NB166_176.out _; (with_reducible repeat (first | refine blk_drewN ?_ _ | refine blk_drew ?_ | refine blk_alloc ?_ _)); refine blk_far ?_ NB166_176.out _; (with_reducible repeat (first | refine blk_drewN ?_ _ | refine blk_drew ?_ | refine blk_alloc ?_ _)); refine blk_far ?_ NB166_176.out _; (with_reducible repeat (first | refine blk_drewN ?_ _ | refine blk_drew ?_ | refine blk_alloc ?_ _)); exact BK166.out))⟩; have n3_ : Aside0 (w21.heap[gb167]? = some (.cells #[.slice none 0 0, .slice none 0 0, .int .i64 0] 28 (0, 0))) := ⟨(by rw [hw]; exact (by (with_reducible repeat (first | refine blk_drewN ?_ _ | refine blk_drew ?_ | refine blk_alloc ?_ _)); refine blk_far ?_ NB167_176.out _; (with_reducible repeat (first | refine blk_drewN ?_ _ | refine blk_drew ?_ | refine blk_alloc ?_ _)); refine blk_far ?_ NB167_176.out _; (with_reducible repeat (first | refine blk_drewN ?_ _ | refine blk_drew ?_ | refine blk_alloc ?_ _)); refine blk_far ?_ NB167_176.out _; (with_reducible repeat (first | refine blk_drewN ?_ _ | refine blk_drew ?_ | refine blk_alloc ?_ _)); exact BK167.out))⟩; have n4_ : Aside0 (w21.heap[gb176]? = some (.cells #[.slice Ao16 t169.length co16, .slice Ao20 t172.length co20, .int .i64 t175] 28 (0, 0))) := ⟨(by rw [hw]; exact (by (with_reducible repeat (first | refine blk_drewN ?_ _ | refine blk_drew ?_ | refine blk_alloc ?_ _)); refine blk_put (cs := #[.slice Ao16 t169.length co16, .slice Ao20 t172.length co20, .int .i64 0]) ?_ 2 _ rfl; (with_reducible repeat (first | refine blk_drewN ?_ _ | refine blk_drew ?_ | refine blk_alloc ?_ _)); refine blk_put (cs := #[.slice Ao16 t169.length co16, .slice none 0 0, .int .i64 0]) ?_ 1 _ rfl; (with_reducible repeat (first | refine blk_drewN ?_ _ | refine blk_drew ?_ | refine blk_alloc ?_ _)); refine blk_put (cs := #[.slice none 0 0, .slice none 0 0, .int .i64 0]) ?_ 0 _ rfl; (with_reducible repeat (first | refine blk_drewN ?_ _ | refine blk_drew ?_ | refine blk_alloc ?_ _)); exact BK176.out))⟩; have n5_ : Aside0 (Below w.heap.size w w21) := ⟨(by rw [hw]; exact (by repeat (first | (with_reducible first | exact HB.out | apply below_alloc | apply pw_below_drewN | apply below_drew1 | refine below_set ?_ GE166.out | refine below_set ?_ GE167.out | refine below_set ?_ GE176.out) | exact HB.out)))⟩; clear hw; clear HO171; clear HO174; clear BK166; clear BK167; clear BK176; clear HB; have HO171 := n0_; have HO174 := n1_; have BK166 := n2_; have BK167 := n3_; have BK176 := n4_; have HB := n5_; clear n0_ n1_ n2_ n3_ n4_ n5_; have hcz22_0 : w21.cell? ⟨gb176, 0, none⟩ = some (.slice Ao16 t169.length co16) := (blk_cell BK176.out 0).trans rfl; have hcz22_1 : w21.cell? ⟨gb176, 1, none⟩ = some (.slice Ao20 t172.length co20) := (blk_cell BK176.out 1).trans rfl; have hcz22_2 : w21.cell? ⟨gb176, 2, none⟩ = some (.int .i64 t175) := (blk_cell BK176.out 2).trans rfl; have hfz22_0 := blk_frozen BK176.out 0; have hfz22_1 := blk_frozen BK176.out 1; have hfz22_2 := blk_frozen BK176.out 2) | ((with_reducible refine gate_callee (f := 44) rfl ?_); refine goesL_ (some 23) rfl rfl Try.func44 (by kernel_rfl) rfl #[.agg #[.slice Ao16 t169.length co16, .slice Ao20 t172.length co20, .int .i64 t175], .int .i64 a1, .int .i64 a2] rfl (by (try simp only [List.map_toArray, List.map_cons, List.map_nil]); first | done | rfl | (simp only [List.length_drop, List.length_take]; rfl)) ?_; (with_reducible refine (feeder_open.calls (fun k_ => some k_ = (.slice Ao16 t169.length co16 : Value).ownBlock) (.slice Ao16 t169.length co16) t169 _ _ t172 t175 a1 a2 t177 t178 w _ ?side1 ?side2 ?side3 ?side4 A7.out).mono ?_); (case side1 => repeat (first | (with_reducible first | exact HB.out | apply below_alloc | apply pw_below_drewN | apply below_drew1 | refine below_set ?_ GE166.out | refine below_set ?_ GE167.out | refine below_set ?_ GE176.out) | exact HB.out)); (case side2 => exact Kd.R_tight rfl HO171.out); (case side3 => exact Kd.C_kept_own ((Kd.R_apart' HO174.out (Kd.R_typed HO171.out) (by decide))) (fun k_ hk_ hs_ => (hk_.2) hs_)); (case side4 => exact (Kd.R_reads' HO174.out).2.1); rintro e w23 ⟨rfl, hy0, hb, hkp⟩; refine ⟨_, rfl, ?_⟩; have n0_ := Aside0.mk (blk_kept (by (with_reducible repeat (first | refine blk_drewN ?_ _ | refine blk_drew ?_ | refine blk_alloc ?_ _)); exact BK166.out) hkp (fun hs_ => (fun e_ => (Kd.R_ne HO171.out BK166.out (by decide)) e_) hs_)); have n1_ := Aside0.mk (blk_kept (by (with_reducible repeat (first | refine blk_drewN ?_ _ | refine blk_drew ?_ | refine blk_alloc ?_ _)); exact BK167.out) hkp (fun hs_ => (fun e_ => (Kd.R_ne HO171.out BK167.out (by decide)) e_) hs_)); have n2_ := Aside0.mk (Kd.R_reok rfl hy0 (fun k_ e_ => HO171.out.1 k_ e_)); have n3_ := Aside0.mk (Kd.R_mono (ok' := fun k_ => True) (Kd.R_keptB ((Kd.R_apart' HO174.out (Kd.R_typed HO171.out) (by decide))) hkp (fun k_ hk_ hs_ => (hk_.2) hs_)) (fun k_ hk_ => trivial)); have n4_ := Aside0.mk (blk_kept (by (with_reducible repeat (first | refine blk_drewN ?_ _ | refine blk_drew ?_ | refine blk_alloc ?_ _)); exact BK176.out) hkp (fun hs_ => (fun e_ => (Kd.R_ne HO171.out BK176.out (by decide)) e_) hs_)); have n5_ := Aside0.mk (hb); clear BK166; clear BK167; clear HO171; clear HO174; clear BK176; clear HB; have BK166 := n0_; have BK167 := n1_; have HO171 := n2_; have HO174 := n3_; have BK176 := n4_; have HB := n5_; clear n0_ n1_ n2_ n3_ n4_ n5_; (try clear hb); (try clear hkp); (try clear hy0); have hcz24_0 : w23.cell? ⟨gb176, 0, none⟩ = some (.slice Ao16 t169.length co16) := (blk_cell BK176.out 0).trans rfl; have hcz24_1 : w23.cell? ⟨gb176, 1, none⟩ = some (.slice Ao20 t172.length co20) := (blk_cell BK176.out 1).trans rfl; have hcz24_2 : w23.cell? ⟨gb176, 2, none⟩ = some (.int .i64 t175) := (blk_cell BK176.out 2).trans rfl; have hfz24_0 := blk_frozen BK176.out 0; have hfz24_1 := blk_frozen BK176.out 1; have hfz24_2 := blk_frozen BK176.out 2; have hcz25_0 : w23.cell? ⟨gb167, 0, none⟩ = some (.slice none 0 0) := (blk_cell BK167.out 0).trans rfl; have hcz25_1 : w23.cell? ⟨gb167, 1, none⟩ = some (.slice none 0 0) := (blk_cell BK167.out 1).trans rfl; have hcz25_2 : w23.cell? ⟨gb167, 2, none⟩ = some (.int .i64 0) := (blk_cell BK167.out 2).trans rfl; have hfz25_0 := blk_frozen BK167.out 0; have hfz25_1 := blk_frozen BK167.out 1; have hfz25_2 := blk_frozen BK167.out 2))
  refine bodyPost_ret (results_ct rfl _ _ gb167 28 #[.slice Ao16 t169.length co16, .slice Ao20 t172.length co20, .int .i64 t175] (0, 0) _ rfl (by (with_reducible repeat (first | refine blk_drewN ?_ _ | refine blk_drew ?_ | refine blk_alloc ?_ _)); refine blk_put (cs := #[.slice Ao16 t169.length co16, .slice Ao20 t172.length co20, .int .i64 0]) ?_ 2 _ rfl; (with_reducible repeat (first | refine blk_drewN ?_ _ | refine blk_drew ?_ | refine blk_alloc ?_ _)); refine blk_put (cs := #[.slice Ao16 t169.length co16, .slice none 0 0, .int .i64 0]) ?_ 1 _ rfl; (with_reducible repeat (first | refine blk_drewN ?_ _ | refine blk_drew ?_ | refine blk_alloc ?_ _)); refine blk_put (cs := #[.slice none 0 0, .slice none 0 0, .int .i64 0]) ?_ 0 _ rfl; (with_reducible repeat (first | refine blk_drewN ?_ _ | refine blk_drew ?_ | refine blk_alloc ?_ _)); exact BK167.out) Try.underlying28 rfl (by kernel_rfl)) rfl ?_
  exact ⟨_, _, by first | rfl | (simp [errW_none, errW_some] <;> rfl) | (simp [*, errW_none, errW_some] <;> rfl), by (with_reducible repeat (first | apply Kd.R_alloc | apply Kd.R_drewN | apply Kd.R_drew)); exact Kd.R_mono (Kd.R_far (p := ⟨gb167, 2, none⟩) (Kd.R_far (p := ⟨gb167, 1, none⟩) (Kd.R_far (p := ⟨gb167, 0, none⟩) (Kd.R_types HO171.out BK167.out (by decide)) (fun _ hk => hk.2) (.slice Ao16 t169.length co16)) (fun _ hk => hk.2) (.slice Ao20 t172.length co20)) (fun _ hk => hk.2) (.int .i64 t175)) (fun _ hk => trivial), by (with_reducible repeat (first | apply Kd.R_alloc | apply Kd.R_drewN | apply Kd.R_drew)); exact Kd.R_mono (Kd.R_far (p := ⟨gb167, 2, none⟩) (Kd.R_far (p := ⟨gb167, 1, none⟩) (Kd.R_far (p := ⟨gb167, 0, none⟩) (Kd.R_types HO174.out BK167.out (by decide)) (fun _ hk => hk.2) (.slice Ao16 t169.length co16)) (fun _ hk => hk.2) (.slice Ao20 t172.length co20)) (fun _ hk => hk.2) (.int .i64 t175)) (fun _ hk => trivial), by repeat (first | (with_reducible first | exact HB.out | apply below_alloc | apply pw_below_drewN | apply below_drew1 | refine below_set ?_ GE166.out | refine below_set ?_ GE167.out | refine below_set ?_ GE176.out) | exact HB.out)⟩
 ·
  rw [if_neg c5] at H
  have c5b0 : (t168 == 0) = false := beq_eq_false_iff_ne.mpr c5
  have c5b1 : (t168 != 0) = true := bne_iff_ne.mpr c5
  simp only [Option.some.injEq, Prod.mk.injEq] at H
  obtain ⟨rfl, rfl, rfl, rfl⟩ := H
  go_enter Try.func14, Try.ntmps14
  go_wp2_with (first | ((with_reducible refine gate_dst (N := 3) rfl ?_); refine box_event ?hg (N := 3) ?hd (cs := #[.slice A0_0 l0_0.length c0_0, .slice A0_1 l0_1.length c0_1, .int .i64 a0_2]) (t := 28) ?hr ?_; (case hd => rfl); (case hg => rfl); (case hr => first | (go_simp; done) | (go_simp; rfl)); intro gb166 hg w26 hbox hb; have n0_ := Aside0.mk (below_step (by repeat (first | (with_reducible first | exact HB.out | apply below_alloc | apply pw_below_drewN | apply below_drew1) | exact HB.out)) hb); have n1_ := Aside0.mk (hbox); have n2_ := Aside0.mk ((by rw [hg]; exact (below_size (by repeat (first | (with_reducible first | exact HB.out | apply below_alloc | apply pw_below_drewN | apply below_drew1) | exact HB.out))) : w.heap.size ≤ gb166)); have n3_ := Aside0.mk ((by rw [hg]; exact (below_size (by repeat (first | (with_reducible first | exact HB.out | apply below_alloc | apply pw_below_drewN | apply below_drew1) | exact HB.out))) : w.heap.size ≤ gb166)); clear HB; have HB := n0_; have BK166 := n1_; have GW166 := n2_; have GE166 := n3_; clear n0_ n1_ n2_ n3_; clear hb hbox hg) | ((with_reducible refine gate_dst (N := 6) rfl ?_); refine box_event ?hg (N := 6) ?hd (cs := #[.slice none 0 0, .slice none 0 0, .int .i64 0]) (t := 28) ?hr ?_; (case hd => rfl); (case hg => rfl); (case hr => first | (go_simp; done) | (go_simp; rfl)); intro gb167 hg w27 hbox hb; have n0_ := Aside0.mk (blk_below (g := gb166) (o := .cells #[.slice A0_0 l0_0.length c0_0, .slice A0_1 l0_1.length c0_1, .int .i64 a0_2] 28 (0, 0)) (by (with_reducible repeat (first | refine blk_drewN ?_ _ | refine blk_drew ?_ | refine blk_alloc ?_ _)); exact BK166.out) hb); have n1_ := Aside0.mk (below_step (by repeat (first | (with_reducible first | exact HB.out | apply below_alloc | apply pw_below_drewN | apply below_drew1 | refine below_set ?_ GE166.out) | exact HB.out)) hb); have n2_ := Aside0.mk (hbox); have n3_ := Aside0.mk ((by rw [hg]; exact (below_size (by repeat (first | (with_reducible first | exact HB.out | apply below_alloc | apply pw_below_drewN | apply below_drew1 | refine below_set ?_ GE166.out) | exact HB.out))) : w.heap.size ≤ gb167)); have n4_ := Aside0.mk ((by rw [hg]; exact (below_size (by repeat (first | (with_reducible first | exact HB.out | apply below_alloc | apply pw_below_drewN | apply below_drew1 | refine below_set ?_ GE166.out) | exact HB.out))) : w.heap.size ≤ gb167)); have n5_ := Aside0.mk ((by rw [hg]; exact Nat.ne_of_lt (blk_lt (g := gb166) (o := .cells #[.slice A0_0 l0_0.length c0_0, .slice A0_1 l0_1.length c0_1, .int .i64 a0_2] 28 (0, 0)) (by (with_reducible repeat (first | refine blk_drewN ?_ _ | refine blk_drew ?_ | refine blk_alloc ?_ _)); exact BK166.out)) : gb166 ≠ gb167)); have n6_ := Aside0.mk ((by rw [hg]; exact Nat.ne_of_gt (blk_lt (g := gb166) (o := .cells #[.slice A0_0 l0_0.length c0_0, .slice A0_1 l0_1.length c0_1, .int .i64 a0_2] 28 (0, 0)) (by (with_reducible repeat (first | refine blk_drewN ?_ _ | refine blk_drew ?_ | refine blk_alloc ?_ _)); exact BK166.out)) : gb167 ≠ gb166)); clear BK166; clear HB; have BK166 := n0_; have HB := n1_; have BK167 := n2_; have GW167 := n3_; have GE167 := n4_; have NB166_167 := n5_; have NB167_166 := n6_; clear n0_ n1_ n2_ n3_ n4_ n5_ n6_; clear hb hbox hg; have hnb28 := NB166_167.out; have hnc28 := NB167_166.out; have hcz29_0 : w27.cell? ⟨gb166, 0, none⟩ = some (.slice A0_0 l0_0.length c0_0) := (blk_cell BK166.out 0).trans rfl; have hcz29_1 : w27.cell? ⟨gb166, 1, none⟩ = some (.slice A0_1 l0_1.length c0_1) := (blk_cell BK166.out 1).trans rfl; have hcz29_2 : w27.cell? ⟨gb166, 2, none⟩ = some (.int .i64 a0_2) := (blk_cell BK166.out 2).trans rfl; have hfz29_0 := blk_frozen BK166.out 0; have hfz29_1 := blk_frozen BK166.out 1; have hfz29_2 := blk_frozen BK166.out 2) | ((with_reducible refine gate_callee (f := 42) rfl ?_); refine goesL_ (some 13) rfl rfl Try.func42 (by kernel_rfl) rfl #[.agg #[.slice A0_0 l0_0.length c0_0, .slice A0_1 l0_1.length c0_1, .int .i64 a0_2], .int .i64 a1, .int .i64 a2] rfl (by (try simp only [List.map_toArray, List.map_cons, List.map_nil]); first | done | rfl | (simp only [List.length_drop, List.length_take]; rfl)) ?_; (with_reducible refine (feeder_can.calls k _ _ l0_0 _ _ l0_1 a0_2 a1 a2 t168 _ ?side1 ?side2 ?side3 ?side4 A4.out).mono ?_); (case side1 => repeat (first | exact (by first | exact (Kd.C_below HR0_0.out HB.out) | exact HR0_0.out) | (with_reducible refine Kd.C_alloc ?_ _) | (with_reducible refine Kd.C_drewN ?_ _) | (with_reducible refine Kd.C_drew ?_))); (case side2 => exact HC0_0.out); (case side3 => repeat (first | exact (by first | exact (Kd.C_below HR0_1.out HB.out) | exact HR0_1.out) | (with_reducible refine Kd.C_alloc ?_ _) | (with_reducible refine Kd.C_drewN ?_ _) | (with_reducible refine Kd.C_drew ?_))); (case side4 => exact HC0_1.out); rintro e w30 ⟨rfl, hb⟩; refine ⟨_, rfl, ?_⟩; have n0_ := Aside0.mk (blk_below (g := gb166) (o := .cells #[.slice A0_0 l0_0.length c0_0, .slice A0_1 l0_1.length c0_1, .int .i64 a0_2] 28 (0, 0)) (by (with_reducible repeat (first | refine blk_drewN ?_ _ | refine blk_drew ?_ | refine blk_alloc ?_ _)); exact BK166.out) hb); have n1_ := Aside0.mk (blk_below (g := gb167) (o := .cells #[.slice none 0 0, .slice none 0 0, .int .i64 0] 28 (0, 0)) (by (with_reducible repeat (first | refine blk_drewN ?_ _ | refine blk_drew ?_ | refine blk_alloc ?_ _)); exact BK167.out) hb); have n2_ := Aside0.mk (below_step (by repeat (first | (with_reducible first | exact HB.out | apply below_alloc | apply pw_below_drewN | apply below_drew1 | refine below_set ?_ GE166.out | refine below_set ?_ GE167.out) | exact HB.out)) hb); clear BK166; clear BK167; clear HB; have BK166 := n0_; have BK167 := n1_; have HB := n2_; clear n0_ n1_ n2_; (try clear hb); (try clear hb2); (try clear hge); (try clear hk); (try clear hi); have hcz31_0 : w30.cell? ⟨gb167, 0, none⟩ = some (.slice none 0 0) := (blk_cell BK167.out 0).trans rfl; have hcz31_1 : w30.cell? ⟨gb167, 1, none⟩ = some (.slice none 0 0) := (blk_cell BK167.out 1).trans rfl; have hcz31_2 : w30.cell? ⟨gb167, 2, none⟩ = some (.int .i64 0) := (blk_cell BK167.out 2).trans rfl; have hfz31_0 := blk_frozen BK167.out 0; have hfz31_1 := blk_frozen BK167.out 1; have hfz31_2 := blk_frozen BK167.out 2))
  refine bodyPost_ret (results_ct rfl _ _ gb167 28 #[.slice none 0 0, .slice none 0 0, .int .i64 0] (0, 0) _ rfl (by (with_reducible repeat (first | refine blk_drewN ?_ _ | refine blk_drew ?_ | refine blk_alloc ?_ _)); refine blk_put (cs := #[.slice none 0 0, .slice none 0 0, .int .i64 0]) ?_ 2 _ rfl; (with_reducible repeat (first | refine blk_drewN ?_ _ | refine blk_drew ?_ | refine blk_alloc ?_ _)); refine blk_put (cs := #[.slice none 0 0, .slice none 0 0, .int .i64 0]) ?_ 1 _ rfl; (with_reducible repeat (first | refine blk_drewN ?_ _ | refine blk_drew ?_ | refine blk_alloc ?_ _)); refine blk_put (cs := #[.slice none 0 0, .slice none 0 0, .int .i64 0]) ?_ 0 _ rfl; (with_reducible repeat (first | refine blk_drewN ?_ _ | refine blk_drew ?_ | refine blk_alloc ?_ _)); exact BK167.out) Try.underlying28 rfl (by kernel_rfl)) rfl ?_
  exact ⟨_, _, by first | rfl | (simp [errW_none, errW_some] <;> rfl) | (simp [*, errW_none, errW_some] <;> rfl), by first | exact Kd.R_nil _ _ _ _ _ | exact Kd.N_nil _ _ _ _ _ | exact Kd.V_nil _ _ _ _ _ | exact Kd.Q_nil _ _ _ _ _ | exact Kd.S_nil _ _ _ _ _, by first | exact Kd.R_nil _ _ _ _ _ | exact Kd.N_nil _ _ _ _ _ | exact Kd.V_nil _ _ _ _ _ | exact Kd.Q_nil _ _ _ _ _ | exact Kd.S_nil _ _ _ _ _, by repeat (first | (with_reducible first | exact HB.out | apply below_alloc | apply pw_below_drewN | apply below_drew1 | refine below_set ?_ GE166.out | refine below_set ?_ GE167.out) | exact HB.out)⟩

/-! ### feeder_waits: function 45 -/
def feeder_waits.f (a0_0 : Int) (a0_1 : Int) (a0_2 : Int) (a0_3 : Bool) (a0_4 : Bool) : Option (Bool) := if a0_3 = true then (some false) else (if a0_2 = (-1) then (some false) else (some (!a0_4)))
set_option maxHeartbeats 8000000 in
set_option maxRecDepth 100000 in
theorem feeder_waits.calls (a0_0 : Int) (a0_1 : Int) (a0_2 : Int) (a0_3 : Bool) (a0_4 : Bool) (r : Bool) (w : World) (h : feeder_waits.f a0_0 a0_1 a0_2 a0_3 a0_4 = some r) :
  Calls Try.prog 45 #[.agg #[.int .i64 a0_0, .int .i64 a0_1, .int .i64 a0_2, .bool a0_3, .bool a0_4]] w fun e w' => e = .returned (.bool r) ∧ Below w.heap.size w w' := by
 have hu32 := Try.underlying32
 have HB := Aside0.mk (Below.refl w.heap.size w)
 have H : (if a0_3 = true then (some false) else (if a0_2 = (-1) then (some false) else (some (!a0_4)))) = some r := h
 clear h
 by_cases c2 : a0_3 = true
 ·
  subst c2
  have H1 : (some false) = some r := by rw [if_pos rfl] at H; exact H
  clear H
  have H := H1
  clear H1
  obtain rfl := Option.some.inj H
  go_enter Try.func45, Try.ntmps45
  go_wp2_with (first | ((with_reducible refine gate_dst (N := 1) rfl ?_); refine box_event ?hg (N := 1) ?hd (cs := #[.int .i64 a0_0, .int .i64 a0_1, .int .i64 a0_2, .bool true, .bool a0_4]) (t := 32) ?hr ?_; (case hd => rfl); (case hg => rfl); (case hr => first | (go_simp; done) | (go_simp; rfl)); intro gb179 hg w3 hbox hb; have n0_ := Aside0.mk (below_step (by repeat (first | (with_reducible first | exact HB.out | apply below_alloc | apply pw_below_drewN | apply below_drew1) | exact HB.out)) hb); have n1_ := Aside0.mk (hbox); have n2_ := Aside0.mk ((by rw [hg]; exact (below_size (by repeat (first | (with_reducible first | exact HB.out | apply below_alloc | apply pw_below_drewN | apply below_drew1) | exact HB.out))) : w.heap.size ≤ gb179)); have n3_ := Aside0.mk ((by rw [hg]; exact (below_size (by repeat (first | (with_reducible first | exact HB.out | apply below_alloc | apply pw_below_drewN | apply below_drew1) | exact HB.out))) : w.heap.size ≤ gb179)); clear HB; have HB := n0_; have BK179 := n1_; have GW179 := n2_; have GE179 := n3_; clear n0_ n1_ n2_ n3_; clear hb hbox hg; have hcz4_0 : w3.cell? ⟨gb179, 0, none⟩ = some (.int .i64 a0_0) := (blk_cell BK179.out 0).trans rfl; have hcz4_1 : w3.cell? ⟨gb179, 1, none⟩ = some (.int .i64 a0_1) := (blk_cell BK179.out 1).trans rfl; have hcz4_2 : w3.cell? ⟨gb179, 2, none⟩ = some (.int .i64 a0_2) := (blk_cell BK179.out 2).trans rfl; have hcz4_3 : w3.cell? ⟨gb179, 3, none⟩ = some (.bool true) := (blk_cell BK179.out 3).trans rfl; have hcz4_4 : w3.cell? ⟨gb179, 4, none⟩ = some (.bool a0_4) := (blk_cell BK179.out 4).trans rfl; have hfz4_0 := blk_frozen BK179.out 0; have hfz4_1 := blk_frozen BK179.out 1; have hfz4_2 := blk_frozen BK179.out 2; have hfz4_3 := blk_frozen BK179.out 3; have hfz4_4 := blk_frozen BK179.out 4))
  go_ret
  exact ⟨by first | rfl | (simp [errW_none, errW_some] <;> rfl) | (simp [*, errW_none, errW_some] <;> rfl), by repeat (first | (with_reducible first | exact HB.out | apply below_alloc | apply pw_below_drewN | apply below_drew1 | refine below_set ?_ GE179.out) | exact HB.out)⟩
 ·
  replace c2 := Bool.eq_false_iff.mpr c2
  subst c2
  have H1 : (if a0_2 = (-1) then (some false) else (some (!a0_4))) = some r := by rw [if_neg (show ¬ (false = true) by decide)] at H; exact H
  clear H
  have H := H1
  clear H1
  by_cases c5 : a0_2 = (-1)
  ·
   rw [if_pos c5] at H
   have c5b0 : (a0_2 == (-1)) = true := beq_iff_eq.mpr c5
   have c5b1 : (a0_2 != (-1)) = false := bne_eq_false_iff_eq.mpr c5
   clear c5
   obtain rfl := Option.some.inj H
   go_enter Try.func45, Try.ntmps45
   go_wp2_with (first | ((with_reducible refine gate_dst (N := 1) rfl ?_); refine box_event ?hg (N := 1) ?hd (cs := #[.int .i64 a0_0, .int .i64 a0_1, .int .i64 a0_2, .bool false, .bool a0_4]) (t := 32) ?hr ?_; (case hd => rfl); (case hg => rfl); (case hr => first | (go_simp; done) | (go_simp; rfl)); intro gb179 hg w6 hbox hb; have n0_ := Aside0.mk (below_step (by repeat (first | (with_reducible first | exact HB.out | apply below_alloc | apply pw_below_drewN | apply below_drew1) | exact HB.out)) hb); have n1_ := Aside0.mk (hbox); have n2_ := Aside0.mk ((by rw [hg]; exact (below_size (by repeat (first | (with_reducible first | exact HB.out | apply below_alloc | apply pw_below_drewN | apply below_drew1) | exact HB.out))) : w.heap.size ≤ gb179)); have n3_ := Aside0.mk ((by rw [hg]; exact (below_size (by repeat (first | (with_reducible first | exact HB.out | apply below_alloc | apply pw_below_drewN | apply below_drew1) | exact HB.out))) : w.heap.size ≤ gb179)); clear HB; have HB := n0_; have BK179 := n1_; have GW179 := n2_; have GE179 := n3_; clear n0_ n1_ n2_ n3_; clear hb hbox hg; have hcz7_0 : w6.cell? ⟨gb179, 0, none⟩ = some (.int .i64 a0_0) := (blk_cell BK179.out 0).trans rfl; have hcz7_1 : w6.cell? ⟨gb179, 1, none⟩ = some (.int .i64 a0_1) := (blk_cell BK179.out 1).trans rfl; have hcz7_2 : w6.cell? ⟨gb179, 2, none⟩ = some (.int .i64 a0_2) := (blk_cell BK179.out 2).trans rfl; have hcz7_3 : w6.cell? ⟨gb179, 3, none⟩ = some (.bool false) := (blk_cell BK179.out 3).trans rfl; have hcz7_4 : w6.cell? ⟨gb179, 4, none⟩ = some (.bool a0_4) := (blk_cell BK179.out 4).trans rfl; have hfz7_0 := blk_frozen BK179.out 0; have hfz7_1 := blk_frozen BK179.out 1; have hfz7_2 := blk_frozen BK179.out 2; have hfz7_3 := blk_frozen BK179.out 3; have hfz7_4 := blk_frozen BK179.out 4))
   go_ret
   exact ⟨by first | rfl | (simp [errW_none, errW_some] <;> rfl) | (simp [*, errW_none, errW_some] <;> rfl), by repeat (first | (with_reducible first | exact HB.out | apply below_alloc | apply pw_below_drewN | apply below_drew1 | refine below_set ?_ GE179.out) | exact HB.out)⟩
  ·
   rw [if_neg c5] at H
   have c5b0 : (a0_2 == (-1)) = false := beq_eq_false_iff_ne.mpr c5
   have c5b1 : (a0_2 != (-1)) = true := bne_iff_ne.mpr c5
   obtain rfl := Option.some.inj H
   go_enter Try.func45, Try.ntmps45
   go_wp2_with (first | ((with_reducible refine gate_dst (N := 1) rfl ?_); refine box_event ?hg (N := 1) ?hd (cs := #[.int .i64 a0_0, .int .i64 a0_1, .int .i64 a0_2, .bool false, .bool a0_4]) (t := 32) ?hr ?_; (case hd => rfl); (case hg => rfl); (case hr => first | (go_simp; done) | (go_simp; rfl)); intro gb179 hg w8 hbox hb; have n0_ := Aside0.mk (below_step (by repeat (first | (with_reducible first | exact HB.out | apply below_alloc | apply pw_below_drewN | apply below_drew1) | exact HB.out)) hb); have n1_ := Aside0.mk (hbox); have n2_ := Aside0.mk ((by rw [hg]; exact (below_size (by repeat (first | (with_reducible first | exact HB.out | apply below_alloc | apply pw_below_drewN | apply below_drew1) | exact HB.out))) : w.heap.size ≤ gb179)); have n3_ := Aside0.mk ((by rw [hg]; exact (below_size (by repeat (first | (with_reducible first | exact HB.out | apply below_alloc | apply pw_below_drewN | apply below_drew1) | exact HB.out))) : w.heap.size ≤ gb179)); clear HB; have HB := n0_; have BK179 := n1_; have GW179 := n2_; have GE179 := n3_; clear n0_ n1_ n2_ n3_; clear hb hbox hg; have hcz9_0 : w8.cell? ⟨gb179, 0, none⟩ = some (.int .i64 a0_0) := (blk_cell BK179.out 0).trans rfl; have hcz9_1 : w8.cell? ⟨gb179, 1, none⟩ = some (.int .i64 a0_1) := (blk_cell BK179.out 1).trans rfl; have hcz9_2 : w8.cell? ⟨gb179, 2, none⟩ = some (.int .i64 a0_2) := (blk_cell BK179.out 2).trans rfl; have hcz9_3 : w8.cell? ⟨gb179, 3, none⟩ = some (.bool false) := (blk_cell BK179.out 3).trans rfl; have hcz9_4 : w8.cell? ⟨gb179, 4, none⟩ = some (.bool a0_4) := (blk_cell BK179.out 4).trans rfl; have hfz9_0 := blk_frozen BK179.out 0; have hfz9_1 := blk_frozen BK179.out 1; have hfz9_2 := blk_frozen BK179.out 2; have hfz9_3 := blk_frozen BK179.out 3; have hfz9_4 := blk_frozen BK179.out 4))
   go_ret
   exact ⟨by first | rfl | (simp [errW_none, errW_some] <;> rfl) | (simp [*, errW_none, errW_some] <;> rfl), by repeat (first | (with_reducible first | exact HB.out | apply below_alloc | apply pw_below_drewN | apply below_drew1 | refine below_set ?_ GE179.out) | exact HB.out)⟩

/-! ### feeder_Due: function 15 -/
def feeder_Due.l0 : Nat → Int → List (S32) → Int → Int → List (S32) → List Int → Int → Option (Int)
 | 0, _, _, _, _, _, _, _ => none
 | k + 1, x3, x10, x11, x12, x181000, x181001, x181002 => if x12 < x11 then (if 0 ≤ x12 then (if x12 < (x10.length : Int) then ((feeder_waits.f ((rd_T32 x10 x12).f0) ((rd_T32 x10 x12).f1) ((rd_T32 x10 x12).f2) ((rd_T32 x10 x12).f3) ((rd_T32 x10 x12).f4)).bind fun t184 => (if t184 = true then (feeder_Due.l0 k (mn x3 (wrap64 (((rd_T32 x10 x12).f1) + x181002))) x10 x11 (wrap64 (x12 + 1)) x181000 x181001 x181002) else (feeder_Due.l0 k x3 x10 x11 (wrap64 (x12 + 1)) x181000 x181001 x181002))) else (none)) else (none)) else (some x3)
def feeder_Due.f (k : Nat) (l0_0 : List (S32)) (l0_1 : List Int) (a0_2 : Int) : Option (Int) := (feeder_Check.f k l0_0 l0_1 a0_2).bind fun t181 => (if t181 = 0 then (feeder_Due.l0 k 1099511627776 l0_0 (l0_0.length : Int) 0 l0_0 l0_1 a0_2) else (some 0))
theorem feeder_Due.mono_l : ∀ k, (∀ y0 y1 y2 y3 y4 y5 y6, LeO (feeder_Due.l0 k y0 y1 y2 y3 y4 y5 y6) (feeder_Due.l0 (k + 1) y0 y1 y2 y3 y4 y5 y6))
 | 0 => fun _ _ _ _ _ _ _ r h => by simp [feeder_Due.l0] at h
 | k + 1 => by
  have ih0 := feeder_Due.mono_l k
  ·
   intro y0 y1 y2 y3 y4 y5 y6
   unfold feeder_Due.l0
   repeat' first
   | (with_reducible exact ih0 _ _ _ _ _ _ _)
   | (with_reducible exact feeder_Check.mono _ _ _ _)
   | (with_reducible exact LeO.refl _)
   | (with_reducible exact LeO.none _)
   | (with_reducible refine LeO.ite ?_ ?_)
   | (with_reducible refine LeO.bind ?_ (fun _ => ?_))
   | exact ih0 _ _ _ _ _ _ _
   | exact feeder_Check.mono _ _ _ _
   | exact LeO.none _
   | refine LeO.ite ?_ ?_
   | refine LeO.bind ?_ (fun _ => ?_)
theorem feeder_Due.mono : ∀ a0 a1 a2 k, LeO (feeder_Due.f k a0 a1 a2) (feeder_Due.f (k + 1) a0 a1 a2) := by
 intro a0 a1 a2 k
 have ih0 := feeder_Due.mono_l k
 unfold feeder_Due.f
 repeat' first
   | (with_reducible exact ih0 _ _ _ _ _ _ _)
   | (with_reducible exact feeder_Check.mono _ _ _ _)
   | (with_reducible exact LeO.refl _)
   | (with_reducible exact LeO.none _)
   | (with_reducible refine LeO.ite ?_ ?_)
   | (with_reducible refine LeO.bind ?_ (fun _ => ?_))
   | exact ih0 _ _ _ _ _ _ _
   | exact feeder_Check.mono _ _ _ _
   | exact LeO.none _
   | refine LeO.ite ?_ ?_
   | refine LeO.bind ?_ (fun _ => ?_)
set_option maxHeartbeats 8000000 in
set_option maxRecDepth 100000 in
theorem feeder_Due.calls (k : Nat) (A0_0 : Option Addr) (c0_0 : Nat) (l0_0 : List (S32)) (A0_1 : Option Addr) (c0_1 : Nat) (l0_1 : List Int) (a0_2 : Int) (r : Int) (w : World) (hr0_0 : Kd.C k32 w A0_0 l0_0.length l0_0) (hc0_0 : l0_0.length ≤ c0_0) (hr0_1 : Kd.C (Kd.int .i64) w A0_1 l0_1.length l0_1) (hc0_1 : l0_1.length ≤ c0_1) (h : feeder_Due.f k l0_0 l0_1 a0_2 = some r) :
  Calls Try.prog 15 #[.agg #[.slice A0_0 l0_0.length c0_0, .slice A0_1 l0_1.length c0_1, .int .i64 a0_2]] w fun e w' => e = .returned (.int .i64 r) ∧ Below w.heap.size w w' := by
 have hu28 := Try.underlying28
 have hu32 := Try.underlying32
 have HR0_0 := Aside0.mk hr0_0
 have HC0_0 := Aside0.mk hc0_0
 clear hr0_0 hc0_0
 have HR0_1 := Aside0.mk hr0_1
 have HC0_1 := Aside0.mk hc0_1
 clear hr0_1 hc0_1
 have HB := Aside0.mk (Below.refl w.heap.size w)
 have H : ((feeder_Check.f k l0_0 l0_1 a0_2).bind fun t181 => (if t181 = 0 then (feeder_Due.l0 k 1099511627776 l0_0 (l0_0.length : Int) 0 l0_0 l0_1 a0_2) else (some 0))) = some r := h
 clear h
 replace H := Option.bind_eq_some_iff.mp H
 obtain ⟨t181, A20, H⟩ := H
 replace H : (if t181 = 0 then (feeder_Due.l0 k 1099511627776 l0_0 (l0_0.length : Int) 0 l0_0 l0_1 a0_2) else (some 0)) = some r := H
 have A2 := Aside0.mk A20
 clear A20
 by_cases c3 : t181 = 0
 ·
  rw [if_pos c3] at H
  have c3b0 : (t181 == 0) = true := beq_iff_eq.mpr c3
  have c3b1 : (t181 != 0) = false := bne_eq_false_iff_eq.mpr c3
  clear c3
  have H' := Aside0.mk H
  clear H
  go_enter Try.func15, Try.ntmps15
  go_wp2_with (first | ((with_reducible refine gate_dst (N := 1) rfl ?_); refine box_event ?hg (N := 1) ?hd (cs := #[.slice A0_0 l0_0.length c0_0, .slice A0_1 l0_1.length c0_1, .int .i64 a0_2]) (t := 28) ?hr ?_; (case hd => rfl); (case hg => rfl); (case hr => first | (go_simp; done) | (go_simp; rfl)); intro gb180 hg w4 hbox hb; have n0_ := Aside0.mk (below_step (by repeat (first | (with_reducible first | exact HB.out | apply below_alloc | apply pw_below_drewN | apply below_drew1) | exact HB.out)) hb); have n1_ := Aside0.mk (hbox); have n2_ := Aside0.mk ((by rw [hg]; exact (below_size (by repeat (first | (with_reducible first | exact HB.out | apply below_alloc | apply pw_below_drewN | apply below_drew1) | exact HB.out))) : w.heap.size ≤ gb180)); have n3_ := Aside0.mk ((by rw [hg]; exact (below_size (by repeat (first | (with_reducible first | exact HB.out | apply below_alloc | apply pw_below_drewN | apply below_drew1) | exact HB.out))) : w.heap.size ≤ gb180)); clear HB; have HB := n0_; have BK180 := n1_; have GW180 := n2_; have GE180 := n3_; clear n0_ n1_ n2_ n3_; clear hb hbox hg; have hcz5_0 : w4.cell? ⟨gb180, 0, none⟩ = some (.slice A0_0 l0_0.length c0_0) := (blk_cell BK180.out 0).trans rfl; have hcz5_1 : w4.cell? ⟨gb180, 1, none⟩ = some (.slice A0_1 l0_1.length c0_1) := (blk_cell BK180.out 1).trans rfl; have hcz5_2 : w4.cell? ⟨gb180, 2, none⟩ = some (.int .i64 a0_2) := (blk_cell BK180.out 2).trans rfl; have hfz5_0 := blk_frozen BK180.out 0; have hfz5_1 := blk_frozen BK180.out 1; have hfz5_2 := blk_frozen BK180.out 2) | ((with_reducible refine gate_callee (f := 23) rfl ?_); refine goesL_ (some 7) rfl rfl Try.func23 (by kernel_rfl) rfl #[.agg #[.slice A0_0 l0_0.length c0_0, .slice A0_1 l0_1.length c0_1, .int .i64 a0_2]] rfl (by (try simp only [List.map_toArray, List.map_cons, List.map_nil]); first | done | rfl | (simp only [List.length_drop, List.length_take]; rfl)) ?_; (with_reducible refine (feeder_Check.calls k _ _ l0_0 _ _ l0_1 a0_2 t181 _ ?side1 ?side2 ?side3 ?side4 A2.out).mono ?_); (case side1 => repeat (first | exact (by first | exact (Kd.C_below HR0_0.out HB.out) | exact HR0_0.out) | (with_reducible refine Kd.C_alloc ?_ _) | (with_reducible refine Kd.C_drewN ?_ _) | (with_reducible refine Kd.C_drew ?_))); (case side2 => exact HC0_0.out); (case side3 => repeat (first | exact (by first | exact (Kd.C_below HR0_1.out HB.out) | exact HR0_1.out) | (with_reducible refine Kd.C_alloc ?_ _) | (with_reducible refine Kd.C_drewN ?_ _) | (with_reducible refine Kd.C_drew ?_))); (case side4 => exact HC0_1.out); rintro e w6 ⟨rfl, hb⟩; refine ⟨_, rfl, ?_⟩; have n0_ := Aside0.mk (blk_below (g := gb180) (o := .cells #[.slice A0_0 l0_0.length c0_0, .slice A0_1 l0_1.length c0_1, .int .i64 a0_2] 28 (0, 0)) (by (with_reducible repeat (first | refine blk_drewN ?_ _ | refine blk_drew ?_ | refine blk_alloc ?_ _)); exact BK180.out) hb); have n1_ := Aside0.mk (below_step (by repeat (first | (with_reducible first | exact HB.out | apply below_alloc | apply pw_below_drewN | apply below_drew1 | refine below_set ?_ GE180.out) | exact HB.out)) hb); clear BK180; clear HB; have BK180 := n0_; have HB := n1_; clear n0_ n1_; (try clear hb); (try clear hb2); (try clear hge); (try clear hk); (try clear hi); have hcz7_0 : w6.cell? ⟨gb180, 0, none⟩ = some (.slice A0_0 l0_0.length c0_0) := (blk_cell BK180.out 0).trans rfl; have hcz7_1 : w6.cell? ⟨gb180, 1, none⟩ = some (.slice A0_1 l0_1.length c0_1) := (blk_cell BK180.out 1).trans rfl; have hcz7_2 : w6.cell? ⟨gb180, 2, none⟩ = some (.int .i64 a0_2) := (blk_cell BK180.out 2).trans rfl; have hfz7_0 := blk_frozen BK180.out 0; have hfz7_1 := blk_frozen BK180.out 1; have hfz7_2 := blk_frozen BK180.out 2))
  go_loopg [3, 12] k (fun kq v3 v12 w' => ∃ (x3_1 : Int) (x12_1 : Int), v3 = .int .i64 x3_1 ∧ v12 = .int .i64 x12_1 ∧ Aside0 (feeder_Due.l0 kq x3_1 l0_0 (l0_0.length : Int) x12_1 l0_0 l0_1 a0_2 = some r) ∧ Aside0 (kq ≤ k) ∧ Aside0 (w'.heap[gb180]? = some (.cells #[(.slice A0_0 l0_0.length c0_0), (.slice A0_1 l0_1.length c0_1), .int .i64 a0_2] 28 (0, 0))) ∧ Aside0 (Below w.heap.size w w'))
  case atStart => exact ⟨(1099511627776), (0), (by first | rfl | (simp; done) | (simp [*]; done)), (by first | rfl | (simp; done) | (simp [*]; done)), H', ⟨Nat.le_refl _⟩, ⟨by (with_reducible repeat (first | refine blk_drewN ?_ _ | refine blk_drew ?_ | refine blk_alloc ?_ _)); exact BK180.out⟩, ⟨by repeat (first | (with_reducible first | exact HB.out | apply below_alloc | apply pw_below_drewN | apply below_drew1 | refine below_set ?_ GE180.out) | exact HB.out)⟩⟩
  case round =>
   clear H'
   try clear c1; try clear c2; try clear p2; try clear c3; try clear c3b0; try clear c3b1; try clear hcz5_0; try clear hcz5_1; try clear hcz5_2; try clear hcz7_0; try clear hcz7_1; try clear hcz7_2; try clear hfz5_0; try clear hfz5_1; try clear hfz5_2; try clear hfz7_0; try clear hfz7_1; try clear hfz7_2
   obtain ⟨x3_1, x12_1, rfl, rfl, HA, HK1, BK180, HB⟩ := hrel
   cases gk with
   | zero => exact absurd HA.out (by simp [feeder_Due.l0])
   | succ k1 =>
    have H := HA.out
    clear HA
    simp only [feeder_Due.l0] at H
    by_cases c8 : x12_1 < (l0_0.length : Int)
    ·
     rw [if_pos c8] at H
     have c8b0 : decide (x12_1 < (l0_0.length : Int)) = true := decide_eq_true c8
     clear c8
     by_cases c9 : 0 ≤ x12_1
     rotate_left
     ·
      rw [if_neg c9] at H
      exact absurd H (by simp)
     rw [if_pos c9] at H
     have c9b0 : decide (0 ≤ x12_1) = true := decide_eq_true c9
     clear c9
     by_cases c10 : x12_1 < (l0_0.length : Int)
     rotate_left
     ·
      rw [if_neg c10] at H
      exact absurd H (by simp)
     rw [if_pos c10] at H
     have c10b0 : decide (x12_1 < (l0_0.length : Int)) = true := decide_eq_true c10
     clear c10
     replace H := Option.bind_eq_some_iff.mp H
     obtain ⟨t184, A110, H⟩ := H
     replace H : (if t184 = true then (feeder_Due.l0 k1 (mn x3_1 (wrap64 (((rd_T32 l0_0 x12_1).f1) + a0_2))) l0_0 (l0_0.length : Int) (wrap64 (x12_1 + 1)) l0_0 l0_1 a0_2) else (feeder_Due.l0 k1 x3_1 l0_0 (l0_0.length : Int) (wrap64 (x12_1 + 1)) l0_0 l0_1 a0_2)) = some r := H
     have A11 := Aside0.mk A110
     clear A110
     by_cases c12 : t184 = true
     ·
      subst c12
      have H1 : (feeder_Due.l0 k1 (mn x3_1 (wrap64 (((rd_T32 l0_0 x12_1).f1) + a0_2))) l0_0 (l0_0.length : Int) (wrap64 (x12_1 + 1)) l0_0 l0_1 a0_2) = some r := by rw [if_pos rfl] at H; exact H
      clear H
      have H := H1
      clear H1
      obtain ⟨ji13, hji13⟩ : ∃ j_ : Int, (mn x3_1 (wrap64 (((rd_T32 l0_0 x12_1).f1) + a0_2))) = j_ := ⟨_, rfl⟩
      replace H : (feeder_Due.l0 k1 ji13 l0_0 (l0_0.length : Int) (wrap64 (x12_1 + 1)) l0_0 l0_1 a0_2) = some r := by first | (rw [hji13] at H; exact H) | (simp only [hji13] at H ⊢; exact H)
      (try rw [hji13] at A11)
      have hji13_ : (if (wrap64 (((rd_T32 l0_0 x12_1).f1) + a0_2)) < x3_1 then (wrap64 (((rd_T32 l0_0 x12_1).f1) + a0_2)) else x3_1) = ji13 := hji13
      have H' := Aside0.mk H
      clear H
      have p182 : 0 ≤ (x12_1 : Int) := of_decide_eq_true (by first | (with_reducible assumption) | assumption)
      have q182 : x12_1 < (l0_0.length : Int) := of_decide_eq_true (by first | (with_reducible assumption) | assumption)
      obtain ⟨ad182, e182, hx182_0, hx182_1, hx182_2, hx182_3, hx182_4⟩ := at_T32 HR0_0.out x12_1 p182 q182
      cases e182
      try replace hx182_0 := (HB.out.cell (World.block_lt_of_cell? w _ hx182_0)).trans hx182_0
      try replace hx182_1 := (HB.out.cell (World.block_lt_of_cell? w _ hx182_1)).trans hx182_1
      try replace hx182_2 := (HB.out.cell (World.block_lt_of_cell? w _ hx182_2)).trans hx182_2
      try replace hx182_3 := (HB.out.cell (World.block_lt_of_cell? w _ hx182_3)).trans hx182_3
      try replace hx182_4 := (HB.out.cell (World.block_lt_of_cell? w _ hx182_4)).trans hx182_4
      replace p182 := eq_true p182
      replace q182 := eq_true q182
      go_wp2_with (first | ((with_reducible refine gate_dst (N := 5) rfl ?_); refine box_event ?hg (N := 5) ?hd (cs := #[.int .i64 0, .int .i64 0, .int .i64 0, .bool false, .bool false]) (t := 32) ?hr ?_; (case hd => rfl); (case hg => rfl); (case hr => first | (go_simp; done) | (go_simp; rfl)); intro gb183 hg w14 hbox hb; have n0_ := Aside0.mk (blk_below (g := gb180) (o := .cells #[.slice (some ad182) l0_0.length c0_0, .slice A0_1 l0_1.length c0_1, .int .i64 a0_2] 28 (0, 0)) (by (with_reducible repeat (first | refine blk_drewN ?_ _ | refine blk_drew ?_ | refine blk_alloc ?_ _)); exact BK180.out) hb); have n1_ := Aside0.mk (below_step (by repeat (first | (with_reducible first | exact HB.out | apply below_alloc | apply pw_below_drewN | apply below_drew1 | refine below_set ?_ GE180.out) | exact HB.out)) hb); have n2_ := Aside0.mk (hbox); have n3_ := Aside0.mk ((by rw [hg]; exact (below_size (by repeat (first | (with_reducible first | exact HB.out | apply below_alloc | apply pw_below_drewN | apply below_drew1 | refine below_set ?_ GE180.out) | exact HB.out))) : w.heap.size ≤ gb183)); have n4_ := Aside0.mk ((by rw [hg]; exact (below_size (by repeat (first | (with_reducible first | exact HB.out | apply below_alloc | apply pw_below_drewN | apply below_drew1 | refine below_set ?_ GE180.out) | exact HB.out))) : w.heap.size ≤ gb183)); have n5_ := Aside0.mk ((by rw [hg]; exact Nat.ne_of_lt (blk_lt (g := gb180) (o := .cells #[.slice (some ad182) l0_0.length c0_0, .slice A0_1 l0_1.length c0_1, .int .i64 a0_2] 28 (0, 0)) (by (with_reducible repeat (first | refine blk_drewN ?_ _ | refine blk_drew ?_ | refine blk_alloc ?_ _)); exact BK180.out)) : gb180 ≠ gb183)); have n6_ := Aside0.mk ((by rw [hg]; exact Nat.ne_of_gt (blk_lt (g := gb180) (o := .cells #[.slice (some ad182) l0_0.length c0_0, .slice A0_1 l0_1.length c0_1, .int .i64 a0_2] 28 (0, 0)) (by (with_reducible repeat (first | refine blk_drewN ?_ _ | refine blk_drew ?_ | refine blk_alloc ?_ _)); exact BK180.out)) : gb183 ≠ gb180)); clear BK180; clear HB; have BK180 := n0_; have HB := n1_; have BK183 := n2_; have GW183 := n3_; have GE183 := n4_; have NB180_183 := n5_; have NB183_180 := n6_; clear n0_ n1_ n2_ n3_ n4_ n5_ n6_; clear hb hbox hg; have hnb15 := NB183_180.out; have hnc15 := NB180_183.out; have hcz16_0 : w14.cell? ⟨gb183, 0, none⟩ = some (.int .i64 0) := (blk_cell BK183.out 0).trans rfl; have hcz16_1 : w14.cell? ⟨gb183, 1, none⟩ = some (.int .i64 0) := (blk_cell BK183.out 1).trans rfl; have hcz16_2 : w14.cell? ⟨gb183, 2, none⟩ = some (.int .i64 0) := (blk_cell BK183.out 2).trans rfl; have hcz16_3 : w14.cell? ⟨gb183, 3, none⟩ = some (.bool false) := (blk_cell BK183.out 3).trans rfl; have hcz16_4 : w14.cell? ⟨gb183, 4, none⟩ = some (.bool false) := (blk_cell BK183.out 4).trans rfl; have hfz16_0 := blk_frozen BK183.out 0; have hfz16_1 := blk_frozen BK183.out 1; have hfz16_2 := blk_frozen BK183.out 2; have hfz16_3 := blk_frozen BK183.out 3; have hfz16_4 := blk_frozen BK183.out 4) | ((with_reducible refine gate_callee (f := 45) rfl ?_); refine goesL_ (some 17) rfl rfl Try.func45 (by kernel_rfl) rfl #[.agg #[.int .i64 ((rd_T32 l0_0 x12_1).f0), .int .i64 ((rd_T32 l0_0 x12_1).f1), .int .i64 ((rd_T32 l0_0 x12_1).f2), .bool ((rd_T32 l0_0 x12_1).f3), .bool ((rd_T32 l0_0 x12_1).f4)]] rfl (by (try simp only [List.map_toArray, List.map_cons, List.map_nil]); first | done | rfl | (simp only [List.length_drop, List.length_take]; rfl)) ?_; (with_reducible refine (feeder_waits.calls ((rd_T32 l0_0 x12_1).f0) ((rd_T32 l0_0 x12_1).f1) ((rd_T32 l0_0 x12_1).f2) ((rd_T32 l0_0 x12_1).f3) ((rd_T32 l0_0 x12_1).f4) true _ A11.out).mono ?_); rintro e w17 ⟨rfl, hb⟩; refine ⟨_, rfl, ?_⟩; have n0_ := Aside0.mk (blk_below (g := gb180) (o := .cells #[.slice (some ad182) l0_0.length c0_0, .slice A0_1 l0_1.length c0_1, .int .i64 a0_2] 28 (0, 0)) (by (with_reducible repeat (first | refine blk_drewN ?_ _ | refine blk_drew ?_ | refine blk_alloc ?_ _)); refine blk_far ?_ NB180_183.out _; (with_reducible repeat (first | refine blk_drewN ?_ _ | refine blk_drew ?_ | refine blk_alloc ?_ _)); refine blk_far ?_ NB180_183.out _; (with_reducible repeat (first | refine blk_drewN ?_ _ | refine blk_drew ?_ | refine blk_alloc ?_ _)); refine blk_far ?_ NB180_183.out _; (with_reducible repeat (first | refine blk_drewN ?_ _ | refine blk_drew ?_ | refine blk_alloc ?_ _)); refine blk_far ?_ NB180_183.out _; (with_reducible repeat (first | refine blk_drewN ?_ _ | refine blk_drew ?_ | refine blk_alloc ?_ _)); refine blk_far ?_ NB180_183.out _; (with_reducible repeat (first | refine blk_drewN ?_ _ | refine blk_drew ?_ | refine blk_alloc ?_ _)); exact BK180.out) hb); have n1_ := Aside0.mk (blk_below (g := gb183) (o := .cells #[.int .i64 ((rd_T32 l0_0 x12_1).f0), .int .i64 ((rd_T32 l0_0 x12_1).f1), .int .i64 ((rd_T32 l0_0 x12_1).f2), .bool ((rd_T32 l0_0 x12_1).f3), .bool ((rd_T32 l0_0 x12_1).f4)] 32 (0, 0)) (by (with_reducible repeat (first | refine blk_drewN ?_ _ | refine blk_drew ?_ | refine blk_alloc ?_ _)); refine blk_put (cs := #[.int .i64 ((rd_T32 l0_0 x12_1).f0), .int .i64 ((rd_T32 l0_0 x12_1).f1), .int .i64 ((rd_T32 l0_0 x12_1).f2), .bool ((rd_T32 l0_0 x12_1).f3), .bool false]) ?_ 4 _ rfl; (with_reducible repeat (first | refine blk_drewN ?_ _ | refine blk_drew ?_ | refine blk_alloc ?_ _)); refine blk_put (cs := #[.int .i64 ((rd_T32 l0_0 x12_1).f0), .int .i64 ((rd_T32 l0_0 x12_1).f1), .int .i64 ((rd_T32 l0_0 x12_1).f2), .bool false, .bool false]) ?_ 3 _ rfl; (with_reducible repeat (first | refine blk_drewN ?_ _ | refine blk_drew ?_ | refine blk_alloc ?_ _)); refine blk_put (cs := #[.int .i64 ((rd_T32 l0_0 x12_1).f0), .int .i64 ((rd_T32 l0_0 x12_1).f1), .int .i64 0, .bool false, .bool false]) ?_ 2 _ rfl; (with_reducible repeat (first | refine blk_drewN ?_ _ | refine blk_drew ?_ | refine blk_alloc ?_ _)); refine blk_put (cs := #[.int .i64 ((rd_T32 l0_0 x12_1).f0), .int .i64 0, .int .i64 0, .bool false, .bool false]) ?_ 1 _ rfl; (with_reducible repeat (first | refine blk_drewN ?_ _ | refine blk_drew ?_ | refine blk_alloc ?_ _)); refine blk_put (cs := #[.int .i64 0, .int .i64 0, .int .i64 0, .bool false, .bool false]) ?_ 0 _ rfl; (with_reducible repeat (first | refine blk_drewN ?_ _ | refine blk_drew ?_ | refine blk_alloc ?_ _)); exact BK183.out) hb); have n2_ := Aside0.mk (below_step (by repeat (first | (with_reducible first | exact HB.out | apply below_alloc | apply pw_below_drewN | apply below_drew1 | refine below_set ?_ GE180.out | refine below_set ?_ GE183.out) | exact HB.out)) hb); clear BK180; clear BK183; clear HB; have BK180 := n0_; have BK183 := n1_; have HB := n2_; clear n0_ n1_ n2_; (try clear hb); (try clear hb2); (try clear hge); (try clear hk); (try clear hi); have hcz18_0 : w17.cell? ⟨gb183, 0, none⟩ = some (.int .i64 ((rd_T32 l0_0 x12_1).f0)) := (blk_cell BK183.out 0).trans rfl; have hcz18_1 : w17.cell? ⟨gb183, 1, none⟩ = some (.int .i64 ((rd_T32 l0_0 x12_1).f1)) := (blk_cell BK183.out 1).trans rfl; have hcz18_2 : w17.cell? ⟨gb183, 2, none⟩ = some (.int .i64 ((rd_T32 l0_0 x12_1).f2)) := (blk_cell BK183.out 2).trans rfl; have hcz18_3 : w17.cell? ⟨gb183, 3, none⟩ = some (.bool ((rd_T32 l0_0 x12_1).f3)) := (blk_cell BK183.out 3).trans rfl; have hcz18_4 : w17.cell? ⟨gb183, 4, none⟩ = some (.bool ((rd_T32 l0_0 x12_1).f4)) := (blk_cell BK183.out 4).trans rfl; have hfz18_0 := blk_frozen BK183.out 0; have hfz18_1 := blk_frozen BK183.out 1; have hfz18_2 := blk_frozen BK183.out 2; have hfz18_3 := blk_frozen BK183.out 3; have hfz18_4 := blk_frozen BK183.out 4; have hcz19_0 : w17.cell? ⟨gb180, 0, none⟩ = some (.slice (some ad182) l0_0.length c0_0) := (blk_cell BK180.out 0).trans rfl; have hcz19_1 : w17.cell? ⟨gb180, 1, none⟩ = some (.slice A0_1 l0_1.length c0_1) := (blk_cell BK180.out 1).trans rfl; have hcz19_2 : w17.cell? ⟨gb180, 2, none⟩ = some (.int .i64 a0_2) := (blk_cell BK180.out 2).trans rfl; have hfz19_0 := blk_frozen BK180.out 0; have hfz19_1 := blk_frozen BK180.out 1; have hfz19_2 := blk_frozen BK180.out 2))
      go_roundg k1
      case measure => have := HK1.out; omega
      case rel => exact ⟨(ji13), (wrap64 (x12_1 + 1)), (by first | rfl | (simp; done) | (simp only [← hji13] <;> (first | rfl | simp)) | (simp [*]; done)), (by first | rfl | (simp; done) | (simp [*]; done)), H', ⟨by have := HK1.out; omega⟩, ⟨by (with_reducible repeat (first | refine blk_drewN ?_ _ | refine blk_drew ?_ | refine blk_alloc ?_ _)); exact BK180.out⟩, ⟨by repeat (first | (with_reducible first | exact HB.out | apply below_alloc | apply pw_below_drewN | apply below_drew1 | refine below_set ?_ GE180.out | refine below_set ?_ GE183.out) | exact HB.out)⟩⟩
     ·
      replace c12 := Bool.eq_false_iff.mpr c12
      subst c12
      have H1 : (feeder_Due.l0 k1 x3_1 l0_0 (l0_0.length : Int) (wrap64 (x12_1 + 1)) l0_0 l0_1 a0_2) = some r := by rw [if_neg (show ¬ (false = true) by decide)] at H; exact H
      clear H
      have H := H1
      clear H1
      have H' := Aside0.mk H
      clear H
      have p182 : 0 ≤ (x12_1 : Int) := of_decide_eq_true (by first | (with_reducible assumption) | assumption)
      have q182 : x12_1 < (l0_0.length : Int) := of_decide_eq_true (by first | (with_reducible assumption) | assumption)
      obtain ⟨ad182, e182, hx182_0, hx182_1, hx182_2, hx182_3, hx182_4⟩ := at_T32 HR0_0.out x12_1 p182 q182
      cases e182
      try replace hx182_0 := (HB.out.cell (World.block_lt_of_cell? w _ hx182_0)).trans hx182_0
      try replace hx182_1 := (HB.out.cell (World.block_lt_of_cell? w _ hx182_1)).trans hx182_1
      try replace hx182_2 := (HB.out.cell (World.block_lt_of_cell? w _ hx182_2)).trans hx182_2
      try replace hx182_3 := (HB.out.cell (World.block_lt_of_cell? w _ hx182_3)).trans hx182_3
      try replace hx182_4 := (HB.out.cell (World.block_lt_of_cell? w _ hx182_4)).trans hx182_4
      replace p182 := eq_true p182
      replace q182 := eq_true q182
      go_wp2_with (first | ((with_reducible refine gate_dst (N := 5) rfl ?_); refine box_event ?hg (N := 5) ?hd (cs := #[.int .i64 0, .int .i64 0, .int .i64 0, .bool false, .bool false]) (t := 32) ?hr ?_; (case hd => rfl); (case hg => rfl); (case hr => first | (go_simp; done) | (go_simp; rfl)); intro gb183 hg w20 hbox hb; have n0_ := Aside0.mk (blk_below (g := gb180) (o := .cells #[.slice (some ad182) l0_0.length c0_0, .slice A0_1 l0_1.length c0_1, .int .i64 a0_2] 28 (0, 0)) (by (with_reducible repeat (first | refine blk_drewN ?_ _ | refine blk_drew ?_ | refine blk_alloc ?_ _)); exact BK180.out) hb); have n1_ := Aside0.mk (below_step (by repeat (first | (with_reducible first | exact HB.out | apply below_alloc | apply pw_below_drewN | apply below_drew1 | refine below_set ?_ GE180.out) | exact HB.out)) hb); have n2_ := Aside0.mk (hbox); have n3_ := Aside0.mk ((by rw [hg]; exact (below_size (by repeat (first | (with_reducible first | exact HB.out | apply below_alloc | apply pw_below_drewN | apply below_drew1 | refine below_set ?_ GE180.out) | exact HB.out))) : w.heap.size ≤ gb183)); have n4_ := Aside0.mk ((by rw [hg]; exact (below_size (by repeat (first | (with_reducible first | exact HB.out | apply below_alloc | apply pw_below_drewN | apply below_drew1 | refine below_set ?_ GE180.out) | exact HB.out))) : w.heap.size ≤ gb183)); have n5_ := Aside0.mk ((by rw [hg]; exact Nat.ne_of_lt (blk_lt (g := gb180) (o := .cells #[.slice (some ad182) l0_0.length c0_0, .slice A0_1 l0_1.length c0_1, .int .i64 a0_2] 28 (0, 0)) (by (with_reducible repeat (first | refine blk_drewN ?_ _ | refine blk_drew ?_ | refine blk_alloc ?_ _)); exact BK180.out)) : gb180 ≠ gb183)); have n6_ := Aside0.mk ((by rw [hg]; exact Nat.ne_of_gt (blk_lt (g := gb180) (o := .cells #[.slice (some ad182) l0_0.length c0_0, .slice A0_1 l0_1.length c0_1, .int .i64 a0_2] 28 (0, 0)) (by (with_reducible repeat (first | refine blk_drewN ?_ _ | refine blk_drew ?_ | refine blk_alloc ?_ _)); exact BK180.out)) : gb183 ≠ gb180)); clear BK180; clear HB; have BK180 := n0_; have HB := n1_; have BK183 := n2_; have GW183 := n3_; have GE183 := n4_; have NB180_183 := n5_; have NB183_180 := n6_; clear n0_ n1_ n2_ n3_ n4_ n5_ n6_; clear hb hbox hg; have hnb21 := NB183_180.out; have hnc21 := NB180_183.out; have hcz22_0 : w20.cell? ⟨gb183, 0, none⟩ = some (.int .i64 0) := (blk_cell BK183.out 0).trans rfl; have hcz22_1 : w20.cell? ⟨gb183, 1, none⟩ = some (.int .i64 0) := (blk_cell BK183.out 1).trans rfl; have hcz22_2 : w20.cell? ⟨gb183, 2, none⟩ = some (.int .i64 0) := (blk_cell BK183.out 2).trans rfl; have hcz22_3 : w20.cell? ⟨gb183, 3, none⟩ = some (.bool false) := (blk_cell BK183.out 3).trans rfl; have hcz22_4 : w20.cell? ⟨gb183, 4, none⟩ = some (.bool false) := (blk_cell BK183.out 4).trans rfl; have hfz22_0 := blk_frozen BK183.out 0; have hfz22_1 := blk_frozen BK183.out 1; have hfz22_2 := blk_frozen BK183.out 2; have hfz22_3 := blk_frozen BK183.out 3; have hfz22_4 := blk_frozen BK183.out 4) | ((with_reducible refine gate_callee (f := 45) rfl ?_); refine goesL_ (some 17) rfl rfl Try.func45 (by kernel_rfl) rfl #[.agg #[.int .i64 ((rd_T32 l0_0 x12_1).f0), .int .i64 ((rd_T32 l0_0 x12_1).f1), .int .i64 ((rd_T32 l0_0 x12_1).f2), .bool ((rd_T32 l0_0 x12_1).f3), .bool ((rd_T32 l0_0 x12_1).f4)]] rfl (by (try simp only [List.map_toArray, List.map_cons, List.map_nil]); first | done | rfl | (simp only [List.length_drop, List.length_take]; rfl)) ?_; (with_reducible refine (feeder_waits.calls ((rd_T32 l0_0 x12_1).f0) ((rd_T32 l0_0 x12_1).f1) ((rd_T32 l0_0 x12_1).f2) ((rd_T32 l0_0 x12_1).f3) ((rd_T32 l0_0 x12_1).f4) false _ A11.out).mono ?_); rintro e w23 ⟨rfl, hb⟩; refine ⟨_, rfl, ?_⟩; have n0_ := Aside0.mk (blk_below (g := gb180) (o := .cells #[.slice (some ad182) l0_0.length c0_0, .slice A0_1 l0_1.length c0_1, .int .i64 a0_2] 28 (0, 0)) (by (with_reducible repeat (first | refine blk_drewN ?_ _ | refine blk_drew ?_ | refine blk_alloc ?_ _)); refine blk_far ?_ NB180_183.out _; (with_reducible repeat (first | refine blk_drewN ?_ _ | refine blk_drew ?_ | refine blk_alloc ?_ _)); refine blk_far ?_ NB180_183.out _; (with_reducible repeat (first | refine blk_drewN ?_ _ | refine blk_drew ?_ | refine blk_alloc ?_ _)); refine blk_far ?_ NB180_183.out _; (with_reducible repeat (first | refine blk_drewN ?_ _ | refine blk_drew ?_ | refine blk_alloc ?_ _)); refine blk_far ?_ NB180_183.out _; (with_reducible repeat (first | refine blk_drewN ?_ _ | refine blk_drew ?_ | refine blk_alloc ?_ _)); refine blk_far ?_ NB180_183.out _; (with_reducible repeat (first | refine blk_drewN ?_ _ | refine blk_drew ?_ | refine blk_alloc ?_ _)); exact BK180.out) hb); have n1_ := Aside0.mk (blk_below (g := gb183) (o := .cells #[.int .i64 ((rd_T32 l0_0 x12_1).f0), .int .i64 ((rd_T32 l0_0 x12_1).f1), .int .i64 ((rd_T32 l0_0 x12_1).f2), .bool ((rd_T32 l0_0 x12_1).f3), .bool ((rd_T32 l0_0 x12_1).f4)] 32 (0, 0)) (by (with_reducible repeat (first | refine blk_drewN ?_ _ | refine blk_drew ?_ | refine blk_alloc ?_ _)); refine blk_put (cs := #[.int .i64 ((rd_T32 l0_0 x12_1).f0), .int .i64 ((rd_T32 l0_0 x12_1).f1), .int .i64 ((rd_T32 l0_0 x12_1).f2), .bool ((rd_T32 l0_0 x12_1).f3), .bool false]) ?_ 4 _ rfl; (with_reducible repeat (first | refine blk_drewN ?_ _ | refine blk_drew ?_ | refine blk_alloc ?_ _)); refine blk_put (cs := #[.int .i64 ((rd_T32 l0_0 x12_1).f0), .int .i64 ((rd_T32 l0_0 x12_1).f1), .int .i64 ((rd_T32 l0_0 x12_1).f2), .bool false, .bool false]) ?_ 3 _ rfl; (with_reducible repeat (first | refine blk_drewN ?_ _ | refine blk_drew ?_ | refine blk_alloc ?_ _)); refine blk_put (cs := #[.int .i64 ((rd_T32 l0_0 x12_1).f0), .int .i64 ((rd_T32 l0_0 x12_1).f1), .int .i64 0, .bool false, .bool false]) ?_ 2 _ rfl; (with_reducible repeat (first | refine blk_drewN ?_ _ | refine blk_drew ?_ | refine blk_alloc ?_ _)); refine blk_put (cs := #[.int .i64 ((rd_T32 l0_0 x12_1).f0), .int .i64 0, .int .i64 0, .bool false, .bool false]) ?_ 1 _ rfl; (with_reducible repeat (first | refine blk_drewN ?_ _ | refine blk_drew ?_ | refine blk_alloc ?_ _)); refine blk_put (cs := #[.int .i64 0, .int .i64 0, .int .i64 0, .bool false, .bool false]) ?_ 0 _ rfl; (with_reducible repeat (first | refine blk_drewN ?_ _ | refine blk_drew ?_ | refine blk_alloc ?_ _)); exact BK183.out) hb); have n2_ := Aside0.mk (below_step (by repeat (first | (with_reducible first | exact HB.out | apply below_alloc | apply pw_below_drewN | apply below_drew1 | refine below_set ?_ GE180.out | refine below_set ?_ GE183.out) | exact HB.out)) hb); clear BK180; clear BK183; clear HB; have BK180 := n0_; have BK183 := n1_; have HB := n2_; clear n0_ n1_ n2_; (try clear hb); (try clear hb2); (try clear hge); (try clear hk); (try clear hi)))
      go_roundg k1
      case measure => have := HK1.out; omega
      case rel => exact ⟨(x3_1), (wrap64 (x12_1 + 1)), (by first | rfl | (simp; done) | (simp [*]; done)), (by first | rfl | (simp; done) | (simp [*]; done)), H', ⟨by have := HK1.out; omega⟩, ⟨by (with_reducible repeat (first | refine blk_drewN ?_ _ | refine blk_drew ?_ | refine blk_alloc ?_ _)); exact BK180.out⟩, ⟨by repeat (first | (with_reducible first | exact HB.out | apply below_alloc | apply pw_below_drewN | apply below_drew1 | refine below_set ?_ GE180.out | refine below_set ?_ GE183.out) | exact HB.out)⟩⟩
    ·
     rw [if_neg c8] at H
     have c8b0 : decide (x12_1 < (l0_0.length : Int)) = false := decide_eq_false c8
     clear c8
     obtain rfl := Option.some.inj H
     go_wp2
     go_ret
     exact ⟨by first | rfl | (simp [errW_none, errW_some] <;> rfl) | (simp [*, errW_none, errW_some] <;> rfl), by repeat (first | (with_reducible first | exact HB.out | apply below_alloc | apply pw_below_drewN | apply below_drew1 | refine below_set ?_ GE180.out) | exact HB.out)⟩
 ·
  rw [if_neg c3] at H
  have c3b0 : (t181 == 0) = false := beq_eq_false_iff_ne.mpr c3
  have c3b1 : (t181 != 0) = true := bne_iff_ne.mpr c3
  obtain rfl := Option.some.inj H
  go_enter Try.func15, Try.ntmps15
  go_wp2_with (first | ((with_reducible refine gate_dst (N := 1) rfl ?_); refine box_event ?hg (N := 1) ?hd (cs := #[.slice A0_0 l0_0.length c0_0, .slice A0_1 l0_1.length c0_1, .int .i64 a0_2]) (t := 28) ?hr ?_; (case hd => rfl); (case hg => rfl); (case hr => first | (go_simp; done) | (go_simp; rfl)); intro gb180 hg w24 hbox hb; have n0_ := Aside0.mk (below_step (by repeat (first | (with_reducible first | exact HB.out | apply below_alloc | apply pw_below_drewN | apply below_drew1) | exact HB.out)) hb); have n1_ := Aside0.mk (hbox); have n2_ := Aside0.mk ((by rw [hg]; exact (below_size (by repeat (first | (with_reducible first | exact HB.out | apply below_alloc | apply pw_below_drewN | apply below_drew1) | exact HB.out))) : w.heap.size ≤ gb180)); have n3_ := Aside0.mk ((by rw [hg]; exact (below_size (by repeat (first | (with_reducible first | exact HB.out | apply below_alloc | apply pw_below_drewN | apply below_drew1) | exact HB.out))) : w.heap.size ≤ gb180)); clear HB; have HB := n0_; have BK180 := n1_; have GW180 := n2_; have GE180 := n3_; clear n0_ n1_ n2_ n3_; clear hb hbox hg; have hcz25_0 : w24.cell? ⟨gb180, 0, none⟩ = some (.slice A0_0 l0_0.length c0_0) := (blk_cell BK180.out 0).trans rfl; have hcz25_1 : w24.cell? ⟨gb180, 1, none⟩ = some (.slice A0_1 l0_1.length c0_1) := (blk_cell BK180.out 1).trans rfl; have hcz25_2 : w24.cell? ⟨gb180, 2, none⟩ = some (.int .i64 a0_2) := (blk_cell BK180.out 2).trans rfl; have hfz25_0 := blk_frozen BK180.out 0; have hfz25_1 := blk_frozen BK180.out 1; have hfz25_2 := blk_frozen BK180.out 2) | ((with_reducible refine gate_callee (f := 23) rfl ?_); refine goesL_ (some 7) rfl rfl Try.func23 (by kernel_rfl) rfl #[.agg #[.slice A0_0 l0_0.length c0_0, .slice A0_1 l0_1.length c0_1, .int .i64 a0_2]] rfl (by (try simp only [List.map_toArray, List.map_cons, List.map_nil]); first | done | rfl | (simp only [List.length_drop, List.length_take]; rfl)) ?_; (with_reducible refine (feeder_Check.calls k _ _ l0_0 _ _ l0_1 a0_2 t181 _ ?side1 ?side2 ?side3 ?side4 A2.out).mono ?_); (case side1 => repeat (first | exact (by first | exact (Kd.C_below HR0_0.out HB.out) | exact HR0_0.out) | (with_reducible refine Kd.C_alloc ?_ _) | (with_reducible refine Kd.C_drewN ?_ _) | (with_reducible refine Kd.C_drew ?_))); (case side2 => exact HC0_0.out); (case side3 => repeat (first | exact (by first | exact (Kd.C_below HR0_1.out HB.out) | exact HR0_1.out) | (with_reducible refine Kd.C_alloc ?_ _) | (with_reducible refine Kd.C_drewN ?_ _) | (with_reducible refine Kd.C_drew ?_))); (case side4 => exact HC0_1.out); rintro e w26 ⟨rfl, hb⟩; refine ⟨_, rfl, ?_⟩; have n0_ := Aside0.mk (blk_below (g := gb180) (o := .cells #[.slice A0_0 l0_0.length c0_0, .slice A0_1 l0_1.length c0_1, .int .i64 a0_2] 28 (0, 0)) (by (with_reducible repeat (first | refine blk_drewN ?_ _ | refine blk_drew ?_ | refine blk_alloc ?_ _)); exact BK180.out) hb); have n1_ := Aside0.mk (below_step (by repeat (first | (with_reducible first | exact HB.out | apply below_alloc | apply pw_below_drewN | apply below_drew1 | refine below_set ?_ GE180.out) | exact HB.out)) hb); clear BK180; clear HB; have BK180 := n0_; have HB := n1_; clear n0_ n1_; (try clear hb); (try clear hb2); (try clear hge); (try clear hk); (try clear hi)))
  go_ret
  exact ⟨by first | rfl | (simp [errW_none, errW_some] <;> rfl) | (simp [*, errW_none, errW_some] <;> rfl), by repeat (first | (with_reducible first | exact HB.out | apply below_alloc | apply pw_below_drewN | apply below_drew1 | refine below_set ?_ GE180.out) | exact HB.out)⟩

end Go.Proofs.Ytcgeflbifbaecaa.PFec
