/- Functions of the given program as Lean functions, and proofs that its calls come to what these say. Written by a program of this seat (wip/mkprint.py); Lean checks it all. -/
import Derived.Test.YtcgeflbifbaecaaPFehx0
import Derived.Test.YtcgeflbifbaecaaPFehx3
import Derived.Test.YtcgeflbifbaecaaPFehx4
namespace Go.Proofs.Ytcgeflbifbaecaa.PFeh
open Go.RowKit Go.Proofs.YtcgeflbifbaecaaW.PrintWords Go.Proofs.YtcgeflbifbaecaaW.PrintLast Go.Proofs.YtcgeflbifbaecaaW.PrintMore
attribute [local go_sem] max2_int min2_int max_two min_two max_three min_three max_four min_four   -- for this text's walks alone
set_option linter.unusedVariables false
set_option linter.unusedSimpArgs false

/-! ### feeder_Due: function 15 -/
def feeder_Due.l0 : Nat → Int → List (S32) → Int → Int → List (S32) → List Int → Int → Option (Int)
 | 0, _, _, _, _, _, _, _ => none
 | k + 1, x3, x10, x11, x12, x181000, x181001, x181002 => if x12 < x11 then (if 0 ≤ x12 then (if x12 < (x10.length : Int) then ((feeder_waits.f ((rd_T32 x10 x12).f0) ((rd_T32 x10 x12).f1) ((rd_T32 x10 x12).f2) ((rd_T32 x10 x12).f3) ((rd_T32 x10 x12).f4)).bind fun t184 => (if t184 = true then (feeder_Due.l0 k (mn x3 (wrap64 (((rd_T32 x10 x12).f1) + x181002))) x10 x11 (wrap64 (x12 + 1)) x181000 x181001 x181002) else (feeder_Due.l0 k x3 x10 x11 (wrap64 (x12 + 1)) x181000 x181001 x181002))) else (none)) else (none)) else (some x3)
def feeder_Due.f (k : Nat) (l0_0 : List (S32)) (l0_1 : List Int) (a0_2 : Int) : Option (Int) := (feeder_Check.f k l0_0 l0_1 a0_2).bind fun t181 => (if t181 = 0 then (feeder_Due.l0 k 1099511627776 l0_0 (l0_0.length : Int) 0 l0_0 l0_1 a0_2) else (some 0))
theorem feeder_Due.mono_l : ∀ k, (∀ y0 y1 y2 y3 y4 y5 y6, LeO (feeder_Due.l0 k y0 y1 y2 y3 y4 y5 y6) (feeder_Due.l0 (k + 1) y0 y1 y2 y3 y4 y5 y6))
 | 0 => fun _ _ _ _ _ _ _ r h => by simp [feeder_Due.l0] at h
 | k + 1 => by
  have ih0 := feeder_Due.mono_l k
  intro y0 y1 y2 y3 y4 y5 y6
  unfold feeder_Due.l0
  repeat' first
  | (with_reducible exact ih0 _ _ _ _ _ _ _)
  | (with_reducible exact feeder_Check.mono _ _ _ _)
  | (with_reducible exact LeO.refl _)
  | (with_reducible exact LeO.none _)
  | (with_reducible refine LeO.ite ?_ ?_)
  | (with_reducible refine LeO.bind ?_ (fun _ => ?_))
  | exact ih0 _ _ _ _ _ _ _
  | exact LeO.none _
  | refine LeO.ite ?_ ?_
  | refine LeO.bind ?_ (fun _ => ?_)
theorem feeder_Due.mono : ∀ a0 a1 a2 k, LeO (feeder_Due.f k a0 a1 a2) (feeder_Due.f (k + 1) a0 a1 a2) := by
 intro a0 a1 a2 k
 have ih0 := feeder_Due.mono_l k
 unfold feeder_Due.f
 repeat' first
   | (with_reducible exact ih0 _ _ _ _ _ _ _)
   | (with_reducible exact feeder_Check.mono _ _ _ _)
   | (with_reducible exact LeO.refl _)
   | (with_reducible exact LeO.none _)
   | (with_reducible refine LeO.ite ?_ ?_)
   | (with_reducible refine LeO.bind ?_ (fun _ => ?_))
   | exact ih0 _ _ _ _ _ _ _
   | exact LeO.none _
   | refine LeO.ite ?_ ?_
   | refine LeO.bind ?_ (fun _ => ?_)
set_option maxHeartbeats 8000000 in
set_option maxRecDepth 100000 in
theorem feeder_Due.calls (k : Nat) (A0_0 : Option Addr) (c0_0 : Nat) (l0_0 : List (S32)) (A0_1 : Option Addr) (c0_1 : Nat) (l0_1 : List Int) (a0_2 : Int) (r : Int) (w : World) (hr0_0 : Kd.C k32 w A0_0 l0_0.length l0_0) (hc0_0 : l0_0.length ≤ c0_0) (hr0_1 : Kd.C (Kd.int .i64) w A0_1 l0_1.length l0_1) (hc0_1 : l0_1.length ≤ c0_1) (h : feeder_Due.f k l0_0 l0_1 a0_2 = some r) :
  Calls Try.prog 15 #[.agg #[.slice A0_0 l0_0.length c0_0, .slice A0_1 l0_1.length c0_1, .int .i64 a0_2]] w fun e w' => e = .returned (.int .i64 r) ∧ Below w.heap.size w w' := by
 have hu28 := Try.underlying28
 have hu32 := Try.underlying32
 have HR0_0 := aM hr0_0
 have HC0_0 := aM hc0_0
 clear hr0_0 hc0_0
 have HR0_1 := aM hr0_1
 have HC0_1 := aM hc0_1
 clear hr0_1 hc0_1
 have HB := aM (Below.refl w.heap.size w)
 have H : ((feeder_Check.f k l0_0 l0_1 a0_2).bind fun t181 => (if t181 = 0 then (feeder_Due.l0 k 1099511627776 l0_0 (l0_0.length : Int) 0 l0_0 l0_1 a0_2) else (some 0))) = some r := h
 clear h
 replace H := Option.bind_eq_some_iff.mp H
 obtain ⟨t181, A20, H⟩ := H
 replace H : (if t181 = 0 then (feeder_Due.l0 k 1099511627776 l0_0 (l0_0.length : Int) 0 l0_0 l0_1 a0_2) else (some 0)) = some r := H
 have A2 := aM A20
 clear A20
 by_cases c3 : t181 = 0
 ·
  rw [if_pos c3] at H
  have c3b0 : (t181 == 0) = true := beq_iff_eq.mpr c3
  have c3b1 : (t181 != 0) = false := bne_eq_false_iff_eq.mpr c3
  clear c3
  have H' := aM H
  clear H
  go_enter Try.func15, Try.ntmps15
  go_wp2_with (first | ((with_reducible refine gate_dst (N := 1) rfl ?_); refine box_event ?hg (N := 1) ?hd (cs := #[.slice A0_0 l0_0.length c0_0, .slice A0_1 l0_1.length c0_1, .int .i64 a0_2]) (t := 28) ?hr ?_; (case hd => rfl); (case hg => rfl); (case hr => first | (go_simp; done) | (go_simp; rfl)); intro gb180 hg w4 hbox hb; have BK180 := aM (hbox); have GW180 := aM ((by rw [hg]; exact (below_size (below_mv HB.out)) : w.heap.size ≤ gb180)); have GE180 := aM ((by rw [hg]; exact (below_size (below_mv HB.out)) : w.heap.size ≤ gb180)); replace HB := aM (below_step (below_mv HB.out) hb); clear hb hbox hg; obtain ⟨hcz5_0, hcz5_1, hcz5_2, hfz5_0, hfz5_1, hfz5_2⟩ := blk3 BK180.out) | ((with_reducible refine gate_callee (f := 23) rfl ?_); refine goesL_ (some 7) rfl rfl Try.func23 (by kernel_rfl) rfl #[.agg #[.slice A0_0 l0_0.length c0_0, .slice A0_1 l0_1.length c0_1, .int .i64 a0_2]] rfl (by first | rfl | (simp only [List.map_toArray, List.map_cons, List.map_nil, List.length_drop, List.length_take]; try rfl)) ?_; (with_reducible refine (feeder_Check.calls k _ _ l0_0 _ _ l0_1 a0_2 t181 _ ?side1 ?side2 ?side3 ?side4 A2.out).mono ?_); (case side1 => first | exact C_mv (Kd.C_below HR0_0.out HB.out) | exact C_mv HR0_0.out); (case side2 => exact HC0_0.out); (case side3 => first | exact C_mv (Kd.C_below HR0_1.out HB.out) | exact C_mv HR0_1.out); (case side4 => exact HC0_1.out); rintro e w6 ⟨rfl, hb⟩; refine ⟨_, rfl, ?_⟩; replace BK180 := aM (blk_below (blk_mv BK180.out) hb); replace HB := aM (below_step (by repeat (first | (with_reducible first | exact HB.out | apply bA | apply bN | apply bD | refine below_set ?_ GE180.out) | exact HB.out)) hb); (try clear hb); (try clear hb2); (try clear hge); (try clear hk); (try clear hi); obtain ⟨hcz7_0, hcz7_1, hcz7_2, hfz7_0, hfz7_1, hfz7_2⟩ := blk3 BK180.out))
  go_loopg [3, 12] k (fun kq v3 v12 w' => ∃ (x3_1 : Int) (x12_1 : Int), v3 = .int .i64 x3_1 ∧ v12 = .int .i64 x12_1 ∧ Aside0 (feeder_Due.l0 kq x3_1 l0_0 (l0_0.length : Int) x12_1 l0_0 l0_1 a0_2 = some r) ∧ Aside0 (kq ≤ k) ∧ Aside0 (w'.heap[gb180]? = some (.cells #[(.slice A0_0 l0_0.length c0_0), (.slice A0_1 l0_1.length c0_1), .int .i64 a0_2] 28 (0, 0))) ∧ Aside0 (Below w.heap.size w w'))
  case atStart => exact ⟨(1099511627776), (0), (by first | rfl | (simp; done) | (simp [*]; done)), (by first | rfl | (simp; done) | (simp [*]; done)), H', ⟨Nat.le_refl _⟩, ⟨blk_mv BK180.out⟩, ⟨by repeat (first | (with_reducible first | exact HB.out | apply bA | apply bN | apply bD | refine below_set ?_ GE180.out) | exact HB.out)⟩⟩
  case round =>
   clear H'
   obtain ⟨x3_1, x12_1, rfl, rfl, HA, HK1, BK180, HB⟩ := hrel
   cases gk with
   | zero => exact absurd HA.out (by simp [feeder_Due.l0])
   | succ k1 =>
    have H := HA.out
    clear HA
    simp only [feeder_Due.l0] at H
    by_cases c8 : x12_1 < (l0_0.length : Int)
    ·
     rw [if_pos c8] at H
     have c8b0 : decide (x12_1 < (l0_0.length : Int)) = true := decide_eq_true c8
     clear c8
     by_cases c9 : 0 ≤ x12_1
     rotate_left
     ·
      rw [if_neg c9] at H
      exact absurd H (by simp)
     rw [if_pos c9] at H
     have c9b0 : decide (0 ≤ x12_1) = true := decide_eq_true c9
     clear c9
     by_cases c10 : x12_1 < (l0_0.length : Int)
     rotate_left
     ·
      rw [if_neg c10] at H
      exact absurd H (by simp)
     rw [if_pos c10] at H
     have c10b0 : decide (x12_1 < (l0_0.length : Int)) = true := decide_eq_true c10
     clear c10
     replace H := Option.bind_eq_some_iff.mp H
     obtain ⟨t184, A110, H⟩ := H
     replace H : (if t184 = true then (feeder_Due.l0 k1 (mn x3_1 (wrap64 (((rd_T32 l0_0 x12_1).f1) + a0_2))) l0_0 (l0_0.length : Int) (wrap64 (x12_1 + 1)) l0_0 l0_1 a0_2) else (feeder_Due.l0 k1 x3_1 l0_0 (l0_0.length : Int) (wrap64 (x12_1 + 1)) l0_0 l0_1 a0_2)) = some r := H
     have A11 := aM A110
     clear A110
     by_cases c12 : t184 = true
     ·
      subst c12
      have H1 : (feeder_Due.l0 k1 (mn x3_1 (wrap64 (((rd_T32 l0_0 x12_1).f1) + a0_2))) l0_0 (l0_0.length : Int) (wrap64 (x12_1 + 1)) l0_0 l0_1 a0_2) = some r := by rw [if_pos rfl] at H; exact H
      clear H
      have H := H1
      clear H1
      obtain ⟨ji13, hji13⟩ : ∃ j_ : Int, (mn x3_1 (wrap64 (((rd_T32 l0_0 x12_1).f1) + a0_2))) = j_ := ⟨_, rfl⟩
      replace H : (feeder_Due.l0 k1 ji13 l0_0 (l0_0.length : Int) (wrap64 (x12_1 + 1)) l0_0 l0_1 a0_2) = some r := by first | (rw [hji13] at H; exact H) | (simp only [hji13] at H ⊢; exact H)
      (try rw [hji13] at A11)
      have hji13_ : (if (wrap64 (((rd_T32 l0_0 x12_1).f1) + a0_2)) < x3_1 then (wrap64 (((rd_T32 l0_0 x12_1).f1) + a0_2)) else x3_1) = ji13 := hji13
      have H' := aM H
      clear H
      have p182 : 0 ≤ (x12_1 : Int) := of_decide_eq_true (by first | (with_reducible assumption) | assumption)
      have q182 : x12_1 < (l0_0.length : Int) := of_decide_eq_true (by first | (with_reducible assumption) | assumption)
      obtain ⟨ad182, e182, hx182_0, hx182_1, hx182_2, hx182_3, hx182_4⟩ := at_T32 HR0_0.out x12_1 p182 q182
      cases e182
      try replace hx182_0 := (HB.out.cell (World.block_lt_of_cell? w _ hx182_0)).trans hx182_0
      try replace hx182_1 := (HB.out.cell (World.block_lt_of_cell? w _ hx182_1)).trans hx182_1
      try replace hx182_2 := (HB.out.cell (World.block_lt_of_cell? w _ hx182_2)).trans hx182_2
      try replace hx182_3 := (HB.out.cell (World.block_lt_of_cell? w _ hx182_3)).trans hx182_3
      try replace hx182_4 := (HB.out.cell (World.block_lt_of_cell? w _ hx182_4)).trans hx182_4
      replace p182 := eq_true p182
      replace q182 := eq_true q182
      go_wp2_with (first | ((with_reducible refine gate_dst (N := 5) rfl ?_); refine box_event ?hg (N := 5) ?hd (cs := #[.int .i64 0, .int .i64 0, .int .i64 0, .bool false, .bool false]) (t := 32) ?hr ?_; (case hd => rfl); (case hg => rfl); (case hr => first | (go_simp; done) | (go_simp; rfl)); intro gb183 hg w14 hbox hb; have BK183 := aM (hbox); have GW183 := aM ((by rw [hg]; exact (below_size (by repeat (first | (with_reducible first | exact HB.out | apply bA | apply bN | apply bD | refine below_set ?_ GE180.out) | exact HB.out))) : w.heap.size ≤ gb183)); have GE183 := aM ((by rw [hg]; exact (below_size (by repeat (first | (with_reducible first | exact HB.out | apply bA | apply bN | apply bD | refine below_set ?_ GE180.out) | exact HB.out))) : w.heap.size ≤ gb183)); replace HB := aM (below_step (by repeat (first | (with_reducible first | exact HB.out | apply bA | apply bN | apply bD | refine below_set ?_ GE180.out) | exact HB.out)) hb); have NB180_183 := aM ((by rw [hg]; exact Nat.ne_of_lt (blk_lt (blk_mv BK180.out)) : gb180 ≠ gb183)); have NB183_180 := aM ((by rw [hg]; exact Nat.ne_of_gt (blk_lt (blk_mv BK180.out)) : gb183 ≠ gb180)); replace BK180 := aM (blk_below (blk_mv BK180.out) hb); clear hb hbox hg; have hnb15 := NB183_180.out; have hnc15 := NB180_183.out; have hcz16_0 : w14.cell? ⟨gb183, 0, none⟩ = some (.int .i64 0) := (blk_cell BK183.out 0).trans rfl; have hcz16_1 : w14.cell? ⟨gb183, 1, none⟩ = some (.int .i64 0) := (blk_cell BK183.out 1).trans rfl; have hcz16_2 : w14.cell? ⟨gb183, 2, none⟩ = some (.int .i64 0) := (blk_cell BK183.out 2).trans rfl; have hcz16_3 : w14.cell? ⟨gb183, 3, none⟩ = some (.bool false) := (blk_cell BK183.out 3).trans rfl; have hcz16_4 : w14.cell? ⟨gb183, 4, none⟩ = some (.bool false) := (blk_cell BK183.out 4).trans rfl; have hfz16_0 := blk_frozen BK183.out 0; have hfz16_1 := blk_frozen BK183.out 1; have hfz16_2 := blk_frozen BK183.out 2; have hfz16_3 := blk_frozen BK183.out 3; have hfz16_4 := blk_frozen BK183.out 4) | ((with_reducible refine gate_callee (f := 45) rfl ?_); refine goesL_ (some 17) rfl rfl Try.func45 (by kernel_rfl) rfl #[.agg #[.int .i64 ((rd_T32 l0_0 x12_1).f0), .int .i64 ((rd_T32 l0_0 x12_1).f1), .int .i64 ((rd_T32 l0_0 x12_1).f2), .bool ((rd_T32 l0_0 x12_1).f3), .bool ((rd_T32 l0_0 x12_1).f4)]] rfl (by first | rfl | (simp only [List.map_toArray, List.map_cons, List.map_nil, List.length_drop, List.length_take]; try rfl)) ?_; (with_reducible refine (feeder_waits.calls ((rd_T32 l0_0 x12_1).f0) ((rd_T32 l0_0 x12_1).f1) ((rd_T32 l0_0 x12_1).f2) ((rd_T32 l0_0 x12_1).f3) ((rd_T32 l0_0 x12_1).f4) true _ A11.out).mono ?_); rintro e w17 ⟨rfl, hb⟩; refine ⟨_, rfl, ?_⟩; replace BK180 := aM (blk_below (g := gb180) (o := .cells #[.slice (some ad182) l0_0.length c0_0, .slice A0_1 l0_1.length c0_1, .int .i64 a0_2] 28 (0, 0)) (by (with_reducible repeat (first | refine kN ?_ _ | refine kD ?_ | refine kA ?_ _)); refine blk_far ?_ NB180_183.out _; (with_reducible repeat (first | refine kN ?_ _ | refine kD ?_ | refine kA ?_ _)); refine blk_far ?_ NB180_183.out _; (with_reducible repeat (first | refine kN ?_ _ | refine kD ?_ | refine kA ?_ _)); refine blk_far ?_ NB180_183.out _; (with_reducible repeat (first | refine kN ?_ _ | refine kD ?_ | refine kA ?_ _)); refine blk_far ?_ NB180_183.out _; (with_reducible repeat (first | refine kN ?_ _ | refine kD ?_ | refine kA ?_ _)); refine blk_far ?_ NB180_183.out _; (with_reducible repeat (first | refine kN ?_ _ | refine kD ?_ | refine kA ?_ _)); exact BK180.out) hb); replace BK183 := aM (blk_below (g := gb183) (o := .cells #[.int .i64 ((rd_T32 l0_0 x12_1).f0), .int .i64 ((rd_T32 l0_0 x12_1).f1), .int .i64 ((rd_T32 l0_0 x12_1).f2), .bool ((rd_T32 l0_0 x12_1).f3), .bool ((rd_T32 l0_0 x12_1).f4)] 32 (0, 0)) (by (with_reducible repeat (first | refine kN ?_ _ | refine kD ?_ | refine kA ?_ _)); refine blk_put (cs := #[.int .i64 ((rd_T32 l0_0 x12_1).f0), .int .i64 ((rd_T32 l0_0 x12_1).f1), .int .i64 ((rd_T32 l0_0 x12_1).f2), .bool ((rd_T32 l0_0 x12_1).f3), .bool false]) ?_ 4 _ rfl; (with_reducible repeat (first | refine kN ?_ _ | refine kD ?_ | refine kA ?_ _)); refine blk_put (cs := #[.int .i64 ((rd_T32 l0_0 x12_1).f0), .int .i64 ((rd_T32 l0_0 x12_1).f1), .int .i64 ((rd_T32 l0_0 x12_1).f2), .bool false, .bool false]) ?_ 3 _ rfl; (with_reducible repeat (first | refine kN ?_ _ | refine kD ?_ | refine kA ?_ _)); refine blk_put (cs := #[.int .i64 ((rd_T32 l0_0 x12_1).f0), .int .i64 ((rd_T32 l0_0 x12_1).f1), .int .i64 0, .bool false, .bool false]) ?_ 2 _ rfl; (with_reducible repeat (first | refine kN ?_ _ | refine kD ?_ | refine kA ?_ _)); refine blk_put (cs := #[.int .i64 ((rd_T32 l0_0 x12_1).f0), .int .i64 0, .int .i64 0, .bool false, .bool false]) ?_ 1 _ rfl; (with_reducible repeat (first | refine kN ?_ _ | refine kD ?_ | refine kA ?_ _)); refine blk_put (cs := #[.int .i64 0, .int .i64 0, .int .i64 0, .bool false, .bool false]) ?_ 0 _ rfl; (with_reducible repeat (first | refine kN ?_ _ | refine kD ?_ | refine kA ?_ _)); exact BK183.out) hb); replace HB := aM (below_step (by repeat (first | (with_reducible first | exact HB.out | apply bA | apply bN | apply bD | refine below_set ?_ GE180.out | refine below_set ?_ GE183.out) | exact HB.out)) hb); (try clear hb); (try clear hb2); (try clear hge); (try clear hk); (try clear hi); have hcz18_0 : w17.cell? ⟨gb183, 0, none⟩ = some (.int .i64 ((rd_T32 l0_0 x12_1).f0)) := (blk_cell BK183.out 0).trans rfl; have hcz18_1 : w17.cell? ⟨gb183, 1, none⟩ = some (.int .i64 ((rd_T32 l0_0 x12_1).f1)) := (blk_cell BK183.out 1).trans rfl; have hcz18_2 : w17.cell? ⟨gb183, 2, none⟩ = some (.int .i64 ((rd_T32 l0_0 x12_1).f2)) := (blk_cell BK183.out 2).trans rfl; have hcz18_3 : w17.cell? ⟨gb183, 3, none⟩ = some (.bool ((rd_T32 l0_0 x12_1).f3)) := (blk_cell BK183.out 3).trans rfl; have hcz18_4 : w17.cell? ⟨gb183, 4, none⟩ = some (.bool ((rd_T32 l0_0 x12_1).f4)) := (blk_cell BK183.out 4).trans rfl; have hfz18_0 := blk_frozen BK183.out 0; have hfz18_1 := blk_frozen BK183.out 1; have hfz18_2 := blk_frozen BK183.out 2; have hfz18_3 := blk_frozen BK183.out 3; have hfz18_4 := blk_frozen BK183.out 4; obtain ⟨hcz19_0, hcz19_1, hcz19_2, hfz19_0, hfz19_1, hfz19_2⟩ := blk3 BK180.out))
      go_roundg k1
      case measure => have := HK1.out; omega
      case rel => exact ⟨(ji13), (wrap64 (x12_1 + 1)), (by first | rfl | (simp; done) | (simp only [← hji13] <;> (first | rfl | simp)) | (simp [*]; done)), (by first | rfl | (simp; done) | (simp [*]; done)), H', ⟨by have := HK1.out; omega⟩, ⟨blk_mv BK180.out⟩, ⟨by repeat (first | (with_reducible first | exact HB.out | apply bA | apply bN | apply bD | refine below_set ?_ GE180.out | refine below_set ?_ GE183.out) | exact HB.out)⟩⟩
     replace c12 := Bool.eq_false_iff.mpr c12
     subst c12
     have H1 : (feeder_Due.l0 k1 x3_1 l0_0 (l0_0.length : Int) (wrap64 (x12_1 + 1)) l0_0 l0_1 a0_2) = some r := by rw [if_neg (show ¬ (false = true) by decide)] at H; exact H
     clear H
     have H := H1
     clear H1
     have H' := aM H
     clear H
     have p182 : 0 ≤ (x12_1 : Int) := of_decide_eq_true (by first | (with_reducible assumption) | assumption)
     have q182 : x12_1 < (l0_0.length : Int) := of_decide_eq_true (by first | (with_reducible assumption) | assumption)
     obtain ⟨ad182, e182, hx182_0, hx182_1, hx182_2, hx182_3, hx182_4⟩ := at_T32 HR0_0.out x12_1 p182 q182
     cases e182
     try replace hx182_0 := (HB.out.cell (World.block_lt_of_cell? w _ hx182_0)).trans hx182_0
     try replace hx182_1 := (HB.out.cell (World.block_lt_of_cell? w _ hx182_1)).trans hx182_1
     try replace hx182_2 := (HB.out.cell (World.block_lt_of_cell? w _ hx182_2)).trans hx182_2
     try replace hx182_3 := (HB.out.cell (World.block_lt_of_cell? w _ hx182_3)).trans hx182_3
     try replace hx182_4 := (HB.out.cell (World.block_lt_of_cell? w _ hx182_4)).trans hx182_4
     replace p182 := eq_true p182
     replace q182 := eq_true q182
     go_wp2_with (first | ((with_reducible refine gate_dst (N := 5) rfl ?_); refine box_event ?hg (N := 5) ?hd (cs := #[.int .i64 0, .int .i64 0, .int .i64 0, .bool false, .bool false]) (t := 32) ?hr ?_; (case hd => rfl); (case hg => rfl); (case hr => first | (go_simp; done) | (go_simp; rfl)); intro gb183 hg w20 hbox hb; have BK183 := aM (hbox); have GW183 := aM ((by rw [hg]; exact (below_size (by repeat (first | (with_reducible first | exact HB.out | apply bA | apply bN | apply bD | refine below_set ?_ GE180.out) | exact HB.out))) : w.heap.size ≤ gb183)); have GE183 := aM ((by rw [hg]; exact (below_size (by repeat (first | (with_reducible first | exact HB.out | apply bA | apply bN | apply bD | refine below_set ?_ GE180.out) | exact HB.out))) : w.heap.size ≤ gb183)); replace HB := aM (below_step (by repeat (first | (with_reducible first | exact HB.out | apply bA | apply bN | apply bD | refine below_set ?_ GE180.out) | exact HB.out)) hb); have NB180_183 := aM ((by rw [hg]; exact Nat.ne_of_lt (blk_lt (blk_mv BK180.out)) : gb180 ≠ gb183)); have NB183_180 := aM ((by rw [hg]; exact Nat.ne_of_gt (blk_lt (blk_mv BK180.out)) : gb183 ≠ gb180)); replace BK180 := aM (blk_below (blk_mv BK180.out) hb); clear hb hbox hg; have hnb21 := NB183_180.out; have hnc21 := NB180_183.out; have hcz22_0 : w20.cell? ⟨gb183, 0, none⟩ = some (.int .i64 0) := (blk_cell BK183.out 0).trans rfl; have hcz22_1 : w20.cell? ⟨gb183, 1, none⟩ = some (.int .i64 0) := (blk_cell BK183.out 1).trans rfl; have hcz22_2 : w20.cell? ⟨gb183, 2, none⟩ = some (.int .i64 0) := (blk_cell BK183.out 2).trans rfl; have hcz22_3 : w20.cell? ⟨gb183, 3, none⟩ = some (.bool false) := (blk_cell BK183.out 3).trans rfl; have hcz22_4 : w20.cell? ⟨gb183, 4, none⟩ = some (.bool false) := (blk_cell BK183.out 4).trans rfl; have hfz22_0 := blk_frozen BK183.out 0; have hfz22_1 := blk_frozen BK183.out 1; have hfz22_2 := blk_frozen BK183.out 2; have hfz22_3 := blk_frozen BK183.out 3; have hfz22_4 := blk_frozen BK183.out 4) | ((with_reducible refine gate_callee (f := 45) rfl ?_); refine goesL_ (some 17) rfl rfl Try.func45 (by kernel_rfl) rfl #[.agg #[.int .i64 ((rd_T32 l0_0 x12_1).f0), .int .i64 ((rd_T32 l0_0 x12_1).f1), .int .i64 ((rd_T32 l0_0 x12_1).f2), .bool ((rd_T32 l0_0 x12_1).f3), .bool ((rd_T32 l0_0 x12_1).f4)]] rfl (by first | rfl | (simp only [List.map_toArray, List.map_cons, List.map_nil, List.length_drop, List.length_take]; try rfl)) ?_; (with_reducible refine (feeder_waits.calls ((rd_T32 l0_0 x12_1).f0) ((rd_T32 l0_0 x12_1).f1) ((rd_T32 l0_0 x12_1).f2) ((rd_T32 l0_0 x12_1).f3) ((rd_T32 l0_0 x12_1).f4) false _ A11.out).mono ?_); rintro e w23 ⟨rfl, hb⟩; refine ⟨_, rfl, ?_⟩; replace BK180 := aM (blk_below (g := gb180) (o := .cells #[.slice (some ad182) l0_0.length c0_0, .slice A0_1 l0_1.length c0_1, .int .i64 a0_2] 28 (0, 0)) (by (with_reducible repeat (first | refine kN ?_ _ | refine kD ?_ | refine kA ?_ _)); refine blk_far ?_ NB180_183.out _; (with_reducible repeat (first | refine kN ?_ _ | refine kD ?_ | refine kA ?_ _)); refine blk_far ?_ NB180_183.out _; (with_reducible repeat (first | refine kN ?_ _ | refine kD ?_ | refine kA ?_ _)); refine blk_far ?_ NB180_183.out _; (with_reducible repeat (first | refine kN ?_ _ | refine kD ?_ | refine kA ?_ _)); refine blk_far ?_ NB180_183.out _; (with_reducible repeat (first | refine kN ?_ _ | refine kD ?_ | refine kA ?_ _)); refine blk_far ?_ NB180_183.out _; (with_reducible repeat (first | refine kN ?_ _ | refine kD ?_ | refine kA ?_ _)); exact BK180.out) hb); replace BK183 := aM (blk_below (g := gb183) (o := .cells #[.int .i64 ((rd_T32 l0_0 x12_1).f0), .int .i64 ((rd_T32 l0_0 x12_1).f1), .int .i64 ((rd_T32 l0_0 x12_1).f2), .bool ((rd_T32 l0_0 x12_1).f3), .bool ((rd_T32 l0_0 x12_1).f4)] 32 (0, 0)) (by (with_reducible repeat (first | refine kN ?_ _ | refine kD ?_ | refine kA ?_ _)); refine blk_put (cs := #[.int .i64 ((rd_T32 l0_0 x12_1).f0), .int .i64 ((rd_T32 l0_0 x12_1).f1), .int .i64 ((rd_T32 l0_0 x12_1).f2), .bool ((rd_T32 l0_0 x12_1).f3), .bool false]) ?_ 4 _ rfl; (with_reducible repeat (first | refine kN ?_ _ | refine kD ?_ | refine kA ?_ _)); refine blk_put (cs := #[.int .i64 ((rd_T32 l0_0 x12_1).f0), .int .i64 ((rd_T32 l0_0 x12_1).f1), .int .i64 ((rd_T32 l0_0 x12_1).f2), .bool false, .bool false]) ?_ 3 _ rfl; (with_reducible repeat (first | refine kN ?_ _ | refine kD ?_ | refine kA ?_ _)); refine blk_put (cs := #[.int .i64 ((rd_T32 l0_0 x12_1).f0), .int .i64 ((rd_T32 l0_0 x12_1).f1), .int .i64 0, .bool false, .bool false]) ?_ 2 _ rfl; (with_reducible repeat (first | refine kN ?_ _ | refine kD ?_ | refine kA ?_ _)); refine blk_put (cs := #[.int .i64 ((rd_T32 l0_0 x12_1).f0), .int .i64 0, .int .i64 0, .bool false, .bool false]) ?_ 1 _ rfl; (with_reducible repeat (first | refine kN ?_ _ | refine kD ?_ | refine kA ?_ _)); refine blk_put (cs := #[.int .i64 0, .int .i64 0, .int .i64 0, .bool false, .bool false]) ?_ 0 _ rfl; (with_reducible repeat (first | refine kN ?_ _ | refine kD ?_ | refine kA ?_ _)); exact BK183.out) hb); replace HB := aM (below_step (by repeat (first | (with_reducible first | exact HB.out | apply bA | apply bN | apply bD | refine below_set ?_ GE180.out | refine below_set ?_ GE183.out) | exact HB.out)) hb); (try clear hb); (try clear hb2); (try clear hge); (try clear hk); (try clear hi)))
     go_roundg k1
     case measure => have := HK1.out; omega
     case rel => exact ⟨(x3_1), (wrap64 (x12_1 + 1)), (by first | rfl | (simp; done) | (simp [*]; done)), (by first | rfl | (simp; done) | (simp [*]; done)), H', ⟨by have := HK1.out; omega⟩, ⟨blk_mv BK180.out⟩, ⟨by repeat (first | (with_reducible first | exact HB.out | apply bA | apply bN | apply bD | refine below_set ?_ GE180.out | refine below_set ?_ GE183.out) | exact HB.out)⟩⟩
    rw [if_neg c8] at H
    have c8b0 : decide (x12_1 < (l0_0.length : Int)) = false := decide_eq_false c8
    clear c8
    obtain rfl := Option.some.inj H
    go_wp2
    go_ret
    exact ⟨by first | rfl | (simp [errW_none, errW_some] <;> rfl) | (simp [*, errW_none, errW_some] <;> rfl), by repeat (first | (with_reducible first | exact HB.out | apply bA | apply bN | apply bD | refine below_set ?_ GE180.out) | exact HB.out)⟩
 rw [if_neg c3] at H
 have c3b0 : (t181 == 0) = false := beq_eq_false_iff_ne.mpr c3
 have c3b1 : (t181 != 0) = true := bne_iff_ne.mpr c3
 obtain rfl := Option.some.inj H
 go_enter Try.func15, Try.ntmps15
 go_wp2_with (first | ((with_reducible refine gate_dst (N := 1) rfl ?_); refine box_event ?hg (N := 1) ?hd (cs := #[.slice A0_0 l0_0.length c0_0, .slice A0_1 l0_1.length c0_1, .int .i64 a0_2]) (t := 28) ?hr ?_; (case hd => rfl); (case hg => rfl); (case hr => first | (go_simp; done) | (go_simp; rfl)); intro gb180 hg w24 hbox hb; have BK180 := aM (hbox); have GW180 := aM ((by rw [hg]; exact (below_size (below_mv HB.out)) : w.heap.size ≤ gb180)); have GE180 := aM ((by rw [hg]; exact (below_size (below_mv HB.out)) : w.heap.size ≤ gb180)); replace HB := aM (below_step (below_mv HB.out) hb); clear hb hbox hg; obtain ⟨hcz25_0, hcz25_1, hcz25_2, hfz25_0, hfz25_1, hfz25_2⟩ := blk3 BK180.out) | ((with_reducible refine gate_callee (f := 23) rfl ?_); refine goesL_ (some 7) rfl rfl Try.func23 (by kernel_rfl) rfl #[.agg #[.slice A0_0 l0_0.length c0_0, .slice A0_1 l0_1.length c0_1, .int .i64 a0_2]] rfl (by first | rfl | (simp only [List.map_toArray, List.map_cons, List.map_nil, List.length_drop, List.length_take]; try rfl)) ?_; (with_reducible refine (feeder_Check.calls k _ _ l0_0 _ _ l0_1 a0_2 t181 _ ?side1 ?side2 ?side3 ?side4 A2.out).mono ?_); (case side1 => first | exact C_mv (Kd.C_below HR0_0.out HB.out) | exact C_mv HR0_0.out); (case side2 => exact HC0_0.out); (case side3 => first | exact C_mv (Kd.C_below HR0_1.out HB.out) | exact C_mv HR0_1.out); (case side4 => exact HC0_1.out); rintro e w26 ⟨rfl, hb⟩; refine ⟨_, rfl, ?_⟩; replace BK180 := aM (blk_below (blk_mv BK180.out) hb); replace HB := aM (below_step (by repeat (first | (with_reducible first | exact HB.out | apply bA | apply bN | apply bD | refine below_set ?_ GE180.out) | exact HB.out)) hb); (try clear hb); (try clear hb2); (try clear hge); (try clear hk); (try clear hi)))
 go_ret
 exact ⟨by first | rfl | (simp [errW_none, errW_some] <;> rfl) | (simp [*, errW_none, errW_some] <;> rfl), by repeat (first | (with_reducible first | exact HB.out | apply bA | apply bN | apply bD | refine below_set ?_ GE180.out) | exact HB.out)⟩

end Go.Proofs.Ytcgeflbifbaecaa.PFeh
