/- Functions of the given program as Lean functions, and proofs that its calls come to what these say. Written by a program of this seat (wip/mkprint.py); Lean checks it all. -/
import Derived.Test.YtcgeflbifbaecaaPFekx0
import Derived.Test.YtcgeflbifbaecaaPFekx7
namespace Go.Proofs.Ytcgeflbifbaecaa.PFek
open Go.RowKit Go.Proofs.YtcgeflbifbaecaaW.PrintWords Go.Proofs.YtcgeflbifbaecaaW.PrintLast Go.Proofs.YtcgeflbifbaecaaW.PrintMore
attribute [local go_sem] max2_int min2_int max_two min_two max_three min_three max_four min_four   -- for this text's walks alone
set_option linter.unusedVariables false
set_option linter.unusedSimpArgs false

/-! ### minecontrolref18_Due: function 31 -/
def minecontrolref18_Due.l0 : Nat → Int → Int → List (S32) → List Int → Int → Option (Int)
 | 0, _, _, _, _, _ => none
 | k + 1, x3, x4, x315000, x315001, x315002 => if x4 < (x315000.length : Int) then (if 0 ≤ x4 then (if ((rd_T32 x315000 x4).f3 = true) then (minecontrolref18_Due.l0 k x3 (wrap64 (x4 + 1)) x315000 x315001 x315002) else (if ((rd_T32 x315000 x4).f2) = (-1) then (minecontrolref18_Due.l0 k x3 (wrap64 (x4 + 1)) x315000 x315001 x315002) else (if ((rd_T32 x315000 x4).f4 = true) then (minecontrolref18_Due.l0 k x3 (wrap64 (x4 + 1)) x315000 x315001 x315002) else (minecontrolref18_Due.l0 k (mn x3 (wrap64 (((rd_T32 x315000 x4).f1) + x315002))) (wrap64 (x4 + 1)) x315000 x315001 x315002)))) else (none)) else (some x3)
def minecontrolref18_Due.f (k : Nat) (l0_0 : List (S32)) (l0_1 : List Int) (a0_2 : Int) : Option (Int) := (minecontrolref18_Check.f k l0_0 l0_1 a0_2).bind fun t315 => (if t315 = 0 then (minecontrolref18_Due.l0 k 1099511627776 0 l0_0 l0_1 a0_2) else (some 0))
theorem minecontrolref18_Due.mono_l : ∀ k, (∀ y0 y1 y2 y3 y4, LeO (minecontrolref18_Due.l0 k y0 y1 y2 y3 y4) (minecontrolref18_Due.l0 (k + 1) y0 y1 y2 y3 y4))
 | 0 => fun _ _ _ _ _ r h => by simp [minecontrolref18_Due.l0] at h
 | k + 1 => by
  have ih0 := minecontrolref18_Due.mono_l k
  intro y0 y1 y2 y3 y4
  unfold minecontrolref18_Due.l0
  repeat' first
  | (with_reducible exact ih0 _ _ _ _ _)
  | (with_reducible exact minecontrolref18_Check.mono _ _ _ _)
  | (with_reducible exact LeO.refl _)
  | (with_reducible exact LeO.none _)
  | (with_reducible refine LeO.ite ?_ ?_)
  | (with_reducible refine LeO.bind ?_ (fun _ => ?_))
  | exact ih0 _ _ _ _ _
  | exact LeO.none _
  | refine LeO.ite ?_ ?_
  | refine LeO.bind ?_ (fun _ => ?_)
theorem minecontrolref18_Due.mono : ∀ a0 a1 a2 k, LeO (minecontrolref18_Due.f k a0 a1 a2) (minecontrolref18_Due.f (k + 1) a0 a1 a2) := by
 intro a0 a1 a2 k
 have ih0 := minecontrolref18_Due.mono_l k
 unfold minecontrolref18_Due.f
 repeat' first
   | (with_reducible exact ih0 _ _ _ _ _)
   | (with_reducible exact minecontrolref18_Check.mono _ _ _ _)
   | (with_reducible exact LeO.refl _)
   | (with_reducible exact LeO.none _)
   | (with_reducible refine LeO.ite ?_ ?_)
   | (with_reducible refine LeO.bind ?_ (fun _ => ?_))
   | exact ih0 _ _ _ _ _
   | exact LeO.none _
   | refine LeO.ite ?_ ?_
   | refine LeO.bind ?_ (fun _ => ?_)
set_option maxHeartbeats 8000000 in
set_option maxRecDepth 100000 in
theorem minecontrolref18_Due.calls (k : Nat) (A0_0 : Option Addr) (c0_0 : Nat) (l0_0 : List (S32)) (A0_1 : Option Addr) (c0_1 : Nat) (l0_1 : List Int) (a0_2 : Int) (r : Int) (w : World) (hr0_0 : Kd.C k32 w A0_0 l0_0.length l0_0) (hc0_0 : l0_0.length ≤ c0_0) (hr0_1 : Kd.C (Kd.int .i64) w A0_1 l0_1.length l0_1) (hc0_1 : l0_1.length ≤ c0_1) (h : minecontrolref18_Due.f k l0_0 l0_1 a0_2 = some r) :
  Calls Try.prog 31 #[.agg #[.slice A0_0 l0_0.length c0_0, .slice A0_1 l0_1.length c0_1, .int .i64 a0_2]] w fun e w' => e = .returned (.int .i64 r) ∧ Below w.heap.size w w' := by
 have hu28 := Try.underlying28
 have hu32 := Try.underlying32
 have HR0_0 := aM hr0_0
 have HC0_0 := aM hc0_0
 clear hr0_0 hc0_0
 have HR0_1 := aM hr0_1
 have HC0_1 := aM hc0_1
 clear hr0_1 hc0_1
 have HB := aM (Below.refl w.heap.size w)
 have H : ((minecontrolref18_Check.f k l0_0 l0_1 a0_2).bind fun t315 => (if t315 = 0 then (minecontrolref18_Due.l0 k 1099511627776 0 l0_0 l0_1 a0_2) else (some 0))) = some r := h
 clear h
 replace H := Option.bind_eq_some_iff.mp H
 obtain ⟨t315, A20, H⟩ := H
 replace H : (if t315 = 0 then (minecontrolref18_Due.l0 k 1099511627776 0 l0_0 l0_1 a0_2) else (some 0)) = some r := H
 have A2 := aM A20
 clear A20
 by_cases c3 : t315 = 0
 ·
  rw [if_pos c3] at H
  have c3b0 : (t315 == 0) = true := beq_iff_eq.mpr c3
  have c3b1 : (t315 != 0) = false := bne_eq_false_iff_eq.mpr c3
  clear c3
  have H' := aM H
  clear H
  go_enter Try.func31, Try.ntmps31
  go_wp2_with (first | ((with_reducible refine gate_dst (N := 1) rfl ?_); refine box_event ?hg (N := 1) ?hd (cs := #[.slice A0_0 l0_0.length c0_0, .slice A0_1 l0_1.length c0_1, .int .i64 a0_2]) (t := 28) ?hr ?_; (case hd => rfl); (case hg => rfl); (case hr => first | (go_simp; done) | (go_simp; rfl)); intro gb314 hg w4 hbox hb; have BK314 := aM (hbox); have GW314 := aM ((by rw [hg]; exact (below_size (below_mv HB.out)) : w.heap.size ≤ gb314)); have GE314 := aM ((by rw [hg]; exact (below_size (below_mv HB.out)) : w.heap.size ≤ gb314)); replace HB := aM (below_step (below_mv HB.out) hb); clear hb hbox hg; obtain ⟨hcz5_0, hcz5_1, hcz5_2, hfz5_0, hfz5_1, hfz5_2⟩ := blk3 BK314.out) | ((with_reducible refine gate_callee (f := 26) rfl ?_); refine goesL_ (some 7) rfl rfl Try.func26 (by kernel_rfl) rfl #[.agg #[.slice A0_0 l0_0.length c0_0, .slice A0_1 l0_1.length c0_1, .int .i64 a0_2]] rfl (by first | rfl | (simp only [List.map_toArray, List.map_cons, List.map_nil, List.length_drop, List.length_take]; rfl)) ?_; (with_reducible refine (minecontrolref18_Check.calls k _ _ l0_0 _ _ l0_1 a0_2 t315 _ ?side1 ?side2 ?side3 ?side4 A2.out).mono ?_); (case side1 => first | exact C_mv (Kd.C_below HR0_0.out HB.out) | exact C_mv HR0_0.out); (case side2 => exact HC0_0.out); (case side3 => first | exact C_mv (Kd.C_below HR0_1.out HB.out) | exact C_mv HR0_1.out); (case side4 => exact HC0_1.out); rintro e w6 ⟨rfl, hb⟩; refine ⟨_, rfl, ?_⟩; replace BK314 := aM (blk_below (blk_mv BK314.out) hb); replace HB := aM (below_step (by repeat (first | (with_reducible first | exact HB.out | apply bA | apply bN | apply bD | refine below_set ?_ GE314.out) | exact HB.out)) hb); (try clear hb); (try clear hb2); (try clear hge); (try clear hk); (try clear hi)))
  go_loopg [3, 4] k (fun kq v3 v4 w' => ∃ (x3_1 : Int) (x4_1 : Int), v3 = .int .i64 x3_1 ∧ v4 = .int .i64 x4_1 ∧ Aside0 (minecontrolref18_Due.l0 kq x3_1 x4_1 l0_0 l0_1 a0_2 = some r) ∧ Aside0 (kq ≤ k) ∧ Aside0 (w'.heap[gb314]? = some (.cells #[(.slice A0_0 l0_0.length c0_0), (.slice A0_1 l0_1.length c0_1), .int .i64 a0_2] 28 (0, 0))) ∧ Aside0 (Below w.heap.size w w'))
  case atStart => exact ⟨(1099511627776), (0), (by first | rfl | (simp; done) | (simp [*]; done)), (by first | rfl | (simp; done) | (simp [*]; done)), H', ⟨Nat.le_refl _⟩, ⟨blk_mv BK314.out⟩, ⟨by repeat (first | (with_reducible first | exact HB.out | apply bA | apply bN | apply bD | refine below_set ?_ GE314.out) | exact HB.out)⟩⟩
  case round =>
   clear H'
   obtain ⟨x3_1, x4_1, rfl, rfl, HA, HK1, BK314, HB⟩ := hrel
   cases gk with
   | zero => exact absurd HA.out (by simp [minecontrolref18_Due.l0])
   | succ k1 =>
    have H := HA.out
    clear HA
    simp only [minecontrolref18_Due.l0] at H
    by_cases c7 : x4_1 < (l0_0.length : Int)
    ·
     rw [if_pos c7] at H
     have c7b0 : decide (x4_1 < (l0_0.length : Int)) = true := decide_eq_true c7
     clear c7
     by_cases c8 : 0 ≤ x4_1
     rotate_left
     ·
      rw [if_neg c8] at H
      exact absurd H (by simp)
     rw [if_pos c8] at H
     have c8b0 : decide (0 ≤ x4_1) = true := decide_eq_true c8
     clear c8
     obtain ⟨bq9, hbq9⟩ : ∃ b_ : Bool, b_ = ((rd_T32 l0_0 x4_1).f3) := ⟨_, rfl⟩
     replace H : (if (bq9 = true) then (minecontrolref18_Due.l0 k1 x3_1 (wrap64 (x4_1 + 1)) l0_0 l0_1 a0_2) else (if ((rd_T32 l0_0 x4_1).f2) = (-1) then (minecontrolref18_Due.l0 k1 x3_1 (wrap64 (x4_1 + 1)) l0_0 l0_1 a0_2) else (if ((rd_T32 l0_0 x4_1).f4 = true) then (minecontrolref18_Due.l0 k1 x3_1 (wrap64 (x4_1 + 1)) l0_0 l0_1 a0_2) else (minecontrolref18_Due.l0 k1 (mn x3_1 (wrap64 (((rd_T32 l0_0 x4_1).f1) + a0_2))) (wrap64 (x4_1 + 1)) l0_0 l0_1 a0_2)))) = some r := by rw [← hbq9] at H; exact H
     have Nbq9 := aM hbq9
     clear hbq9
     by_cases c10 : (bq9 = true)
     ·
      subst c10
      have H1 : (minecontrolref18_Due.l0 k1 x3_1 (wrap64 (x4_1 + 1)) l0_0 l0_1 a0_2) = some r := by rw [if_pos rfl] at H; exact H
      clear H
      have H := H1
      clear H1
      have H' := aM H
      clear H
      obtain ⟨hcz11_0, hcz11_1, hcz11_2, hfz11_0, hfz11_1, hfz11_2⟩ := blk3 BK314.out
      have p316 : 0 ≤ (x4_1 : Int) := of_decide_eq_true (by first | (with_reducible assumption) | assumption)
      have q316 : x4_1 < (l0_0.length : Int) := of_decide_eq_true (by first | (with_reducible assumption) | assumption)
      obtain ⟨ad316, e316, hx316_0, hx316_1, hx316_2, hx316_3, hx316_4⟩ := at_T32 HR0_0.out x4_1 p316 q316
      (try rw [← Nbq9.out] at hx316_3)
      (try rw [← Nbq9.out] at hx316_4)
      cases e316
      try replace hx316_0 := (HB.out.cell (World.block_lt_of_cell? w _ hx316_0)).trans hx316_0
      try replace hx316_1 := (HB.out.cell (World.block_lt_of_cell? w _ hx316_1)).trans hx316_1
      try replace hx316_2 := (HB.out.cell (World.block_lt_of_cell? w _ hx316_2)).trans hx316_2
      try replace hx316_3 := (HB.out.cell (World.block_lt_of_cell? w _ hx316_3)).trans hx316_3
      try replace hx316_4 := (HB.out.cell (World.block_lt_of_cell? w _ hx316_4)).trans hx316_4
      replace p316 := eq_true p316
      replace q316 := eq_true q316
      go_wp2_with (first | ((with_reducible refine gate_dst (N := 5) rfl ?_); refine box_event ?hg (N := 5) ?hd (cs := #[.int .i64 0, .int .i64 0, .int .i64 0, .bool false, .bool false]) (t := 32) ?hr ?_; (case hd => rfl); (case hg => rfl); (case hr => first | (go_simp; done) | (go_simp; rfl)); intro gb317 hg w12 hbox hb; have BK317 := aM (hbox); have GW317 := aM ((by rw [hg]; exact (below_size (by repeat (first | (with_reducible first | exact HB.out | apply bA | apply bN | apply bD | refine below_set ?_ GE314.out) | exact HB.out))) : w.heap.size ≤ gb317)); have GE317 := aM ((by rw [hg]; exact (below_size (by repeat (first | (with_reducible first | exact HB.out | apply bA | apply bN | apply bD | refine below_set ?_ GE314.out) | exact HB.out))) : w.heap.size ≤ gb317)); replace HB := aM (below_step (by repeat (first | (with_reducible first | exact HB.out | apply bA | apply bN | apply bD | refine below_set ?_ GE314.out) | exact HB.out)) hb); have NB314_317 := aM ((by rw [hg]; exact Nat.ne_of_lt (blk_lt (blk_mv BK314.out)) : gb314 ≠ gb317)); have NB317_314 := aM ((by rw [hg]; exact Nat.ne_of_gt (blk_lt (blk_mv BK314.out)) : gb317 ≠ gb314)); replace BK314 := aM (blk_below (blk_mv BK314.out) hb); clear hb hbox hg; have hnb13 := NB317_314.out; have hnc13 := NB314_317.out; have hcz14_0 : w12.cell? ⟨gb317, 0, none⟩ = some (.int .i64 0) := (blk_cell BK317.out 0).trans rfl; have hcz14_1 : w12.cell? ⟨gb317, 1, none⟩ = some (.int .i64 0) := (blk_cell BK317.out 1).trans rfl; have hcz14_2 : w12.cell? ⟨gb317, 2, none⟩ = some (.int .i64 0) := (blk_cell BK317.out 2).trans rfl; have hcz14_3 : w12.cell? ⟨gb317, 3, none⟩ = some (.bool false) := (blk_cell BK317.out 3).trans rfl; have hcz14_4 : w12.cell? ⟨gb317, 4, none⟩ = some (.bool false) := (blk_cell BK317.out 4).trans rfl; have hfz14_0 := blk_frozen BK317.out 0; have hfz14_1 := blk_frozen BK317.out 1; have hfz14_2 := blk_frozen BK317.out 2; have hfz14_3 := blk_frozen BK317.out 3; have hfz14_4 := blk_frozen BK317.out 4))
      go_roundg k1
      case measure => have := HK1.out; omega
      case rel => exact ⟨(x3_1), (wrap64 (x4_1 + 1)), (by first | rfl | (simp; done) | (simp [*]; done)), (by first | rfl | (simp; done) | (simp [*]; done)), H', ⟨by have := HK1.out; omega⟩, ⟨by (with_reducible repeat (first | refine kN ?_ _ | refine kD ?_ | refine kA ?_ _)); refine blk_far ?_ NB314_317.out _; (with_reducible repeat (first | refine kN ?_ _ | refine kD ?_ | refine kA ?_ _)); refine blk_far ?_ NB314_317.out _; (with_reducible repeat (first | refine kN ?_ _ | refine kD ?_ | refine kA ?_ _)); refine blk_far ?_ NB314_317.out _; (with_reducible repeat (first | refine kN ?_ _ | refine kD ?_ | refine kA ?_ _)); refine blk_far ?_ NB314_317.out _; (with_reducible repeat (first | refine kN ?_ _ | refine kD ?_ | refine kA ?_ _)); refine blk_far ?_ NB314_317.out _; (with_reducible repeat (first | refine kN ?_ _ | refine kD ?_ | refine kA ?_ _)); exact BK314.out⟩, ⟨by repeat (first | (with_reducible first | exact HB.out | apply bA | apply bN | apply bD | refine below_set ?_ GE314.out | refine below_set ?_ GE317.out) | exact HB.out)⟩⟩
     replace c10 := Bool.eq_false_iff.mpr c10
     subst c10
     have H1 : (if ((rd_T32 l0_0 x4_1).f2) = (-1) then (minecontrolref18_Due.l0 k1 x3_1 (wrap64 (x4_1 + 1)) l0_0 l0_1 a0_2) else (if ((rd_T32 l0_0 x4_1).f4 = true) then (minecontrolref18_Due.l0 k1 x3_1 (wrap64 (x4_1 + 1)) l0_0 l0_1 a0_2) else (minecontrolref18_Due.l0 k1 (mn x3_1 (wrap64 (((rd_T32 l0_0 x4_1).f1) + a0_2))) (wrap64 (x4_1 + 1)) l0_0 l0_1 a0_2))) = some r := by rw [if_neg (show ¬ (false = true) by decide)] at H; exact H
     clear H
     have H := H1
     clear H1
     by_cases c15 : ((rd_T32 l0_0 x4_1).f2) = (-1)
     ·
      rw [if_pos c15] at H
      have c15b0 : (((rd_T32 l0_0 x4_1).f2) == (-1)) = true := beq_iff_eq.mpr c15
      have c15b1 : (((rd_T32 l0_0 x4_1).f2) != (-1)) = false := bne_eq_false_iff_eq.mpr c15
      clear c15
      have H' := aM H
      clear H
      obtain ⟨hcz16_0, hcz16_1, hcz16_2, hfz16_0, hfz16_1, hfz16_2⟩ := blk3 BK314.out
      have p316 : 0 ≤ (x4_1 : Int) := of_decide_eq_true (by first | (with_reducible assumption) | assumption)
      have q316 : x4_1 < (l0_0.length : Int) := of_decide_eq_true (by first | (with_reducible assumption) | assumption)
      obtain ⟨ad316, e316, hx316_0, hx316_1, hx316_2, hx316_3, hx316_4⟩ := at_T32 HR0_0.out x4_1 p316 q316
      (try rw [← Nbq9.out] at hx316_3)
      (try rw [← Nbq9.out] at hx316_4)
      cases e316
      try replace hx316_0 := (HB.out.cell (World.block_lt_of_cell? w _ hx316_0)).trans hx316_0
      try replace hx316_1 := (HB.out.cell (World.block_lt_of_cell? w _ hx316_1)).trans hx316_1
      try replace hx316_2 := (HB.out.cell (World.block_lt_of_cell? w _ hx316_2)).trans hx316_2
      try replace hx316_3 := (HB.out.cell (World.block_lt_of_cell? w _ hx316_3)).trans hx316_3
      try replace hx316_4 := (HB.out.cell (World.block_lt_of_cell? w _ hx316_4)).trans hx316_4
      replace p316 := eq_true p316
      replace q316 := eq_true q316
      go_wp2_with (first | ((with_reducible refine gate_dst (N := 5) rfl ?_); refine box_event ?hg (N := 5) ?hd (cs := #[.int .i64 0, .int .i64 0, .int .i64 0, .bool false, .bool false]) (t := 32) ?hr ?_; (case hd => rfl); (case hg => rfl); (case hr => first | (go_simp; done) | (go_simp; rfl)); intro gb317 hg w17 hbox hb; have BK317 := aM (hbox); have GW317 := aM ((by rw [hg]; exact (below_size (by repeat (first | (with_reducible first | exact HB.out | apply bA | apply bN | apply bD | refine below_set ?_ GE314.out) | exact HB.out))) : w.heap.size ≤ gb317)); have GE317 := aM ((by rw [hg]; exact (below_size (by repeat (first | (with_reducible first | exact HB.out | apply bA | apply bN | apply bD | refine below_set ?_ GE314.out) | exact HB.out))) : w.heap.size ≤ gb317)); replace HB := aM (below_step (by repeat (first | (with_reducible first | exact HB.out | apply bA | apply bN | apply bD | refine below_set ?_ GE314.out) | exact HB.out)) hb); have NB314_317 := aM ((by rw [hg]; exact Nat.ne_of_lt (blk_lt (blk_mv BK314.out)) : gb314 ≠ gb317)); have NB317_314 := aM ((by rw [hg]; exact Nat.ne_of_gt (blk_lt (blk_mv BK314.out)) : gb317 ≠ gb314)); replace BK314 := aM (blk_below (blk_mv BK314.out) hb); clear hb hbox hg; have hnb18 := NB317_314.out; have hnc18 := NB314_317.out; have hcz19_0 : w17.cell? ⟨gb317, 0, none⟩ = some (.int .i64 0) := (blk_cell BK317.out 0).trans rfl; have hcz19_1 : w17.cell? ⟨gb317, 1, none⟩ = some (.int .i64 0) := (blk_cell BK317.out 1).trans rfl; have hcz19_2 : w17.cell? ⟨gb317, 2, none⟩ = some (.int .i64 0) := (blk_cell BK317.out 2).trans rfl; have hcz19_3 : w17.cell? ⟨gb317, 3, none⟩ = some (.bool false) := (blk_cell BK317.out 3).trans rfl; have hcz19_4 : w17.cell? ⟨gb317, 4, none⟩ = some (.bool false) := (blk_cell BK317.out 4).trans rfl; have hfz19_0 := blk_frozen BK317.out 0; have hfz19_1 := blk_frozen BK317.out 1; have hfz19_2 := blk_frozen BK317.out 2; have hfz19_3 := blk_frozen BK317.out 3; have hfz19_4 := blk_frozen BK317.out 4))
      go_roundg k1
      case measure => have := HK1.out; omega
      case rel => exact ⟨(x3_1), (wrap64 (x4_1 + 1)), (by first | rfl | (simp; done) | (simp [*]; done)), (by first | rfl | (simp; done) | (simp [*]; done)), H', ⟨by have := HK1.out; omega⟩, ⟨by (with_reducible repeat (first | refine kN ?_ _ | refine kD ?_ | refine kA ?_ _)); refine blk_far ?_ NB314_317.out _; (with_reducible repeat (first | refine kN ?_ _ | refine kD ?_ | refine kA ?_ _)); refine blk_far ?_ NB314_317.out _; (with_reducible repeat (first | refine kN ?_ _ | refine kD ?_ | refine kA ?_ _)); refine blk_far ?_ NB314_317.out _; (with_reducible repeat (first | refine kN ?_ _ | refine kD ?_ | refine kA ?_ _)); refine blk_far ?_ NB314_317.out _; (with_reducible repeat (first | refine kN ?_ _ | refine kD ?_ | refine kA ?_ _)); refine blk_far ?_ NB314_317.out _; (with_reducible repeat (first | refine kN ?_ _ | refine kD ?_ | refine kA ?_ _)); exact BK314.out⟩, ⟨by repeat (first | (with_reducible first | exact HB.out | apply bA | apply bN | apply bD | refine below_set ?_ GE314.out | refine below_set ?_ GE317.out) | exact HB.out)⟩⟩
     rw [if_neg c15] at H
     have c15b0 : (((rd_T32 l0_0 x4_1).f2) == (-1)) = false := beq_eq_false_iff_ne.mpr c15
     have c15b1 : (((rd_T32 l0_0 x4_1).f2) != (-1)) = true := bne_iff_ne.mpr c15
     obtain ⟨bq20, hbq20⟩ : ∃ b_ : Bool, b_ = ((rd_T32 l0_0 x4_1).f4) := ⟨_, rfl⟩
     replace H : (if (bq20 = true) then (minecontrolref18_Due.l0 k1 x3_1 (wrap64 (x4_1 + 1)) l0_0 l0_1 a0_2) else (minecontrolref18_Due.l0 k1 (mn x3_1 (wrap64 (((rd_T32 l0_0 x4_1).f1) + a0_2))) (wrap64 (x4_1 + 1)) l0_0 l0_1 a0_2)) = some r := by rw [← hbq20] at H; exact H
     have Nbq20 := aM hbq20
     clear hbq20
     by_cases c21 : (bq20 = true)
     ·
      subst c21
      have H1 : (minecontrolref18_Due.l0 k1 x3_1 (wrap64 (x4_1 + 1)) l0_0 l0_1 a0_2) = some r := by rw [if_pos rfl] at H; exact H
      clear H
      have H := H1
      clear H1
      have H' := aM H
      clear H
      obtain ⟨hcz22_0, hcz22_1, hcz22_2, hfz22_0, hfz22_1, hfz22_2⟩ := blk3 BK314.out
      have p316 : 0 ≤ (x4_1 : Int) := of_decide_eq_true (by first | (with_reducible assumption) | assumption)
      have q316 : x4_1 < (l0_0.length : Int) := of_decide_eq_true (by first | (with_reducible assumption) | assumption)
      obtain ⟨ad316, e316, hx316_0, hx316_1, hx316_2, hx316_3, hx316_4⟩ := at_T32 HR0_0.out x4_1 p316 q316
      (try rw [← Nbq9.out] at hx316_3)
      (try rw [← Nbq20.out] at hx316_3)
      (try rw [← Nbq9.out] at hx316_4)
      (try rw [← Nbq20.out] at hx316_4)
      cases e316
      try replace hx316_0 := (HB.out.cell (World.block_lt_of_cell? w _ hx316_0)).trans hx316_0
      try replace hx316_1 := (HB.out.cell (World.block_lt_of_cell? w _ hx316_1)).trans hx316_1
      try replace hx316_2 := (HB.out.cell (World.block_lt_of_cell? w _ hx316_2)).trans hx316_2
      try replace hx316_3 := (HB.out.cell (World.block_lt_of_cell? w _ hx316_3)).trans hx316_3
      try replace hx316_4 := (HB.out.cell (World.block_lt_of_cell? w _ hx316_4)).trans hx316_4
      replace p316 := eq_true p316
      replace q316 := eq_true q316
      go_wp2_with (first | ((with_reducible refine gate_dst (N := 5) rfl ?_); refine box_event ?hg (N := 5) ?hd (cs := #[.int .i64 0, .int .i64 0, .int .i64 0, .bool false, .bool false]) (t := 32) ?hr ?_; (case hd => rfl); (case hg => rfl); (case hr => first | (go_simp; done) | (go_simp; rfl)); intro gb317 hg w23 hbox hb; have BK317 := aM (hbox); have GW317 := aM ((by rw [hg]; exact (below_size (by repeat (first | (with_reducible first | exact HB.out | apply bA | apply bN | apply bD | refine below_set ?_ GE314.out) | exact HB.out))) : w.heap.size ≤ gb317)); have GE317 := aM ((by rw [hg]; exact (below_size (by repeat (first | (with_reducible first | exact HB.out | apply bA | apply bN | apply bD | refine below_set ?_ GE314.out) | exact HB.out))) : w.heap.size ≤ gb317)); replace HB := aM (below_step (by repeat (first | (with_reducible first | exact HB.out | apply bA | apply bN | apply bD | refine below_set ?_ GE314.out) | exact HB.out)) hb); have NB314_317 := aM ((by rw [hg]; exact Nat.ne_of_lt (blk_lt (blk_mv BK314.out)) : gb314 ≠ gb317)); have NB317_314 := aM ((by rw [hg]; exact Nat.ne_of_gt (blk_lt (blk_mv BK314.out)) : gb317 ≠ gb314)); replace BK314 := aM (blk_below (blk_mv BK314.out) hb); clear hb hbox hg; have hnb24 := NB317_314.out; have hnc24 := NB314_317.out; have hcz25_0 : w23.cell? ⟨gb317, 0, none⟩ = some (.int .i64 0) := (blk_cell BK317.out 0).trans rfl; have hcz25_1 : w23.cell? ⟨gb317, 1, none⟩ = some (.int .i64 0) := (blk_cell BK317.out 1).trans rfl; have hcz25_2 : w23.cell? ⟨gb317, 2, none⟩ = some (.int .i64 0) := (blk_cell BK317.out 2).trans rfl; have hcz25_3 : w23.cell? ⟨gb317, 3, none⟩ = some (.bool false) := (blk_cell BK317.out 3).trans rfl; have hcz25_4 : w23.cell? ⟨gb317, 4, none⟩ = some (.bool false) := (blk_cell BK317.out 4).trans rfl; have hfz25_0 := blk_frozen BK317.out 0; have hfz25_1 := blk_frozen BK317.out 1; have hfz25_2 := blk_frozen BK317.out 2; have hfz25_3 := blk_frozen BK317.out 3; have hfz25_4 := blk_frozen BK317.out 4))
      go_roundg k1
      case measure => have := HK1.out; omega
      case rel => exact ⟨(x3_1), (wrap64 (x4_1 + 1)), (by first | rfl | (simp; done) | (simp [*]; done)), (by first | rfl | (simp; done) | (simp [*]; done)), H', ⟨by have := HK1.out; omega⟩, ⟨by (with_reducible repeat (first | refine kN ?_ _ | refine kD ?_ | refine kA ?_ _)); refine blk_far ?_ NB314_317.out _; (with_reducible repeat (first | refine kN ?_ _ | refine kD ?_ | refine kA ?_ _)); refine blk_far ?_ NB314_317.out _; (with_reducible repeat (first | refine kN ?_ _ | refine kD ?_ | refine kA ?_ _)); refine blk_far ?_ NB314_317.out _; (with_reducible repeat (first | refine kN ?_ _ | refine kD ?_ | refine kA ?_ _)); refine blk_far ?_ NB314_317.out _; (with_reducible repeat (first | refine kN ?_ _ | refine kD ?_ | refine kA ?_ _)); refine blk_far ?_ NB314_317.out _; (with_reducible repeat (first | refine kN ?_ _ | refine kD ?_ | refine kA ?_ _)); exact BK314.out⟩, ⟨by repeat (first | (with_reducible first | exact HB.out | apply bA | apply bN | apply bD | refine below_set ?_ GE314.out | refine below_set ?_ GE317.out) | exact HB.out)⟩⟩
     replace c21 := Bool.eq_false_iff.mpr c21
     subst c21
     have H1 : (minecontrolref18_Due.l0 k1 (mn x3_1 (wrap64 (((rd_T32 l0_0 x4_1).f1) + a0_2))) (wrap64 (x4_1 + 1)) l0_0 l0_1 a0_2) = some r := by rw [if_neg (show ¬ (false = true) by decide)] at H; exact H
     clear H
     have H := H1
     clear H1
     obtain ⟨ji26, hji26⟩ : ∃ j_ : Int, (mn x3_1 (wrap64 (((rd_T32 l0_0 x4_1).f1) + a0_2))) = j_ := ⟨_, rfl⟩
     replace H : (minecontrolref18_Due.l0 k1 ji26 (wrap64 (x4_1 + 1)) l0_0 l0_1 a0_2) = some r := by first | (rw [hji26] at H; exact H) | (simp only [hji26] at H ⊢; exact H)
     have hji26_ : (if (wrap64 (((rd_T32 l0_0 x4_1).f1) + a0_2)) < x3_1 then (wrap64 (((rd_T32 l0_0 x4_1).f1) + a0_2)) else x3_1) = ji26 := hji26
     have H' := aM H
     clear H
     obtain ⟨hcz27_0, hcz27_1, hcz27_2, hfz27_0, hfz27_1, hfz27_2⟩ := blk3 BK314.out
     have p316 : 0 ≤ (x4_1 : Int) := of_decide_eq_true (by first | (with_reducible assumption) | assumption)
     have q316 : x4_1 < (l0_0.length : Int) := of_decide_eq_true (by first | (with_reducible assumption) | assumption)
     obtain ⟨ad316, e316, hx316_0, hx316_1, hx316_2, hx316_3, hx316_4⟩ := at_T32 HR0_0.out x4_1 p316 q316
     (try rw [← Nbq9.out] at hx316_3)
     (try rw [← Nbq20.out] at hx316_3)
     (try rw [← Nbq9.out] at hx316_4)
     (try rw [← Nbq20.out] at hx316_4)
     cases e316
     try replace hx316_0 := (HB.out.cell (World.block_lt_of_cell? w _ hx316_0)).trans hx316_0
     try replace hx316_1 := (HB.out.cell (World.block_lt_of_cell? w _ hx316_1)).trans hx316_1
     try replace hx316_2 := (HB.out.cell (World.block_lt_of_cell? w _ hx316_2)).trans hx316_2
     try replace hx316_3 := (HB.out.cell (World.block_lt_of_cell? w _ hx316_3)).trans hx316_3
     try replace hx316_4 := (HB.out.cell (World.block_lt_of_cell? w _ hx316_4)).trans hx316_4
     replace p316 := eq_true p316
     replace q316 := eq_true q316
     go_wp2_with (first | ((with_reducible refine gate_dst (N := 5) rfl ?_); refine box_event ?hg (N := 5) ?hd (cs := #[.int .i64 0, .int .i64 0, .int .i64 0, .bool false, .bool false]) (t := 32) ?hr ?_; (case hd => rfl); (case hg => rfl); (case hr => first | (go_simp; done) | (go_simp; rfl)); intro gb317 hg w28 hbox hb; have BK317 := aM (hbox); have GW317 := aM ((by rw [hg]; exact (below_size (by repeat (first | (with_reducible first | exact HB.out | apply bA | apply bN | apply bD | refine below_set ?_ GE314.out) | exact HB.out))) : w.heap.size ≤ gb317)); have GE317 := aM ((by rw [hg]; exact (below_size (by repeat (first | (with_reducible first | exact HB.out | apply bA | apply bN | apply bD | refine below_set ?_ GE314.out) | exact HB.out))) : w.heap.size ≤ gb317)); replace HB := aM (below_step (by repeat (first | (with_reducible first | exact HB.out | apply bA | apply bN | apply bD | refine below_set ?_ GE314.out) | exact HB.out)) hb); have NB314_317 := aM ((by rw [hg]; exact Nat.ne_of_lt (blk_lt (blk_mv BK314.out)) : gb314 ≠ gb317)); have NB317_314 := aM ((by rw [hg]; exact Nat.ne_of_gt (blk_lt (blk_mv BK314.out)) : gb317 ≠ gb314)); replace BK314 := aM (blk_below (blk_mv BK314.out) hb); clear hb hbox hg; have hnb29 := NB317_314.out; have hnc29 := NB314_317.out; have hcz30_0 : w28.cell? ⟨gb317, 0, none⟩ = some (.int .i64 0) := (blk_cell BK317.out 0).trans rfl; have hcz30_1 : w28.cell? ⟨gb317, 1, none⟩ = some (.int .i64 0) := (blk_cell BK317.out 1).trans rfl; have hcz30_2 : w28.cell? ⟨gb317, 2, none⟩ = some (.int .i64 0) := (blk_cell BK317.out 2).trans rfl; have hcz30_3 : w28.cell? ⟨gb317, 3, none⟩ = some (.bool false) := (blk_cell BK317.out 3).trans rfl; have hcz30_4 : w28.cell? ⟨gb317, 4, none⟩ = some (.bool false) := (blk_cell BK317.out 4).trans rfl; have hfz30_0 := blk_frozen BK317.out 0; have hfz30_1 := blk_frozen BK317.out 1; have hfz30_2 := blk_frozen BK317.out 2; have hfz30_3 := blk_frozen BK317.out 3; have hfz30_4 := blk_frozen BK317.out 4; obtain ⟨hcz31_0, hcz31_1, hcz31_2, hfz31_0, hfz31_1, hfz31_2⟩ := blk3 BK314.out))
     go_roundg k1
     case measure => have := HK1.out; omega
     case rel => exact ⟨(ji26), (wrap64 (x4_1 + 1)), (by first | rfl | (simp; done) | (simp only [← hji26] <;> (first | rfl | simp)) | (simp [*]; done)), (by first | rfl | (simp; done) | (simp [*]; done)), H', ⟨by have := HK1.out; omega⟩, ⟨by (with_reducible repeat (first | refine kN ?_ _ | refine kD ?_ | refine kA ?_ _)); refine blk_far ?_ NB314_317.out _; (with_reducible repeat (first | refine kN ?_ _ | refine kD ?_ | refine kA ?_ _)); refine blk_far ?_ NB314_317.out _; (with_reducible repeat (first | refine kN ?_ _ | refine kD ?_ | refine kA ?_ _)); refine blk_far ?_ NB314_317.out _; (with_reducible repeat (first | refine kN ?_ _ | refine kD ?_ | refine kA ?_ _)); refine blk_far ?_ NB314_317.out _; (with_reducible repeat (first | refine kN ?_ _ | refine kD ?_ | refine kA ?_ _)); refine blk_far ?_ NB314_317.out _; (with_reducible repeat (first | refine kN ?_ _ | refine kD ?_ | refine kA ?_ _)); exact BK314.out⟩, ⟨by repeat (first | (with_reducible first | exact HB.out | apply bA | apply bN | apply bD | refine below_set ?_ GE314.out | refine below_set ?_ GE317.out) | exact HB.out)⟩⟩
    rw [if_neg c7] at H
    have c7b0 : decide (x4_1 < (l0_0.length : Int)) = false := decide_eq_false c7
    clear c7
    obtain rfl := Option.some.inj H
    obtain ⟨hcz32_0, hcz32_1, hcz32_2, hfz32_0, hfz32_1, hfz32_2⟩ := blk3 BK314.out
    go_wp2
    go_ret
    exact ⟨by first | rfl | (simp [errW_none, errW_some] <;> rfl) | (simp [*, errW_none, errW_some] <;> rfl), by repeat (first | (with_reducible first | exact HB.out | apply bA | apply bN | apply bD | refine below_set ?_ GE314.out) | exact HB.out)⟩
 rw [if_neg c3] at H
 have c3b0 : (t315 == 0) = false := beq_eq_false_iff_ne.mpr c3
 have c3b1 : (t315 != 0) = true := bne_iff_ne.mpr c3
 obtain rfl := Option.some.inj H
 go_enter Try.func31, Try.ntmps31
 go_wp2_with (first | ((with_reducible refine gate_dst (N := 1) rfl ?_); refine box_event ?hg (N := 1) ?hd (cs := #[.slice A0_0 l0_0.length c0_0, .slice A0_1 l0_1.length c0_1, .int .i64 a0_2]) (t := 28) ?hr ?_; (case hd => rfl); (case hg => rfl); (case hr => first | (go_simp; done) | (go_simp; rfl)); intro gb314 hg w33 hbox hb; have BK314 := aM (hbox); have GW314 := aM ((by rw [hg]; exact (below_size (below_mv HB.out)) : w.heap.size ≤ gb314)); have GE314 := aM ((by rw [hg]; exact (below_size (below_mv HB.out)) : w.heap.size ≤ gb314)); replace HB := aM (below_step (below_mv HB.out) hb); clear hb hbox hg; obtain ⟨hcz34_0, hcz34_1, hcz34_2, hfz34_0, hfz34_1, hfz34_2⟩ := blk3 BK314.out) | ((with_reducible refine gate_callee (f := 26) rfl ?_); refine goesL_ (some 7) rfl rfl Try.func26 (by kernel_rfl) rfl #[.agg #[.slice A0_0 l0_0.length c0_0, .slice A0_1 l0_1.length c0_1, .int .i64 a0_2]] rfl (by first | rfl | (simp only [List.map_toArray, List.map_cons, List.map_nil, List.length_drop, List.length_take]; rfl)) ?_; (with_reducible refine (minecontrolref18_Check.calls k _ _ l0_0 _ _ l0_1 a0_2 t315 _ ?side1 ?side2 ?side3 ?side4 A2.out).mono ?_); (case side1 => first | exact C_mv (Kd.C_below HR0_0.out HB.out) | exact C_mv HR0_0.out); (case side2 => exact HC0_0.out); (case side3 => first | exact C_mv (Kd.C_below HR0_1.out HB.out) | exact C_mv HR0_1.out); (case side4 => exact HC0_1.out); rintro e w35 ⟨rfl, hb⟩; refine ⟨_, rfl, ?_⟩; replace BK314 := aM (blk_below (blk_mv BK314.out) hb); replace HB := aM (below_step (by repeat (first | (with_reducible first | exact HB.out | apply bA | apply bN | apply bD | refine below_set ?_ GE314.out) | exact HB.out)) hb); (try clear hb); (try clear hb2); (try clear hge); (try clear hk); (try clear hi)))
 go_ret
 exact ⟨by first | rfl | (simp [errW_none, errW_some] <;> rfl) | (simp [*, errW_none, errW_some] <;> rfl), by repeat (first | (with_reducible first | exact HB.out | apply bA | apply bN | apply bD | refine below_set ?_ GE314.out) | exact HB.out)⟩

/-! ### minecontrolref18_Failed: function 32 -/
def minecontrolref18_Failed.l0 : Nat → List Int → Int → List (S32) → List Int → Int → Option (List Int)
 | 0, _, _, _, _, _ => none
 | k + 1, x3, x4, x319000, x319001, x319002 => if x4 < (x319000.length : Int) then (if 0 ≤ x4 then (if ((rd_T32 x319000 x4).f0) = (-1) then (if (rd_T32 x319000 x4).f4 = true then (if x3.length < 17592186044416 then (minecontrolref18_Failed.l0 k (x3 ++ [x4]) (wrap64 (x4 + 1)) x319000 x319001 x319002) else (none)) else (minecontrolref18_Failed.l0 k x3 (wrap64 (x4 + 1)) x319000 x319001 x319002)) else (minecontrolref18_Failed.l0 k x3 (wrap64 (x4 + 1)) x319000 x319001 x319002)) else (none)) else (some x3)
def minecontrolref18_Failed.f (k : Nat) (l0_0 : List (S32)) (l0_1 : List Int) (a0_2 : Int) : Option (List Int) := (minecontrolref18_Check.f k l0_0 l0_1 a0_2).bind fun t319 => (if t319 = 0 then (minecontrolref18_Failed.l0 k ([] : List Int) 0 l0_0 l0_1 a0_2) else (some ([] : List Int)))
theorem minecontrolref18_Failed.mono_l : ∀ k, (∀ y0 y1 y2 y3 y4, LeO (minecontrolref18_Failed.l0 k y0 y1 y2 y3 y4) (minecontrolref18_Failed.l0 (k + 1) y0 y1 y2 y3 y4))
 | 0 => fun _ _ _ _ _ r h => by simp [minecontrolref18_Failed.l0] at h
 | k + 1 => by
  have ih0 := minecontrolref18_Failed.mono_l k
  intro y0 y1 y2 y3 y4
  unfold minecontrolref18_Failed.l0
  repeat' first
  | (with_reducible exact ih0 _ _ _ _ _)
  | (with_reducible exact minecontrolref18_Check.mono _ _ _ _)
  | (with_reducible exact LeO.refl _)
  | (with_reducible exact LeO.none _)
  | (with_reducible refine LeO.ite ?_ ?_)
  | (with_reducible refine LeO.bind ?_ (fun _ => ?_))
  | exact ih0 _ _ _ _ _
  | exact LeO.none _
  | refine LeO.ite ?_ ?_
  | refine LeO.bind ?_ (fun _ => ?_)
theorem minecontrolref18_Failed.mono : ∀ a0 a1 a2 k, LeO (minecontrolref18_Failed.f k a0 a1 a2) (minecontrolref18_Failed.f (k + 1) a0 a1 a2) := by
 intro a0 a1 a2 k
 have ih0 := minecontrolref18_Failed.mono_l k
 unfold minecontrolref18_Failed.f
 repeat' first
   | (with_reducible exact ih0 _ _ _ _ _)
   | (with_reducible exact minecontrolref18_Check.mono _ _ _ _)
   | (with_reducible exact LeO.refl _)
   | (with_reducible exact LeO.none _)
   | (with_reducible refine LeO.ite ?_ ?_)
   | (with_reducible refine LeO.bind ?_ (fun _ => ?_))
   | exact ih0 _ _ _ _ _
   | exact LeO.none _
   | refine LeO.ite ?_ ?_
   | refine LeO.bind ?_ (fun _ => ?_)
set_option maxHeartbeats 8000000 in
set_option maxRecDepth 100000 in
theorem minecontrolref18_Failed.calls (k : Nat) (A0_0 : Option Addr) (c0_0 : Nat) (l0_0 : List (S32)) (A0_1 : Option Addr) (c0_1 : Nat) (l0_1 : List Int) (a0_2 : Int) (r : List Int) (w : World) (hr0_0 : Kd.C k32 w A0_0 l0_0.length l0_0) (hc0_0 : l0_0.length ≤ c0_0) (hr0_1 : Kd.C (Kd.int .i64) w A0_1 l0_1.length l0_1) (hc0_1 : l0_1.length ≤ c0_1) (h : minecontrolref18_Failed.f k l0_0 l0_1 a0_2 = some r) :
  Calls Try.prog 32 #[.agg #[.slice A0_0 l0_0.length c0_0, .slice A0_1 l0_1.length c0_1, .int .i64 a0_2]] w fun e w' => ∃ v0_ : Value, e = .returned (v0_) ∧ Kd.R (Kd.int .i64) 3 w' w.heap.size (fun _ => True) v0_ r ∧ Below w.heap.size w w' := by
 have hu28 := Try.underlying28
 have HR0_0 := aM hr0_0
 have HC0_0 := aM hc0_0
 clear hr0_0 hc0_0
 have HR0_1 := aM hr0_1
 have HC0_1 := aM hc0_1
 clear hr0_1 hc0_1
 have HB := aM (Below.refl w.heap.size w)
 have H : ((minecontrolref18_Check.f k l0_0 l0_1 a0_2).bind fun t319 => (if t319 = 0 then (minecontrolref18_Failed.l0 k ([] : List Int) 0 l0_0 l0_1 a0_2) else (some ([] : List Int)))) = some r := h
 clear h
 replace H := Option.bind_eq_some_iff.mp H
 obtain ⟨t319, A20, H⟩ := H
 replace H : (if t319 = 0 then (minecontrolref18_Failed.l0 k ([] : List Int) 0 l0_0 l0_1 a0_2) else (some ([] : List Int))) = some r := H
 have A2 := aM A20
 clear A20
 by_cases c3 : t319 = 0
 ·
  rw [if_pos c3] at H
  have c3b0 : (t319 == 0) = true := beq_iff_eq.mpr c3
  have c3b1 : (t319 != 0) = false := bne_eq_false_iff_eq.mpr c3
  clear c3
  have H' := aM H
  clear H
  go_enter Try.func32, Try.ntmps32
  go_wp2_with (first | ((with_reducible refine gate_dst (N := 1) rfl ?_); refine box_event ?hg (N := 1) ?hd (cs := #[.slice A0_0 l0_0.length c0_0, .slice A0_1 l0_1.length c0_1, .int .i64 a0_2]) (t := 28) ?hr ?_; (case hd => rfl); (case hg => rfl); (case hr => first | (go_simp; done) | (go_simp; rfl)); intro gb318 hg w4 hbox hb; have BK318 := aM (hbox); have GW318 := aM ((by rw [hg]; exact (below_size (below_mv HB.out)) : w.heap.size ≤ gb318)); have GE318 := aM ((by rw [hg]; exact (below_size (below_mv HB.out)) : w.heap.size ≤ gb318)); replace HB := aM (below_step (below_mv HB.out) hb); clear hb hbox hg; obtain ⟨hcz5_0, hcz5_1, hcz5_2, hfz5_0, hfz5_1, hfz5_2⟩ := blk3 BK318.out) | ((with_reducible refine gate_callee (f := 26) rfl ?_); refine goesL_ (some 6) rfl rfl Try.func26 (by kernel_rfl) rfl #[.agg #[.slice A0_0 l0_0.length c0_0, .slice A0_1 l0_1.length c0_1, .int .i64 a0_2]] rfl (by first | rfl | (simp only [List.map_toArray, List.map_cons, List.map_nil, List.length_drop, List.length_take]; rfl)) ?_; (with_reducible refine (minecontrolref18_Check.calls k _ _ l0_0 _ _ l0_1 a0_2 t319 _ ?side1 ?side2 ?side3 ?side4 A2.out).mono ?_); (case side1 => first | exact C_mv (Kd.C_below HR0_0.out HB.out) | exact C_mv HR0_0.out); (case side2 => exact HC0_0.out); (case side3 => first | exact C_mv (Kd.C_below HR0_1.out HB.out) | exact C_mv HR0_1.out); (case side4 => exact HC0_1.out); rintro e w6 ⟨rfl, hb⟩; refine ⟨_, rfl, ?_⟩; replace BK318 := aM (blk_below (blk_mv BK318.out) hb); replace HB := aM (below_step (by repeat (first | (with_reducible first | exact HB.out | apply bA | apply bN | apply bD | refine below_set ?_ GE318.out) | exact HB.out)) hb); (try clear hb); (try clear hb2); (try clear hge); (try clear hk); (try clear hi)))
  go_loopg [3, 4] k (fun kq v3 v4 w' => ∃ (x3_1 : List Int) (x4_1 : Int), v4 = .int .i64 x4_1 ∧ Aside0 (minecontrolref18_Failed.l0 kq x3_1 x4_1 l0_0 l0_1 a0_2 = some r) ∧ Aside0 (kq ≤ k) ∧ Aside0 (Kd.R (Kd.int .i64) 3 w' w.heap.size (fun _ => True) v3 x3_1) ∧ Aside0 (w'.heap[gb318]? = some (.cells #[(.slice A0_0 l0_0.length c0_0), (.slice A0_1 l0_1.length c0_1), .int .i64 a0_2] 28 (0, 0))) ∧ Aside0 (Below w.heap.size w w'))
  case atStart => exact ⟨(([] : List Int)), (0), (by first | rfl | (simp; done) | (simp [*]; done)), H', ⟨Nat.le_refl _⟩, ⟨by first | exact Kd.R_nil _ _ _ _ _ | exact Kd.N_nil _ _ _ _ _ | exact Kd.V_nil _ _ _ _ _ | exact Kd.Q_nil _ _ _ _ _ | exact Kd.S_nil _ _ _ _ _⟩, ⟨blk_mv BK318.out⟩, ⟨by repeat (first | (with_reducible first | exact HB.out | apply bA | apply bN | apply bD | refine below_set ?_ GE318.out) | exact HB.out)⟩⟩
  case round =>
   clear H'
   obtain ⟨x3_1, x4_1, rfl, HA, HK1, HO_3, BK318, HB⟩ := hrel
   cases gk with
   | zero => exact absurd HA.out (by simp [minecontrolref18_Failed.l0])
   | succ k1 =>
    have H := HA.out
    clear HA
    simp only [minecontrolref18_Failed.l0] at H
    by_cases c7 : x4_1 < (l0_0.length : Int)
    ·
     rw [if_pos c7] at H
     have c7b0 : decide (x4_1 < (l0_0.length : Int)) = true := decide_eq_true c7
     clear c7
     by_cases c8 : 0 ≤ x4_1
     rotate_left
     ·
      rw [if_neg c8] at H
      exact absurd H (by simp)
     rw [if_pos c8] at H
     have c8b0 : decide (0 ≤ x4_1) = true := decide_eq_true c8
     clear c8
     by_cases c9 : ((rd_T32 l0_0 x4_1).f0) = (-1)
     ·
      rw [if_pos c9] at H
      have c9b0 : (((rd_T32 l0_0 x4_1).f0) == (-1)) = true := beq_iff_eq.mpr c9
      have c9b1 : (((rd_T32 l0_0 x4_1).f0) != (-1)) = false := bne_eq_false_iff_eq.mpr c9
      clear c9
      obtain ⟨bq10, hbq10⟩ : ∃ b_ : Bool, b_ = ((rd_T32 l0_0 x4_1).f4) := ⟨_, rfl⟩
      replace H : (if bq10 = true then (if x3_1.length < 17592186044416 then (minecontrolref18_Failed.l0 k1 (x3_1 ++ [x4_1]) (wrap64 (x4_1 + 1)) l0_0 l0_1 a0_2) else (none)) else (minecontrolref18_Failed.l0 k1 x3_1 (wrap64 (x4_1 + 1)) l0_0 l0_1 a0_2)) = some r := by rw [← hbq10] at H; exact H
      have Nbq10 := aM hbq10
      clear hbq10
      by_cases c11 : bq10 = true
      ·
       subst c11
       have H1 : (if x3_1.length < 17592186044416 then (minecontrolref18_Failed.l0 k1 (x3_1 ++ [x4_1]) (wrap64 (x4_1 + 1)) l0_0 l0_1 a0_2) else (none)) = some r := by rw [if_pos rfl] at H; exact H
       clear H
       have H := H1
       clear H1
       by_cases c12 : x3_1.length < 17592186044416
       rotate_left
       ·
        rw [if_neg c12] at H
        exact absurd H (by simp)
       rw [if_pos c12] at H
       have LMc12 := aM c12
       clear c12
       obtain ⟨y322, hy322⟩ : ∃ y_ : List Int, y_ = (x3_1 ++ [x4_1]) := ⟨_, rfl⟩
       replace H : (minecontrolref18_Failed.l0 k1 y322 (wrap64 (x4_1 + 1)) l0_0 l0_1 a0_2) = some r := by first | (rw [hy322]; with_reducible exact H) | (have H2_ := (Option.bind_some _ _).symm.trans H; rw [hy322]; with_reducible exact H2_) | (have H2_ := (Option.bind_some _ _).symm.trans H; with_reducible exact H2_) | with_reducible exact H | (rw [hy322]; exact H) | exact H
       have Ny322 := aM hy322
       clear hy322
       have H' := aM H
       clear H
       obtain ⟨hcz13_0, hcz13_1, hcz13_2, hfz13_0, hfz13_1, hfz13_2⟩ := blk3 BK318.out
       have p320 : 0 ≤ (x4_1 : Int) := of_decide_eq_true (by first | (with_reducible assumption) | assumption)
       have q320 : x4_1 < (l0_0.length : Int) := of_decide_eq_true (by first | (with_reducible assumption) | assumption)
       obtain ⟨ad320, e320, hx320_0, hx320_1, hx320_2, hx320_3, hx320_4⟩ := at_T32 HR0_0.out x4_1 p320 q320
       (try rw [← Nbq10.out] at hx320_3)
       (try rw [← Nbq10.out] at hx320_4)
       cases e320
       try replace hx320_0 := (HB.out.cell (World.block_lt_of_cell? w _ hx320_0)).trans hx320_0
       try replace hx320_1 := (HB.out.cell (World.block_lt_of_cell? w _ hx320_1)).trans hx320_1
       try replace hx320_2 := (HB.out.cell (World.block_lt_of_cell? w _ hx320_2)).trans hx320_2
       try replace hx320_3 := (HB.out.cell (World.block_lt_of_cell? w _ hx320_3)).trans hx320_3
       try replace hx320_4 := (HB.out.cell (World.block_lt_of_cell? w _ hx320_4)).trans hx320_4
       replace p320 := eq_true p320
       replace q320 := eq_true q320
       have p321 : 0 ≤ (x4_1 : Int) := of_decide_eq_true (by first | (with_reducible assumption) | assumption)
       have q321 : x4_1 < (l0_0.length : Int) := of_decide_eq_true (by first | (with_reducible assumption) | assumption)
       obtain ⟨ad321, e321, hx321_0, hx321_1, hx321_2, hx321_3, hx321_4⟩ := at_T32 HR0_0.out x4_1 p321 q321
       (try rw [← Nbq10.out] at hx321_3)
       (try rw [← Nbq10.out] at hx321_4)
       obtain rfl : ad320 = ad321 := (by injection e321)
       try replace hx321_0 := (HB.out.cell (World.block_lt_of_cell? w _ hx321_0)).trans hx321_0
       try replace hx321_1 := (HB.out.cell (World.block_lt_of_cell? w _ hx321_1)).trans hx321_1
       try replace hx321_2 := (HB.out.cell (World.block_lt_of_cell? w _ hx321_2)).trans hx321_2
       try replace hx321_3 := (HB.out.cell (World.block_lt_of_cell? w _ hx321_3)).trans hx321_3
       try replace hx321_4 := (HB.out.cell (World.block_lt_of_cell? w _ hx321_4)).trans hx321_4
       replace p321 := eq_true p321
       replace q321 := eq_true q321
       go_wp2_with (first | ((with_reducible refine gate_builtin (b := .append) (xs := #[.tmp 30, .tmp 32]) rfl ?_); at_builtin; refine Kd.R_append (Kd.int .i64) (w0 := w) w.heap.size rfl (.tmp 30) (.tmp 32) 26 3 (.int .i64 0) 8 rfl Try.underlying26 info3 rfl (by decide) (by omega) u3 x3_1 x4_1 [.int .i64 x4_1] (fun _ => True) (fun _ => False) rfl rfl ?aP (fun _ hk => hk.elim) ?aF ?aO ?aB ?aS ?aL ?_; (case aP => exact rfl); (case aB => exact (by repeat (first | (with_reducible first | exact HB.out | apply bA | apply bN | apply bD | refine below_set ?_ GE318.out) | exact HB.out))); (case aF => exact (fun _ _ => trivial)); (case aO => exact (R_mv HO_3.out)); (case aS => exact (below_size (by repeat (first | (with_reducible first | exact HB.out | apply bA | apply bN | apply bD | refine below_set ?_ GE318.out) | exact HB.out)))); (case aL => have := LMc12.out; omega); intro v323 w14 ho hb hg hat; rw [← Ny322.out] at ho; have n0_ := aM (blk_grown (blk_mv BK318.out) hg (Kd.R_ne HO_3.out BK318.out (by decide))); have n1_ := aM (hb); have n2_ := aM (ho); clear BK318; clear HB; clear HO_3; have BK318 := n0_; have HB := n1_; have HO324 := n2_; clear n0_ n1_ n2_; clear ho hb hg hat))
       go_roundg k1
       case measure => have := HK1.out; omega
       case rel => exact ⟨(y322), (wrap64 (x4_1 + 1)), (by first | rfl | (simp; done) | (simp [*]; done)), H', ⟨by have := HK1.out; omega⟩, ⟨by (with_reducible repeat (first | apply Kd.R_alloc | apply Kd.R_drewN | apply Kd.R_drew)); exact HO324.out⟩, ⟨blk_mv BK318.out⟩, ⟨by repeat (first | (with_reducible first | exact HB.out | apply bA | apply bN | apply bD | refine below_set ?_ GE318.out) | exact HB.out)⟩⟩
      replace c11 := Bool.eq_false_iff.mpr c11
      subst c11
      have H1 : (minecontrolref18_Failed.l0 k1 x3_1 (wrap64 (x4_1 + 1)) l0_0 l0_1 a0_2) = some r := by rw [if_neg (show ¬ (false = true) by decide)] at H; exact H
      clear H
      have H := H1
      clear H1
      have H' := aM H
      clear H
      obtain ⟨hcz15_0, hcz15_1, hcz15_2, hfz15_0, hfz15_1, hfz15_2⟩ := blk3 BK318.out
      have p320 : 0 ≤ (x4_1 : Int) := of_decide_eq_true (by first | (with_reducible assumption) | assumption)
      have q320 : x4_1 < (l0_0.length : Int) := of_decide_eq_true (by first | (with_reducible assumption) | assumption)
      obtain ⟨ad320, e320, hx320_0, hx320_1, hx320_2, hx320_3, hx320_4⟩ := at_T32 HR0_0.out x4_1 p320 q320
      (try rw [← Nbq10.out] at hx320_3)
      (try rw [← Nbq10.out] at hx320_4)
      cases e320
      try replace hx320_0 := (HB.out.cell (World.block_lt_of_cell? w _ hx320_0)).trans hx320_0
      try replace hx320_1 := (HB.out.cell (World.block_lt_of_cell? w _ hx320_1)).trans hx320_1
      try replace hx320_2 := (HB.out.cell (World.block_lt_of_cell? w _ hx320_2)).trans hx320_2
      try replace hx320_3 := (HB.out.cell (World.block_lt_of_cell? w _ hx320_3)).trans hx320_3
      try replace hx320_4 := (HB.out.cell (World.block_lt_of_cell? w _ hx320_4)).trans hx320_4
      replace p320 := eq_true p320
      replace q320 := eq_true q320
      have p321 : 0 ≤ (x4_1 : Int) := of_decide_eq_true (by first | (with_reducible assumption) | assumption)
      have q321 : x4_1 < (l0_0.length : Int) := of_decide_eq_true (by first | (with_reducible assumption) | assumption)
      obtain ⟨ad321, e321, hx321_0, hx321_1, hx321_2, hx321_3, hx321_4⟩ := at_T32 HR0_0.out x4_1 p321 q321
      (try rw [← Nbq10.out] at hx321_3)
      (try rw [← Nbq10.out] at hx321_4)
      obtain rfl : ad320 = ad321 := (by injection e321)
      try replace hx321_0 := (HB.out.cell (World.block_lt_of_cell? w _ hx321_0)).trans hx321_0
      try replace hx321_1 := (HB.out.cell (World.block_lt_of_cell? w _ hx321_1)).trans hx321_1
      try replace hx321_2 := (HB.out.cell (World.block_lt_of_cell? w _ hx321_2)).trans hx321_2
      try replace hx321_3 := (HB.out.cell (World.block_lt_of_cell? w _ hx321_3)).trans hx321_3
      try replace hx321_4 := (HB.out.cell (World.block_lt_of_cell? w _ hx321_4)).trans hx321_4
      replace p321 := eq_true p321
      replace q321 := eq_true q321
      go_wp2
      go_roundg k1
      case measure => have := HK1.out; omega
      case rel => exact ⟨(x3_1), (wrap64 (x4_1 + 1)), (by first | rfl | (simp; done) | (simp [*]; done)), H', ⟨by have := HK1.out; omega⟩, ⟨by (with_reducible repeat (first | apply Kd.R_alloc | apply Kd.R_drewN | apply Kd.R_drew)); exact HO_3.out⟩, ⟨blk_mv BK318.out⟩, ⟨by repeat (first | (with_reducible first | exact HB.out | apply bA | apply bN | apply bD | refine below_set ?_ GE318.out) | exact HB.out)⟩⟩
     rw [if_neg c9] at H
     have c9b0 : (((rd_T32 l0_0 x4_1).f0) == (-1)) = false := beq_eq_false_iff_ne.mpr c9
     have c9b1 : (((rd_T32 l0_0 x4_1).f0) != (-1)) = true := bne_iff_ne.mpr c9
     have H' := aM H
     clear H
     obtain ⟨hcz16_0, hcz16_1, hcz16_2, hfz16_0, hfz16_1, hfz16_2⟩ := blk3 BK318.out
     have p320 : 0 ≤ (x4_1 : Int) := of_decide_eq_true (by first | (with_reducible assumption) | assumption)
     have q320 : x4_1 < (l0_0.length : Int) := of_decide_eq_true (by first | (with_reducible assumption) | assumption)
     obtain ⟨ad320, e320, hx320_0, hx320_1, hx320_2, hx320_3, hx320_4⟩ := at_T32 HR0_0.out x4_1 p320 q320
     cases e320
     try replace hx320_0 := (HB.out.cell (World.block_lt_of_cell? w _ hx320_0)).trans hx320_0
     try replace hx320_1 := (HB.out.cell (World.block_lt_of_cell? w _ hx320_1)).trans hx320_1
     try replace hx320_2 := (HB.out.cell (World.block_lt_of_cell? w _ hx320_2)).trans hx320_2
     try replace hx320_3 := (HB.out.cell (World.block_lt_of_cell? w _ hx320_3)).trans hx320_3
     try replace hx320_4 := (HB.out.cell (World.block_lt_of_cell? w _ hx320_4)).trans hx320_4
     replace p320 := eq_true p320
     replace q320 := eq_true q320
     go_wp2
     go_roundg k1
     case measure => have := HK1.out; omega
     case rel => exact ⟨(x3_1), (wrap64 (x4_1 + 1)), (by first | rfl | (simp; done) | (simp [*]; done)), H', ⟨by have := HK1.out; omega⟩, ⟨by (with_reducible repeat (first | apply Kd.R_alloc | apply Kd.R_drewN | apply Kd.R_drew)); exact HO_3.out⟩, ⟨blk_mv BK318.out⟩, ⟨by repeat (first | (with_reducible first | exact HB.out | apply bA | apply bN | apply bD | refine below_set ?_ GE318.out) | exact HB.out)⟩⟩
    rw [if_neg c7] at H
    have c7b0 : decide (x4_1 < (l0_0.length : Int)) = false := decide_eq_false c7
    clear c7
    obtain rfl := Option.some.inj H
    obtain ⟨hcz17_0, hcz17_1, hcz17_2, hfz17_0, hfz17_1, hfz17_2⟩ := blk3 BK318.out
    go_wp2
    go_ret
    exact ⟨_, by first | rfl | (simp [errW_none, errW_some] <;> rfl) | (simp [*, errW_none, errW_some] <;> rfl), by (with_reducible repeat (first | apply Kd.R_alloc | apply Kd.R_drewN | apply Kd.R_drew)); exact HO_3.out, by repeat (first | (with_reducible first | exact HB.out | apply bA | apply bN | apply bD | refine below_set ?_ GE318.out) | exact HB.out)⟩
 rw [if_neg c3] at H
 have c3b0 : (t319 == 0) = false := beq_eq_false_iff_ne.mpr c3
 have c3b1 : (t319 != 0) = true := bne_iff_ne.mpr c3
 obtain rfl := Option.some.inj H
 go_enter Try.func32, Try.ntmps32
 go_wp2_with (first | ((with_reducible refine gate_dst (N := 1) rfl ?_); refine box_event ?hg (N := 1) ?hd (cs := #[.slice A0_0 l0_0.length c0_0, .slice A0_1 l0_1.length c0_1, .int .i64 a0_2]) (t := 28) ?hr ?_; (case hd => rfl); (case hg => rfl); (case hr => first | (go_simp; done) | (go_simp; rfl)); intro gb318 hg w18 hbox hb; have BK318 := aM (hbox); have GW318 := aM ((by rw [hg]; exact (below_size (below_mv HB.out)) : w.heap.size ≤ gb318)); have GE318 := aM ((by rw [hg]; exact (below_size (below_mv HB.out)) : w.heap.size ≤ gb318)); replace HB := aM (below_step (below_mv HB.out) hb); clear hb hbox hg; obtain ⟨hcz19_0, hcz19_1, hcz19_2, hfz19_0, hfz19_1, hfz19_2⟩ := blk3 BK318.out) | ((with_reducible refine gate_callee (f := 26) rfl ?_); refine goesL_ (some 6) rfl rfl Try.func26 (by kernel_rfl) rfl #[.agg #[.slice A0_0 l0_0.length c0_0, .slice A0_1 l0_1.length c0_1, .int .i64 a0_2]] rfl (by first | rfl | (simp only [List.map_toArray, List.map_cons, List.map_nil, List.length_drop, List.length_take]; rfl)) ?_; (with_reducible refine (minecontrolref18_Check.calls k _ _ l0_0 _ _ l0_1 a0_2 t319 _ ?side1 ?side2 ?side3 ?side4 A2.out).mono ?_); (case side1 => first | exact C_mv (Kd.C_below HR0_0.out HB.out) | exact C_mv HR0_0.out); (case side2 => exact HC0_0.out); (case side3 => first | exact C_mv (Kd.C_below HR0_1.out HB.out) | exact C_mv HR0_1.out); (case side4 => exact HC0_1.out); rintro e w20 ⟨rfl, hb⟩; refine ⟨_, rfl, ?_⟩; replace BK318 := aM (blk_below (blk_mv BK318.out) hb); replace HB := aM (below_step (by repeat (first | (with_reducible first | exact HB.out | apply bA | apply bN | apply bD | refine below_set ?_ GE318.out) | exact HB.out)) hb); (try clear hb); (try clear hb2); (try clear hge); (try clear hk); (try clear hi)))
 go_ret
 exact ⟨_, by first | rfl | (simp [errW_none, errW_some] <;> rfl) | (simp [*, errW_none, errW_some] <;> rfl), by first | exact Kd.R_nil _ _ _ _ _ | exact Kd.N_nil _ _ _ _ _ | exact Kd.V_nil _ _ _ _ _ | exact Kd.Q_nil _ _ _ _ _ | exact Kd.S_nil _ _ _ _ _, by repeat (first | (with_reducible first | exact HB.out | apply bA | apply bN | apply bD | refine below_set ?_ GE318.out) | exact HB.out)⟩

end Go.Proofs.Ytcgeflbifbaecaa.PFek
