/- Functions of the given program as Lean functions, and proofs that its calls come to what these say. Written by a program of this seat (wip/mkprint.py); Lean checks it all. -/
import Derived.Test.YtcgeflbifbaecaaPFetx0
import Derived.Test.YtcgeflbifbaecaaPFetx4
import Derived.Test.YtcgeflbifbaecaaPFetx5
namespace Go.Proofs.Ytcgeflbifbaecaa.PFet
open Go.RowKit Go.Proofs.YtcgeflbifbaecaaW.PrintWords Go.Proofs.YtcgeflbifbaecaaW.PrintLast Go.Proofs.YtcgeflbifbaecaaW.PrintMore
attribute [local go_sem] max2_int min2_int max_two min_two max_three min_three max_four min_four   -- for this text's walks alone
set_option linter.unusedVariables false
set_option linter.unusedSimpArgs false

/-! ### feeder_Answer: function 27 -/
def feeder_Answer.j0 : Nat → Int → Int → Bool → List (S32) → List Int → Int → Option ((List (S32)) × List Int × Int × Int)
 | 0, _, _, _, _, _, _ => none
 | k + 1, x1, x2, x24, x273000, x273001, x273002 => if x24 = true then (some (([] : List (S32)), ([] : List Int), 0, 16)) else (if x2 = 1 then ((feeder_clone.f x273000 x273001 x273002).bind fun bt275 => (if 0 ≤ x1 then (if x1 < (bt275.1.length : Int) then ((some (bt275.1.set (x1 : Int).toNat (⟨(rd_T32 bt275.1 x1).f0, (rd_T32 bt275.1 x1).f1, x2, (rd_T32 bt275.1 x1).f3, (rd_T32 bt275.1 x1).f4⟩ : S32) : List (S32))).bind fun y283 => (if (rd_T32 y283 x1).f4 = true then (some ((y283.set (x1 : Int).toNat (⟨(rd_T32 y283 x1).f0, (rd_T32 y283 x1).f1, (rd_T32 y283 x1).f2, (rd_T32 y283 x1).f3, (x2 != (-1))⟩ : S32)), bt275.2.1, bt275.2.2, 0)) else (some ((y283.set (x1 : Int).toNat (⟨(rd_T32 y283 x1).f0, (rd_T32 y283 x1).f1, (rd_T32 y283 x1).f2, (rd_T32 y283 x1).f3, false⟩ : S32)), bt275.2.1, bt275.2.2, 0)))) else (none)) else (none))) else (if x2 = (-1) then ((feeder_clone.f x273000 x273001 x273002).bind fun bt287 => (if 0 ≤ x1 then (if x1 < (bt287.1.length : Int) then ((some (bt287.1.set (x1 : Int).toNat (⟨(rd_T32 bt287.1 x1).f0, (rd_T32 bt287.1 x1).f1, x2, (rd_T32 bt287.1 x1).f3, (rd_T32 bt287.1 x1).f4⟩ : S32) : List (S32))).bind fun y295 => (if (rd_T32 y295 x1).f4 = true then (some ((y295.set (x1 : Int).toNat (⟨(rd_T32 y295 x1).f0, (rd_T32 y295 x1).f1, (rd_T32 y295 x1).f2, (rd_T32 y295 x1).f3, (x2 != (-1))⟩ : S32)), bt287.2.1, bt287.2.2, 0)) else (some ((y295.set (x1 : Int).toNat (⟨(rd_T32 y295 x1).f0, (rd_T32 y295 x1).f1, (rd_T32 y295 x1).f2, (rd_T32 y295 x1).f3, false⟩ : S32)), bt287.2.1, bt287.2.2, 0)))) else (none)) else (none))) else (some (([] : List (S32)), ([] : List Int), 0, 10))))
def feeder_Answer.f (k : Nat) (l0_0 : List (S32)) (l0_1 : List Int) (a0_2 : Int) (a1 : Int) (a2 : Int) : Option ((List (S32)) × List Int × Int × Int) := (feeder_Check.f k l0_0 l0_1 a0_2).bind fun t274 => (if t274 = 0 then (if a1 < 0 then (feeder_Answer.j0 k a1 a2 true l0_0 l0_1 a0_2) else (feeder_Answer.j0 k a1 a2 (decide (a1 ≥ (l0_0.length : Int))) l0_0 l0_1 a0_2)) else (some (([] : List (S32)), ([] : List Int), 0, t274)))
theorem feeder_Answer.mono_l : ∀ k, (∀ y0 y1 y2 y3 y4 y5, LeO (feeder_Answer.j0 k y0 y1 y2 y3 y4 y5) (feeder_Answer.j0 (k + 1) y0 y1 y2 y3 y4 y5))
 | 0 => fun _ _ _ _ _ _ r h => by simp [feeder_Answer.j0] at h
 | k + 1 => by
  have ih0 := feeder_Answer.mono_l k
  intro y0 y1 y2 y3 y4 y5
  unfold feeder_Answer.j0
  repeat' first
  | (with_reducible exact ih0 _ _ _ _ _ _)
  | (with_reducible exact feeder_Check.mono _ _ _ _)
  | (with_reducible exact LeO.refl _)
  | (with_reducible exact LeO.none _)
  | (with_reducible refine LeO.ite ?_ ?_)
  | (with_reducible refine LeO.bind ?_ (fun _ => ?_))
  | exact ih0 _ _ _ _ _ _
  | exact LeO.none _
  | refine LeO.ite ?_ ?_
  | refine LeO.bind ?_ (fun _ => ?_)
theorem feeder_Answer.mono : ∀ a0 a1 a2 a3 a4 k, LeO (feeder_Answer.f k a0 a1 a2 a3 a4) (feeder_Answer.f (k + 1) a0 a1 a2 a3 a4) := by
 intro a0 a1 a2 a3 a4 k
 have ih0 := feeder_Answer.mono_l k
 unfold feeder_Answer.f
 repeat' first
   | (with_reducible exact ih0 _ _ _ _ _ _)
   | (with_reducible exact feeder_Check.mono _ _ _ _)
   | (with_reducible exact LeO.refl _)
   | (with_reducible exact LeO.none _)
   | (with_reducible refine LeO.ite ?_ ?_)
   | (with_reducible refine LeO.bind ?_ (fun _ => ?_))
   | exact ih0 _ _ _ _ _ _
   | exact LeO.none _
   | refine LeO.ite ?_ ?_
   | refine LeO.bind ?_ (fun _ => ?_)
def feeder_Answer.T10 : Bool × List (List Nat × List Nat) := (true, [([], []), ([0], [0]), ([], []), ([], []), ([3], [3]), ([], []), ([4, 5], [4, 5]), ([6], [6]), ([7], [7]), ([8], [8]), ([9], [9]), ([10, 9], [9, 10]), ([9, 11], [9, 11]), ([1, 2, 0, 1, 2, 3, 4, 5, 6, 7, 8, 9, 10, 11, 12], [1, 2]), ([13, 0, 1, 2, 3, 4, 5, 6, 7, 8, 9, 10, 11, 12], [13]), ([14, 12, 9, 0, 1, 2, 3, 4, 5, 6, 7, 8, 9, 10, 11, 12], [12, 14])])
def feeder_Answer.B10 : List Nat := [0, 1, 0, 0, 8, 0, 56, 120, 248, 504, 1016, 2040, 4088, 8191, 16383, 32767]
theorem feeder_Answer.tab10 : rtab .any (opsOf Try.f27 10) = feeder_Answer.T10 := by kernel_rfl
theorem feeder_Answer.bits10 : waitsOk feeder_Answer.T10.2 feeder_Answer.B10 = true := by kernel_rfl
set_option maxHeartbeats 8000000 in
set_option maxRecDepth 100000 in
theorem feeder_Answer.calls (k : Nat) (A0_0 : Option Addr) (c0_0 : Nat) (l0_0 : List (S32)) (A0_1 : Option Addr) (c0_1 : Nat) (l0_1 : List Int) (a0_2 : Int) (a1 : Int) (a2 : Int) (r1 : List (S32)) (r2 : List Int) (r3 : Int) (r4 : Int) (w : World) (hr0_0 : Kd.C k32 w A0_0 l0_0.length l0_0) (hc0_0 : l0_0.length ≤ c0_0) (hr0_1 : Kd.C (Kd.int .i64) w A0_1 l0_1.length l0_1) (hc0_1 : l0_1.length ≤ c0_1) (h : feeder_Answer.f k l0_0 l0_1 a0_2 a1 a2 = some (r1, r2, r3, r4)) :
  Calls Try.prog 27 #[.agg #[.slice A0_0 l0_0.length c0_0, .slice A0_1 l0_1.length c0_1, .int .i64 a0_2], .int .i64 a1, .int .i64 a2] w fun e w' => ∃ v0_ v1_ : Value, e = .returned (.tuple #[.agg #[v0_, v1_, .int .i64 r3], .int .i64 r4]) ∧ Kd.R k32 32 w' w.heap.size (fun _ => True) v0_ r1 ∧ Kd.R (Kd.int .i64) 3 w' w.heap.size (fun _ => True) v1_ r2 ∧ Below w.heap.size w w' := by
 have hu28 := Try.underlying28
 have HR0_0 := aM hr0_0
 have HC0_0 := aM hc0_0
 clear hr0_0 hc0_0
 have HR0_1 := aM hr0_1
 have HC0_1 := aM hc0_1
 clear hr0_1 hc0_1
 have HB := aM (Below.refl w.heap.size w)
 have H : ((feeder_Check.f k l0_0 l0_1 a0_2).bind fun t274 => (if t274 = 0 then (if a1 < 0 then (feeder_Answer.j0 k a1 a2 true l0_0 l0_1 a0_2) else (feeder_Answer.j0 k a1 a2 (decide (a1 ≥ (l0_0.length : Int))) l0_0 l0_1 a0_2)) else (some (([] : List (S32)), ([] : List Int), 0, t274)))) = some (r1, r2, r3, r4) := h
 clear h
 replace H := Option.bind_eq_some_iff.mp H
 obtain ⟨t274, A40, H⟩ := H
 replace H : (if t274 = 0 then (if a1 < 0 then (feeder_Answer.j0 k a1 a2 true l0_0 l0_1 a0_2) else (feeder_Answer.j0 k a1 a2 (decide (a1 ≥ (l0_0.length : Int))) l0_0 l0_1 a0_2)) else (some (([] : List (S32)), ([] : List Int), 0, t274))) = some (r1, r2, r3, r4) := H
 have A4 := aM A40
 clear A40
 by_cases c5 : t274 = 0
 ·
  rw [if_pos c5] at H
  have c5b0 : (t274 == 0) = true := beq_iff_eq.mpr c5
  have c5b1 : (t274 != 0) = false := bne_eq_false_iff_eq.mpr c5
  clear c5
  have HC6 := aM H
  clear H
  go_enter Try.func27, Try.ntmps27
  go_upto_region 4 with (first | ((with_reducible refine gate_dst (N := 3) rfl ?_); (try (refine gate_guard (by rfl) ?_; dsimp only)); refine box_event ?hg (N := 3) ?hd (cs := #[.slice A0_0 l0_0.length c0_0, .slice A0_1 l0_1.length c0_1, .int .i64 a0_2]) (t := 28) ?hr ?_; (case hd => rfl); (case hg => rfl); (case hr => first | (go_simp; done) | (go_simp; rfl)); intro gb272 hg w7 hbox hb; have BK272 := aM (hbox); have GW272 := aM ((by rw [hg]; exact (below_size (below_mv HB.out)) : w.heap.size ≤ gb272)); have GE272 := aM ((by rw [hg]; exact (below_size (below_mv HB.out)) : w.heap.size ≤ gb272)); replace HB := aM (below_step (below_mv HB.out) hb); clear hb hbox hg) | ((with_reducible refine gate_dst (N := 6) rfl ?_); (try (refine gate_guard (by rfl) ?_; dsimp only)); refine box_event ?hg (N := 6) ?hd (cs := #[.slice none 0 0, .slice none 0 0, .int .i64 0]) (t := 28) ?hr ?_; (case hd => rfl); (case hg => rfl); (case hr => first | (go_simp; done) | (go_simp; rfl)); intro gb273 hg w8 hbox hb; have BK273 := aM (hbox); have GW273 := aM ((by rw [hg]; exact (below_size (by repeat (first | (with_reducible first | exact HB.out | apply bA | apply bN | apply bD | refine below_set ?_ GE272.out) | exact HB.out))) : w.heap.size ≤ gb273)); have GE273 := aM ((by rw [hg]; exact (below_size (by repeat (first | (with_reducible first | exact HB.out | apply bA | apply bN | apply bD | refine below_set ?_ GE272.out) | exact HB.out))) : w.heap.size ≤ gb273)); replace HB := aM (below_step (by repeat (first | (with_reducible first | exact HB.out | apply bA | apply bN | apply bD | refine below_set ?_ GE272.out) | exact HB.out)) hb); have NB272_273 := aM ((by rw [hg]; exact Nat.ne_of_lt (blk_lt (blk_mv BK272.out)) : gb272 ≠ gb273)); have NB273_272 := aM ((by rw [hg]; exact Nat.ne_of_gt (blk_lt (blk_mv BK272.out)) : gb273 ≠ gb272)); replace BK272 := aM (blk_below (blk_mv BK272.out) hb); clear hb hbox hg; have hnb9 := NB272_273.out; have hnc9 := NB273_272.out; obtain ⟨hcz10_0, hcz10_1, hcz10_2, hfz10_0, hfz10_1, hfz10_2⟩ := blk3 BK272.out) | ((with_reducible refine gate_callee (f := 23) rfl ?_); refine goesL_ (some 11) rfl rfl Try.func23 (by kernel_rfl) rfl #[.agg #[.slice A0_0 l0_0.length c0_0, .slice A0_1 l0_1.length c0_1, .int .i64 a0_2]] rfl (by first | rfl | (simp only [List.map_toArray, List.map_cons, List.map_nil, List.length_drop, List.length_take]; try rfl)) ?_; (with_reducible refine (feeder_Check.calls k _ _ l0_0 _ _ l0_1 a0_2 t274 _ ?side1 ?side2 ?side3 ?side4 A4.out).mono ?_); (case side1 => first | exact C_mv (Kd.C_below HR0_0.out HB.out) | exact C_mv HR0_0.out); (case side2 => exact HC0_0.out); (case side3 => first | exact C_mv (Kd.C_below HR0_1.out HB.out) | exact C_mv HR0_1.out); (case side4 => exact HC0_1.out); rintro e w11 ⟨rfl, hb⟩; refine ⟨_, rfl, ?_⟩; replace BK272 := aM (blk_below (blk_mv BK272.out) hb); replace BK273 := aM (blk_below (blk_mv BK273.out) hb); replace HB := aM (below_step (by repeat (first | (with_reducible first | exact HB.out | apply bA | apply bN | apply bD | refine below_set ?_ GE272.out | refine below_set ?_ GE273.out) | exact HB.out)) hb); (try clear hb); (try clear hb2); (try clear hge); (try clear hk); (try clear hi)))
  (try simp only [Act.put, List.setIfInBounds_toArray, List.set_cons_zero, List.set_cons_succ])
  go_cut [24] (fun v24 wc => ∃ (kq : Nat) (x24_5 : Bool), v24 = .bool x24_5 ∧ Aside0 (feeder_Answer.j0 kq a1 a2 x24_5 l0_0 l0_1 a0_2 = some (r1, r2, r3, r4)) ∧ Aside0 (kq ≤ k) ∧ Aside0 (wc.heap[gb272]? = some (.cells #[(.slice A0_0 l0_0.length c0_0), (.slice A0_1 l0_1.length c0_1), .int .i64 a0_2] 28 (0, 0))) ∧ Aside0 (wc.heap[gb273]? = some (.cells #[(.slice none 0 0), (.slice none 0 0), .int .i64 0] 28 (0, 0))) ∧ Aside0 (Below w.heap.size w wc))
  case first =>
   have H := HC6.out
   clear HC6
   by_cases c12 : a1 < 0
   ·
    rw [if_pos c12] at H
    have c12b0 : decide (a1 < 0) = true := decide_eq_true c12
    clear c12
    (first | rw [c12b0] | (simp only [i64_w, i32_w]; rw [c12b0]) | skip)
    have H' := aM H
    clear H
    go_wp2
    go_meet
    case rel => exact ⟨_, (true), (by first | rfl | (simp; done) | (simp [*]; done)), H', ⟨by first | omega | exact Nat.le_refl _⟩, ⟨blk_mv BK272.out⟩, ⟨blk_mv BK273.out⟩, ⟨by repeat (first | (with_reducible first | exact HB.out | apply bA | apply bN | apply bD | refine below_set ?_ GE272.out | refine below_set ?_ GE273.out) | exact HB.out)⟩⟩
   rw [if_neg c12] at H
   have c12b0 : decide (a1 < 0) = false := decide_eq_false c12
   clear c12
   (first | rw [c12b0] | (simp only [i64_w, i32_w]; rw [c12b0]) | skip)
   have H' := aM H
   clear H
   have hnb13 := NB272_273.out
   have hnc13 := NB273_272.out
   obtain ⟨hcz14_0, hcz14_1, hcz14_2, hfz14_0, hfz14_1, hfz14_2⟩ := blk3 BK272.out
   go_wp2
   go_meet
   case rel => exact ⟨_, (decide (a1 ≥ (l0_0.length : Int))), (by first | rfl | (simp; done) | (simp [*]; done)), H', ⟨by first | omega | exact Nat.le_refl _⟩, ⟨blk_mv BK272.out⟩, ⟨blk_mv BK273.out⟩, ⟨by repeat (first | (with_reducible first | exact HB.out | apply bA | apply bN | apply bD | refine below_set ?_ GE272.out | refine below_set ?_ GE273.out) | exact HB.out)⟩⟩
  case rest =>
   clear HC6
   obtain ⟨kq, x24_5, rfl, HA, HJ5, BK272, BK273, HB⟩ := hcut
   cases kq with
   | zero => exact absurd HA.out (by simp [feeder_Answer.j0])
   | succ kj5 =>
    have H := HA.out
    clear HA
    simp only [feeder_Answer.j0] at H
    by_cases c15 : x24_5 = true
    ·
     subst c15
     have H1 : (some (([] : List (S32)), ([] : List Int), 0, 16)) = some (r1, r2, r3, r4) := by rw [if_pos rfl] at H; exact H
     clear H
     have H := H1
     clear H1
     simp only [Option.some.injEq, Prod.mk.injEq] at H
     obtain ⟨rfl, rfl, rfl, rfl⟩ := H
     have hnb16 := NB273_272.out
     have hnc16 := NB272_273.out
     obtain ⟨hcz17_0, hcz17_1, hcz17_2, hfz17_0, hfz17_1, hfz17_2⟩ := blk3 BK273.out
     go_wp2
     refine bodyPost_ret (results_ct rfl _ _ gb273 28 #[.slice none 0 0, .slice none 0 0, .int .i64 0] (0, 0) _ rfl (by (with_reducible repeat (first | refine kN ?_ _ | refine kD ?_ | refine kA ?_ _)); refine blk_put (cs := #[.slice none 0 0, .slice none 0 0, .int .i64 0]) ?_ 2 _ rfl; (with_reducible repeat (first | refine kN ?_ _ | refine kD ?_ | refine kA ?_ _)); refine blk_put (cs := #[.slice none 0 0, .slice none 0 0, .int .i64 0]) ?_ 1 _ rfl; (with_reducible repeat (first | refine kN ?_ _ | refine kD ?_ | refine kA ?_ _)); refine blk_put (cs := #[.slice none 0 0, .slice none 0 0, .int .i64 0]) ?_ 0 _ rfl; (with_reducible repeat (first | refine kN ?_ _ | refine kD ?_ | refine kA ?_ _)); exact BK273.out) Try.underlying28 rfl (by kernel_rfl)) rfl ?_
     exact ⟨_, _, by first | rfl | (simp [errW_none, errW_some] <;> rfl) | (simp [*, errW_none, errW_some] <;> rfl), by first | exact Kd.R_nil _ _ _ _ _ | exact Kd.N_nil _ _ _ _ _ | exact Kd.V_nil _ _ _ _ _ | exact Kd.Q_nil _ _ _ _ _ | exact Kd.S_nil _ _ _ _ _, by first | exact Kd.R_nil _ _ _ _ _ | exact Kd.N_nil _ _ _ _ _ | exact Kd.V_nil _ _ _ _ _ | exact Kd.Q_nil _ _ _ _ _ | exact Kd.S_nil _ _ _ _ _, by repeat (first | (with_reducible first | exact HB.out | apply bA | apply bN | apply bD | refine below_set ?_ GE272.out | refine below_set ?_ GE273.out) | exact HB.out)⟩
    replace c15 := Bool.eq_false_iff.mpr c15
    subst c15
    have H1 : (if a2 = 1 then ((feeder_clone.f l0_0 l0_1 a0_2).bind fun bt275 => (if 0 ≤ a1 then (if a1 < (bt275.1.length : Int) then ((some (bt275.1.set (a1 : Int).toNat (⟨(rd_T32 bt275.1 a1).f0, (rd_T32 bt275.1 a1).f1, a2, (rd_T32 bt275.1 a1).f3, (rd_T32 bt275.1 a1).f4⟩ : S32) : List (S32))).bind fun y283 => (if (rd_T32 y283 a1).f4 = true then (some ((y283.set (a1 : Int).toNat (⟨(rd_T32 y283 a1).f0, (rd_T32 y283 a1).f1, (rd_T32 y283 a1).f2, (rd_T32 y283 a1).f3, (a2 != (-1))⟩ : S32)), bt275.2.1, bt275.2.2, 0)) else (some ((y283.set (a1 : Int).toNat (⟨(rd_T32 y283 a1).f0, (rd_T32 y283 a1).f1, (rd_T32 y283 a1).f2, (rd_T32 y283 a1).f3, false⟩ : S32)), bt275.2.1, bt275.2.2, 0)))) else (none)) else (none))) else (if a2 = (-1) then ((feeder_clone.f l0_0 l0_1 a0_2).bind fun bt287 => (if 0 ≤ a1 then (if a1 < (bt287.1.length : Int) then ((some (bt287.1.set (a1 : Int).toNat (⟨(rd_T32 bt287.1 a1).f0, (rd_T32 bt287.1 a1).f1, a2, (rd_T32 bt287.1 a1).f3, (rd_T32 bt287.1 a1).f4⟩ : S32) : List (S32))).bind fun y295 => (if (rd_T32 y295 a1).f4 = true then (some ((y295.set (a1 : Int).toNat (⟨(rd_T32 y295 a1).f0, (rd_T32 y295 a1).f1, (rd_T32 y295 a1).f2, (rd_T32 y295 a1).f3, (a2 != (-1))⟩ : S32)), bt287.2.1, bt287.2.2, 0)) else (some ((y295.set (a1 : Int).toNat (⟨(rd_T32 y295 a1).f0, (rd_T32 y295 a1).f1, (rd_T32 y295 a1).f2, (rd_T32 y295 a1).f3, false⟩ : S32)), bt287.2.1, bt287.2.2, 0)))) else (none)) else (none))) else (some (([] : List (S32)), ([] : List Int), 0, 10)))) = some (r1, r2, r3, r4) := by rw [if_neg (show ¬ (false = true) by decide)] at H; exact H
    clear H
    have H := H1
    clear H1
    by_cases c18 : a2 = 1
    ·
     rw [if_pos c18] at H
     have c18b0 : (a2 == 1) = true := beq_iff_eq.mpr c18
     have c18b1 : (a2 != 1) = false := bne_eq_false_iff_eq.mpr c18
     clear c18
     replace H := Option.bind_eq_some_iff.mp H
     obtain ⟨⟨t275, t278, t281⟩, A190, H⟩ := H
     replace H : (if 0 ≤ a1 then (if a1 < (t275.length : Int) then ((some (t275.set (a1 : Int).toNat (⟨(rd_T32 t275 a1).f0, (rd_T32 t275 a1).f1, a2, (rd_T32 t275 a1).f3, (rd_T32 t275 a1).f4⟩ : S32) : List (S32))).bind fun y283 => (if (rd_T32 y283 a1).f4 = true then (some ((y283.set (a1 : Int).toNat (⟨(rd_T32 y283 a1).f0, (rd_T32 y283 a1).f1, (rd_T32 y283 a1).f2, (rd_T32 y283 a1).f3, (a2 != (-1))⟩ : S32)), t278, t281, 0)) else (some ((y283.set (a1 : Int).toNat (⟨(rd_T32 y283 a1).f0, (rd_T32 y283 a1).f1, (rd_T32 y283 a1).f2, (rd_T32 y283 a1).f3, false⟩ : S32)), t278, t281, 0)))) else (none)) else (none)) = some (r1, r2, r3, r4) := H
     have A19 := aM A190
     clear A190
     by_cases c20 : 0 ≤ a1
     rotate_left
     ·
      rw [if_neg c20] at H
      exact absurd H (by simp)
     rw [if_pos c20] at H
     have c20b0 : decide (0 ≤ a1) = true := decide_eq_true c20
     clear c20
     by_cases c21 : a1 < (t275.length : Int)
     rotate_left
     ·
      rw [if_neg c21] at H
      exact absurd H (by simp)
     rw [if_pos c21] at H
     have c21b0 : decide (a1 < (t275.length : Int)) = true := decide_eq_true c21
     clear c21
     obtain ⟨y283, hy283⟩ : ∃ y_ : List (S32), y_ = (t275.set (a1 : Int).toNat (⟨(rd_T32 t275 a1).f0, (rd_T32 t275 a1).f1, a2, (rd_T32 t275 a1).f3, (rd_T32 t275 a1).f4⟩ : S32)) := ⟨_, rfl⟩
     replace H : (if (rd_T32 y283 a1).f4 = true then (some ((y283.set (a1 : Int).toNat (⟨(rd_T32 y283 a1).f0, (rd_T32 y283 a1).f1, (rd_T32 y283 a1).f2, (rd_T32 y283 a1).f3, (a2 != (-1))⟩ : S32)), t278, t281, 0)) else (some ((y283.set (a1 : Int).toNat (⟨(rd_T32 y283 a1).f0, (rd_T32 y283 a1).f1, (rd_T32 y283 a1).f2, (rd_T32 y283 a1).f3, false⟩ : S32)), t278, t281, 0))) = some (r1, r2, r3, r4) := by first | (rw [hy283]; with_reducible exact H) | (have H2_ := (Option.bind_some _ _).symm.trans H; rw [hy283]; with_reducible exact H2_) | (have H2_ := (Option.bind_some _ _).symm.trans H; with_reducible exact H2_) | with_reducible exact H | (rw [hy283]; exact H) | exact H
     have Ny283 := aM hy283
     clear hy283
     obtain ⟨bq23, hbq23⟩ : ∃ b_ : Bool, b_ = ((rd_T32 y283 a1).f4) := ⟨_, rfl⟩
     replace H : (if bq23 = true then (some ((y283.set (a1 : Int).toNat (⟨(rd_T32 y283 a1).f0, (rd_T32 y283 a1).f1, (rd_T32 y283 a1).f2, (rd_T32 y283 a1).f3, (a2 != (-1))⟩ : S32)), t278, t281, 0)) else (some ((y283.set (a1 : Int).toNat (⟨(rd_T32 y283 a1).f0, (rd_T32 y283 a1).f1, (rd_T32 y283 a1).f2, (rd_T32 y283 a1).f3, false⟩ : S32)), t278, t281, 0))) = some (r1, r2, r3, r4) := by rw [← hbq23] at H; exact H
     have Nbq23 := aM hbq23
     clear hbq23
     by_cases c24 : bq23 = true
     ·
      subst c24
      have H1 : (some ((y283.set (a1 : Int).toNat (⟨(rd_T32 y283 a1).f0, (rd_T32 y283 a1).f1, (rd_T32 y283 a1).f2, (rd_T32 y283 a1).f3, (a2 != (-1))⟩ : S32)), t278, t281, 0)) = some (r1, r2, r3, r4) := by rw [if_pos rfl] at H; exact H
      clear H
      have H := H1
      clear H1
      obtain ⟨y285, hy285⟩ : ∃ y_ : List (S32), y_ = (y283.set (a1 : Int).toNat (⟨(rd_T32 y283 a1).f0, (rd_T32 y283 a1).f1, (rd_T32 y283 a1).f2, (rd_T32 y283 a1).f3, (a2 != (-1))⟩ : S32)) := ⟨_, rfl⟩
      replace H : (some (y285, t278, t281, 0)) = some (r1, r2, r3, r4) := by first | (rw [hy285]; with_reducible exact H) | (have H2_ := (Option.bind_some _ _).symm.trans H; rw [hy285]; with_reducible exact H2_) | (have H2_ := (Option.bind_some _ _).symm.trans H; with_reducible exact H2_) | with_reducible exact H | (rw [hy285]; exact H) | exact H
      have Ny285 := aM hy285
      clear hy285
      simp only [Option.some.injEq, Prod.mk.injEq] at H
      obtain ⟨rfl, rfl, rfl, rfl⟩ := H
      have hnb26 := NB272_273.out
      have hnc26 := NB273_272.out
      obtain ⟨hcz27_0, hcz27_1, hcz27_2, hfz27_0, hfz27_1, hfz27_2⟩ := blk3 BK272.out
      try go_wp2_with (first | ((with_reducible refine gate_callee (f := 43) rfl ?_); refine goesL_ (some 34) rfl rfl Try.func43 (by kernel_rfl) rfl #[.agg #[.slice A0_0 l0_0.length c0_0, .slice A0_1 l0_1.length c0_1, .int .i64 a0_2]] rfl (by first | rfl | (simp only [List.map_toArray, List.map_cons, List.map_nil, List.length_drop, List.length_take]; try rfl)) ?_; (with_reducible refine (feeder_clone.calls _ _ l0_0 _ _ l0_1 a0_2 t275 t278 t281 _ ?side1 ?side2 ?side3 ?side4 A19.out).mono ?_); (case side1 => first | exact C_mv (Kd.C_below HR0_0.out HB.out) | exact C_mv HR0_0.out); (case side2 => exact HC0_0.out); (case side3 => first | exact C_mv (Kd.C_below HR0_1.out HB.out) | exact C_mv HR0_1.out); (case side4 => exact HC0_1.out); rintro e w28 ⟨v276, v279, rfl, ho0, ho1, hb⟩; refine ⟨_, rfl, ?_⟩; have HO277 := aM (Kd.R_lower ho0 (below_size (by repeat (first | (with_reducible first | exact HB.out | apply bA | apply bN | apply bD | refine below_set ?_ GE272.out | refine below_set ?_ GE273.out) | exact HB.out)))); have HO280 := aM (Kd.R_lower ho1 (below_size (by repeat (first | (with_reducible first | exact HB.out | apply bA | apply bN | apply bD | refine below_set ?_ GE272.out | refine below_set ?_ GE273.out) | exact HB.out)))); replace BK272 := aM (blk_below (blk_mv BK272.out) hb); replace BK273 := aM (blk_below (blk_mv BK273.out) hb); replace HB := aM (below_step (by repeat (first | (with_reducible first | exact HB.out | apply bA | apply bN | apply bD | refine below_set ?_ GE272.out | refine below_set ?_ GE273.out) | exact HB.out)) hb); (try clear hb); (try clear hb2); (try clear hge); (try clear hk); (try clear hi); (try clear ho0); (try clear ho1)) | ((with_reducible refine gate_dst (N := 9) rfl ?_); (try (refine gate_guard (by rfl) ?_; dsimp only)); refine box_event ?hg (N := 9) ?hd (cs := #[.slice none 0 0, .slice none 0 0, .int .i64 0]) (t := 28) ?hr ?_; (case hd => rfl); (case hg => rfl); (case hr => first | (go_simp; done) | (go_simp; rfl)); intro gb282 hg w29 hbox hb; replace HO277 := aM (Kd.R_below (R_mv HO277.out) hb); replace HO280 := aM (Kd.R_below (R_mv HO280.out) hb); have BK282 := aM (hbox); have GW282 := aM ((by rw [hg]; exact (below_size (by repeat (first | (with_reducible first | exact HB.out | apply bA | apply bN | apply bD | refine below_set ?_ GE272.out | refine below_set ?_ GE273.out) | exact HB.out))) : w.heap.size ≤ gb282)); have GE282 := aM ((by rw [hg]; exact (below_size (by repeat (first | (with_reducible first | exact HB.out | apply bA | apply bN | apply bD | refine below_set ?_ GE272.out | refine below_set ?_ GE273.out) | exact HB.out))) : w.heap.size ≤ gb282)); replace HB := aM (below_step (by repeat (first | (with_reducible first | exact HB.out | apply bA | apply bN | apply bD | refine below_set ?_ GE272.out | refine below_set ?_ GE273.out) | exact HB.out)) hb); have NB272_282 := aM ((by rw [hg]; exact Nat.ne_of_lt (blk_lt (blk_mv BK272.out)) : gb272 ≠ gb282)); have NB282_272 := aM ((by rw [hg]; exact Nat.ne_of_gt (blk_lt (blk_mv BK272.out)) : gb282 ≠ gb272)); replace BK272 := aM (blk_below (blk_mv BK272.out) hb); have NB273_282 := aM ((by rw [hg]; exact Nat.ne_of_lt (blk_lt (blk_mv BK273.out)) : gb273 ≠ gb282)); have NB282_273 := aM ((by rw [hg]; exact Nat.ne_of_gt (blk_lt (blk_mv BK273.out)) : gb282 ≠ gb273)); replace BK273 := aM (blk_below (blk_mv BK273.out) hb); clear hb hbox hg; obtain ⟨Ao30, co30, eo30⟩ := Kd.R_slice HO277.out; subst eo30; have hnb31 := NB282_272.out; have hnc31 := NB272_282.out; have hnb32 := NB282_273.out; have hnc32 := NB273_282.out; obtain ⟨hcz33_0, hcz33_1, hcz33_2, hfz33_0, hfz33_1, hfz33_2⟩ := blk3 BK282.out; obtain ⟨Ao34, co34, eo34⟩ := Kd.R_slice HO280.out; subst eo34) | ((with_reducible refine gate_store (t := 28) (p := 9) rfl ?_); refine store_event (t := 28) (p := 9) (v := ?vo_w35) (w1 := (((w29.setCell ⟨gb282, 0, none⟩ (.slice Ao30 t275.length co30)).setCell ⟨gb282, 1, none⟩ (.slice Ao34 t278.length co34)).setCell ⟨gb282, 2, none⟩ (.int .i64 t281))) ?hg ?ho ?hn ?hr ?_; (case ho => rfl); (case hg => rfl); (case hn => rfl); (case hr => first | (go_simp; done) | (go_simp; rfl)); intro w35 hw; have n0_ : Aside0 (Kd.R k32 32 w35 w.heap.size (fun _ => True) (.slice Ao30 t275.length co30) t275) := ⟨(by rw [hw]; exact (by (with_reducible repeat (first | apply Kd.R_alloc | apply Kd.R_drewN | apply Kd.R_drew)); exact Kd.R_mono (f3 HO277.out BK282.out (by decide)) (fun _ hk => trivial)))⟩; have n1_ : Aside0 (Kd.R (Kd.int .i64) 3 w35 w.heap.size (fun _ => True) (.slice Ao34 t278.length co34) t278) := ⟨(by rw [hw]; exact (by (with_reducible repeat (first | apply Kd.R_alloc | apply Kd.R_drewN | apply Kd.R_drew)); exact Kd.R_mono (f3 HO280.out BK282.out (by decide)) (fun _ hk => trivial)))⟩; have n2_ : Aside0 (w35.heap[gb272]? = some (.cells #[.slice A0_0 l0_0.length c0_0, .slice A0_1 l0_1.length c0_1, .int .i64 a0_2] 28 (0, 0))) := ⟨(by rw [hw]; exact (by (with_reducible repeat (first | refine kN ?_ _ | refine kD ?_ | refine kA ?_ _)); refine blk_far ?_ NB272_282.out _; (with_reducible repeat (first | refine kN ?_ _ | refine kD ?_ | refine kA ?_ _)); refine blk_far ?_ NB272_282.out _; (with_reducible repeat (first | refine kN ?_ _ | refine kD ?_ | refine kA ?_ _)); refine blk_far ?_ NB272_282.out _; (with_reducible repeat (first | refine kN ?_ _ | refine kD ?_ | refine kA ?_ _)); exact BK272.out))⟩; have n3_ : Aside0 (w35.heap[gb273]? = some (.cells #[.slice none 0 0, .slice none 0 0, .int .i64 0] 28 (0, 0))) := ⟨(by rw [hw]; exact (by (with_reducible repeat (first | refine kN ?_ _ | refine kD ?_ | refine kA ?_ _)); refine blk_far ?_ NB273_282.out _; (with_reducible repeat (first | refine kN ?_ _ | refine kD ?_ | refine kA ?_ _)); refine blk_far ?_ NB273_282.out _; (with_reducible repeat (first | refine kN ?_ _ | refine kD ?_ | refine kA ?_ _)); refine blk_far ?_ NB273_282.out _; (with_reducible repeat (first | refine kN ?_ _ | refine kD ?_ | refine kA ?_ _)); exact BK273.out))⟩; have n4_ : Aside0 (w35.heap[gb282]? = some (.cells #[.slice Ao30 t275.length co30, .slice Ao34 t278.length co34, .int .i64 t281] 28 (0, 0))) := ⟨(by rw [hw]; exact (by (with_reducible repeat (first | refine kN ?_ _ | refine kD ?_ | refine kA ?_ _)); refine blk_put (cs := #[.slice Ao30 t275.length co30, .slice Ao34 t278.length co34, .int .i64 0]) ?_ 2 _ rfl; (with_reducible repeat (first | refine kN ?_ _ | refine kD ?_ | refine kA ?_ _)); refine blk_put (cs := #[.slice Ao30 t275.length co30, .slice none 0 0, .int .i64 0]) ?_ 1 _ rfl; (with_reducible repeat (first | refine kN ?_ _ | refine kD ?_ | refine kA ?_ _)); refine blk_put (cs := #[.slice none 0 0, .slice none 0 0, .int .i64 0]) ?_ 0 _ rfl; (with_reducible repeat (first | refine kN ?_ _ | refine kD ?_ | refine kA ?_ _)); exact BK282.out))⟩; have n5_ : Aside0 (Below w.heap.size w w35) := ⟨(by rw [hw]; exact (by repeat (first | (with_reducible first | exact HB.out | apply bA | apply bN | apply bD | refine below_set ?_ GE272.out | refine below_set ?_ GE273.out | refine below_set ?_ GE282.out) | exact HB.out)))⟩; clear hw; clear HO277; clear HO280; clear BK272; clear BK273; clear BK282; clear HB; have HO277 := n0_; have HO280 := n1_; have BK272 := n2_; have BK273 := n3_; have BK282 := n4_; have HB := n5_; clear n0_ n1_ n2_ n3_ n4_ n5_; obtain ⟨hcz36_0, hcz36_1, hcz36_2, hfz36_0, hfz36_1, hfz36_2⟩ := blk3 BK282.out; have p22 : 0 ≤ (a1 : Int) := of_decide_eq_true (by first | (with_reducible assumption) | assumption); have q22 : (a1 : Int) < ((t275.length : Int) : Int) := of_decide_eq_true (by first | (with_reducible assumption) | assumption); obtain ⟨go22, co22, eo22, gb22, gl22, cl22, HG22⟩ := Kd.R_form HO277.out (by omega); (first | cases eo22 | (injection eo22 with ea_ en_ ec_; (first | subst ea_ | (injection ea_ with ea_; subst ea_)); subst ec_; clear en_)); have GB22 := aM gb22; have GG22 := aM HG22; clear gb22 gl22 HG22; obtain ⟨ce22, hcl22, hM22, hcc22, hfr22⟩ := Kd.R_elem HO277.out z32 (a1 : Int) p22 q22; obtain rfl := k32_openM hM22; have hx22_0 : w35.cell? ⟨go22, (a1 : Int).toNat * 5, none⟩ = some (.int .i64 ((rd_T32 t275 a1).f0)) := hcc22 0 _ rfl; have hx22_1 : w35.cell? ⟨go22, (a1 : Int).toNat * 5 + 1, none⟩ = some (.int .i64 ((rd_T32 t275 a1).f1)) := hcc22 1 _ rfl; have hx22_2 : w35.cell? ⟨go22, (a1 : Int).toNat * 5 + 2, none⟩ = some (.int .i64 ((rd_T32 t275 a1).f2)) := hcc22 2 _ rfl; have hx22_3 : w35.cell? ⟨go22, (a1 : Int).toNat * 5 + 3, none⟩ = some (.bool ((rd_T32 t275 a1).f3)) := hcc22 3 _ rfl; have hx22_4 : w35.cell? ⟨go22, (a1 : Int).toNat * 5 + 4, none⟩ = some (.bool ((rd_T32 t275 a1).f4)) := hcc22 4 _ rfl; have hf22_0 : w35.frozen? ⟨go22, (a1 : Int).toNat * 5, none⟩ = false := hfr22 0; have hf22_1 : w35.frozen? ⟨go22, (a1 : Int).toNat * 5 + 1, none⟩ = false := hfr22 1; have hf22_2 : w35.frozen? ⟨go22, (a1 : Int).toNat * 5 + 2, none⟩ = false := hfr22 2; have hf22_3 : w35.frozen? ⟨go22, (a1 : Int).toNat * 5 + 3, none⟩ = false := hfr22 3; have hf22_4 : w35.frozen? ⟨go22, (a1 : Int).toNat * 5 + 4, none⟩ = false := hfr22 4; clear hcl22 hcc22 hfr22 hM22; replace p22 := eq_true p22; replace q22 := eq_true q22; have HX37 := aM (show Kd.R k32 32 w35 w.heap.size (fun _ => True) (.slice (some ⟨go22, 0, none⟩) t275.length co30) t275 from (R_mv HO277.out)); obtain ⟨ce37, hcl37, hM37, hcc37, hfr37⟩ := Kd.R_elem HX37.out z32 (a1 : Int) (of_decide_eq_true (by first | (with_reducible assumption) | assumption)) (by have h_ : (a1 : Int) < ((t275.length : Int) : Int) := of_decide_eq_true (by first | (with_reducible assumption) | assumption); first | exact h_ | (have e_ := (Kd.R_reads' HO277.out).1; omega) | simpa using h_); obtain rfl := k32_openM hM37; have HP37 := Kd.R_seg HX37.out (a1 : Int) (of_decide_eq_true (by first | (with_reducible assumption) | assumption)) (by have h_ : (a1 : Int) < ((t275.length : Int) : Int) := of_decide_eq_true (by first | (with_reducible assumption) | assumption); first | exact h_ | (have e_ := (Kd.R_reads' HO277.out).1; omega) | simpa using h_) (seg := [.int .i64 a2]) (j := 2) hcl37 hcc37 (show 3 ≤ 5 from by decide) (x' := (⟨(rd_T32 t275 a1).f0, (rd_T32 t275 a1).f1, a2, (rd_T32 t275 a1).f3, (rd_T32 t275 a1).f4⟩ : S32)) (k32_mkM _ _ _ (⟨(rd_T32 t275 a1).f0, (rd_T32 t275 a1).f1, a2, (rd_T32 t275 a1).f3, (rd_T32 t275 a1).f4⟩ : S32) ) (fun _ hk => hk); have hx37_2 := hcc37 2 _ rfl; (try simp only [show (k32).sz = 5 from rfl, Nat.mul_one, Nat.add_zero] at hx37_2); have hf37_2 := hfr37 2; (try simp only [show (k32).sz = 5 from rfl, Nat.mul_one, Nat.add_zero] at hf37_2); clear hcl37 hcc37 hfr37 hM37) | ((with_reducible refine gate_store (t := 3) (p := 40) rfl ?_); refine store_event (t := 3) (p := 40) (v := ?vo_w38) (w1 := (w35.setCell ⟨go22, (a1 : Int).toNat * 5 + 2, none⟩ (.int .i64 a2))) ?hg ?ho ?hn ?hr ?_; (case ho => rfl); (case hg => rfl); (case hn => rfl); (case hr => first | (go_simp; done) | (go_simp; rfl)); intro w38 hw; have hg : w35.grownBy w38 (some go22) := (by rw [hw]; exact HP37.2); have hp_ : Kd.R k32 32 w38 w.heap.size (fun _ => True) (.slice (some ⟨go22, 0, none⟩) t275.length co30) y283 := (by rw [hw, Ny283.out]; exact HP37.1); clear HP37; replace BK272 := aM (blk_grown (blk_mv BK272.out) hg (Kd.R_ne HO277.out BK272.out (by decide))); replace BK273 := aM (blk_grown (blk_mv BK273.out) hg (Kd.R_ne HO277.out BK273.out (by decide))); replace HO280 := aM (Kd.R_over' (v := (.slice (some ⟨go22, 0, none⟩) t275.length co30)) (R_mv HO280.out) (Kd.R_typed HO277.out) (by decide) hg); replace BK282 := aM (blk_grown (blk_mv BK282.out) hg (Kd.R_ne HO277.out BK282.out (by decide))); replace HO277 := aM (hp_); replace HB := aM ((by rw [hw]; exact below_set (HB.out) GB22.out : Below w.heap.size w w38)); clear hg hw hp_))
      replace HO277 := aM (Kd.R_drew HO277.out)
      replace HO280 := aM (Kd.R_drew HO280.out)
      replace BK272 := aM (blk_drew BK272.out)
      replace BK273 := aM (blk_drew BK273.out)
      replace BK282 := aM (blk_drew BK282.out)
      replace HB := aM (below_drew1 HB.out)
      have p284 : 0 ≤ (a1 : Int) := of_decide_eq_true (by first | (with_reducible assumption) | assumption)
      have q284 : a1 < (y283.length : Int) := (by have h_ : (a1 : Int) < ((t275.length : Int) : Int) := of_decide_eq_true (by first | (with_reducible assumption) | assumption); first | (have e_ := (Kd.R_reads' HO277.out).1; omega) | simpa only [Ny283.out, List.length_set] using h_)
      have ql284 : ((a1 : Int) < ((t275.length : Int) : Int)) = True := eq_true (of_decide_eq_true (by first | (with_reducible assumption) | assumption))
      obtain ⟨ad284, e284, hx284_0, hx284_1, hx284_2, hx284_3, hx284_4⟩ := at_T32 (Kd.R_reads' HO277.out).2.2 a1 p284 q284
      (try rw [← Nbq23.out] at hx284_3)
      (try rw [← Nbq23.out] at hx284_4)
      obtain rfl : (⟨go22, 0, none⟩ : Addr) = ad284 := (by injection e284)
      (first | simp only [add_plain] at hx284_0 | simp only [add_at] at hx284_0 | simp only [Addr.add, Nat.zero_add] at hx284_0 | skip)
      (first | simp only [add_plain] at hx284_1 | simp only [add_at] at hx284_1 | simp only [Addr.add, Nat.zero_add] at hx284_1 | skip)
      (first | simp only [add_plain] at hx284_2 | simp only [add_at] at hx284_2 | simp only [Addr.add, Nat.zero_add] at hx284_2 | skip)
      (first | simp only [add_plain] at hx284_3 | simp only [add_at] at hx284_3 | simp only [Addr.add, Nat.zero_add] at hx284_3 | skip)
      (first | simp only [add_plain] at hx284_4 | simp only [add_at] at hx284_4 | simp only [Addr.add, Nat.zero_add] at hx284_4 | skip)
      replace p284 := eq_true p284
      replace q284 := eq_true q284
      have p25 : 0 ≤ (a1 : Int) := of_decide_eq_true (by first | (with_reducible assumption) | assumption)
      have q25 : (a1 : Int) < ((t275.length : Int) : Int) := of_decide_eq_true (by first | (with_reducible assumption) | assumption)
      obtain ⟨ce25, hcl25, hM25, hcc25, hfr25⟩ := Kd.R_elem HO277.out z32 (a1 : Int) p25 q25
      obtain rfl := k32_openM hM25
      have hx25_0 : World.cell? _ ⟨go22, (a1 : Int).toNat * 5, none⟩ = some (.int .i64 ((rd_T32 y283 a1).f0)) := hcc25 0 _ rfl
      have hx25_1 : World.cell? _ ⟨go22, (a1 : Int).toNat * 5 + 1, none⟩ = some (.int .i64 ((rd_T32 y283 a1).f1)) := hcc25 1 _ rfl
      have hx25_2 : World.cell? _ ⟨go22, (a1 : Int).toNat * 5 + 2, none⟩ = some (.int .i64 ((rd_T32 y283 a1).f2)) := hcc25 2 _ rfl
      have hx25_3 : World.cell? _ ⟨go22, (a1 : Int).toNat * 5 + 3, none⟩ = some (.bool ((rd_T32 y283 a1).f3)) := hcc25 3 _ rfl
      have hx25_4 : World.cell? _ ⟨go22, (a1 : Int).toNat * 5 + 4, none⟩ = some (.bool ((rd_T32 y283 a1).f4)) := hcc25 4 _ rfl
      have hf25_0 : World.frozen? _ ⟨go22, (a1 : Int).toNat * 5, none⟩ = false := hfr25 0
      have hf25_1 : World.frozen? _ ⟨go22, (a1 : Int).toNat * 5 + 1, none⟩ = false := hfr25 1
      have hf25_2 : World.frozen? _ ⟨go22, (a1 : Int).toNat * 5 + 2, none⟩ = false := hfr25 2
      have hf25_3 : World.frozen? _ ⟨go22, (a1 : Int).toNat * 5 + 3, none⟩ = false := hfr25 3
      have hf25_4 : World.frozen? _ ⟨go22, (a1 : Int).toNat * 5 + 4, none⟩ = false := hfr25 4
      clear hcl25 hcc25 hfr25 hM25
      replace p25 := eq_true p25
      replace q25 := eq_true q25
      obtain ⟨ce40, hcl40, hM40, hcc40, hfr40⟩ := Kd.R_elem HO277.out z32 (a1 : Int) (of_decide_eq_true (by first | (with_reducible assumption) | assumption)) (by have h_ : (a1 : Int) < ((t275.length : Int) : Int) := of_decide_eq_true (by first | (with_reducible assumption) | assumption); first | exact h_ | (have e_ := (Kd.R_reads' HO277.out).1; omega) | simpa using h_)
      obtain rfl := k32_openM hM40
      have HP40 := (Kd.R_seg HO277.out (a1 : Int) (of_decide_eq_true (by first | (with_reducible assumption) | assumption)) (by have h_ : (a1 : Int) < ((t275.length : Int) : Int) := of_decide_eq_true (by first | (with_reducible assumption) | assumption); first | exact h_ | (have e_ := (Kd.R_reads' HO277.out).1; omega) | simpa using h_) (seg := [.bool (a2 != (-1))]) (j := 4) hcl40 hcc40 (show 5 ≤ 5 from by decide) (x' := (⟨(rd_T32 y283 a1).f0, (rd_T32 y283 a1).f1, (rd_T32 y283 a1).f2, (rd_T32 y283 a1).f3, (a2 != (-1))⟩ : S32)) (k32_mkM _ _ _ (⟨(rd_T32 y283 a1).f0, (rd_T32 y283 a1).f1, (rd_T32 y283 a1).f2, (rd_T32 y283 a1).f3, (a2 != (-1))⟩ : S32) ) (fun _ hk => hk)).1
      rw [← Ny285.out] at HP40
      have HQ40 := aM HP40
      clear hcl40 hcc40 hfr40 hM40 HP40
      refine start_ (n := 16) (S := fun w' => w'.cell? ⟨gb282, 0, none⟩ = some (.slice (some ⟨go22, 0, none⟩) t275.length co30) ∧ w'.cell? ⟨gb282, 1, none⟩ = some (.slice Ao34 t278.length co34) ∧ w'.cell? ⟨gb282, 2, none⟩ = some (.int .i64 t281) ∧ w'.cell? ⟨go22, (a1).toNat * 5, none⟩ = some (.int .i64 ((rd_T32 y283 a1).f0)) ∧ w'.cell? ⟨go22, (a1).toNat * 5 + 1, none⟩ = some (.int .i64 ((rd_T32 y283 a1).f1)) ∧ w'.cell? ⟨go22, (a1).toNat * 5 + 2, none⟩ = some (.int .i64 ((rd_T32 y283 a1).f2)) ∧ w'.cell? ⟨go22, (a1).toNat * 5 + 3, none⟩ = some (.bool ((rd_T32 y283 a1).f3)) ∧ w'.cell? ⟨go22, (a1).toNat * 5 + 4, none⟩ = some (.bool true)) (ds := [15]) #[false, false, false, false, false, false, false, false, false, false, false, false, false, false, false, false] (by kernel_rfl) rfl rfl ⟨(blk_cell BK282.out 0).trans rfl, (blk_cell BK282.out 1).trans rfl, (blk_cell BK282.out 2).trans rfl, hx284_0, hx284_1, hx284_2, hx284_3, hx284_4⟩ (fun hHeld => ?_); refine with_tabW feeder_Answer.tab10 feeder_Answer.bits10 (fun HT_ HW_ => ?_)
      generalize w38.drew = w39 at HO277 HO280 BK272 BK273 BK282 HB HQ40 hf25_0 hf25_1 hf25_2 hf25_3 hf25_4 hx25_0 hx25_1 hx25_2 hx25_3 hx25_4 hx284_0 hx284_1 hx284_2 hx284_3 hx284_4 hHeld ⊢
      refine pure_ (i := 0) (N := some 41) (v := ?_) (a' := ?_) #[true, false, false, false, false, false, false, false, false, false, false, false, false, false, false, false] rfl rfl (any_of HT_.out (by kernel_rfl)) (fun _ _ _ h => h) (Or.inl ⟨by rfl, ?_⟩) ?_ ?_
      rotate_left
      ·
       intro w'
       go_simp
       with_reducible rfl
      rotate_left
      ·
       simp only [Act.put, sT, sZ, sS, i64_w, i32_w]
       rfl
      refine pure_ (i := 2) (N := some 43) (v := ?_) (a' := ?_) #[true, false, true, false, false, false, false, false, false, false, false, false, false, false, false, false] rfl rfl (any_of HT_.out (by kernel_rfl)) (fun _ _ _ h => h) (Or.inl ⟨by rfl, ?_⟩) ?_ ?_
      rotate_left
      ·
       intro w'
       go_simp
       with_reducible rfl
      rotate_left
      ·
       simp only [Act.put, sT, sZ, sS, i64_w, i32_w]
       rfl
      refine pure_ (i := 3) (N := some 44) (v := ?_) (a' := ?_) #[true, false, true, true, false, false, false, false, false, false, false, false, false, false, false, false] rfl rfl (any_of HT_.out (by kernel_rfl)) (fun _ _ _ h => h) (Or.inl ⟨by rfl, ?_⟩) ?_ ?_
      rotate_left
      ·
       intro w'
       go_simp
       with_reducible rfl
      rotate_left
      ·
       simp only [Act.put, sT, sZ, sS, i64_w, i32_w]
       rfl
      refine pure_ (i := 5) (N := some 46) (v := ?_) (a' := ?_) #[true, false, true, true, false, true, false, false, false, false, false, false, false, false, false, false] rfl rfl (any_of HT_.out (by kernel_rfl)) (fun _ _ _ h => h) (Or.inl ⟨by rfl, ?_⟩) ?_ ?_
      rotate_left
      ·
       intro w'
       go_simp
       with_reducible rfl
      rotate_left
      ·
       simp only [Act.put, sT, sZ, sS, i64_w, i32_w]
       rfl
      refine take_ (i := 1) (N := some 42) (v := ?_) (a' := ?_) #[true, true, true, true, false, true, false, false, false, false, false, false, false, false, false, false] rfl rfl (take_ofW HT_.out HW_.out (by kernel_rfl)) (fun _ _ _ h => h) (Or.inl ⟨by rfl, ?_⟩) hHeld ?_ ?_
      rotate_left
      ·
       rintro w' ⟨s0, s1, s2, s3, s4, s5, s6, s7⟩
       go_simp
       with_reducible rfl
      rotate_left
      ·
       simp only [Act.put, sT, sZ, sS, i64_w, i32_w]
       rfl
      refine take_ (i := 4) (N := some 45) (v := ?_) (a' := ?_) #[true, true, true, true, true, true, false, false, false, false, false, false, false, false, false, false] rfl rfl (take_ofW HT_.out HW_.out (by kernel_rfl)) (fun _ _ _ h => h) (Or.inl ⟨by rfl, ?_⟩) hHeld ?_ ?_
      rotate_left
      ·
       rintro w' ⟨s0, s1, s2, s3, s4, s5, s6, s7⟩
       go_simp
       with_reducible rfl
      rotate_left
      ·
       simp only [Act.put, sT, sZ, sS, i64_w, i32_w]
       rfl
      refine pure_ (i := 6) (N := some 47) (v := ?_) (a' := ?_) #[true, true, true, true, true, true, true, false, false, false, false, false, false, false, false, false] rfl rfl (any_of HT_.out (by kernel_rfl)) (fun _ _ _ h => h) (Or.inl ⟨by rfl, ?_⟩) ?_ ?_
      rotate_left
      ·
       intro w'
       go_simp
       with_reducible rfl
      rotate_left
      ·
       simp only [Act.put, sT, sZ, sS, i64_w, i32_w]
       rfl
      refine pure_ (i := 7) (N := some 48) (v := ?_) (a' := ?_) #[true, true, true, true, true, true, true, true, false, false, false, false, false, false, false, false] rfl rfl (any_of HT_.out (by kernel_rfl)) (fun _ _ _ h => h) (Or.inl ⟨by rfl, ?_⟩) ?_ ?_
      rotate_left
      ·
       intro w'
       go_simp
       with_reducible rfl
      rotate_left
      ·
       simp only [Act.put, sT, sZ, sS, i64_w, i32_w]
       rfl
      refine take_ (i := 8) (N := some 49) (v := ?_) (a' := ?_) #[true, true, true, true, true, true, true, true, true, false, false, false, false, false, false, false] rfl rfl (take_ofW HT_.out HW_.out (by kernel_rfl)) (fun _ _ _ h => h) (Or.inl ⟨by rfl, ?_⟩) hHeld ?_ ?_
      rotate_left
      ·
       rintro w' ⟨s0, s1, s2, s3, s4, s5, s6, s7⟩
       go_simp
       with_reducible rfl
      rotate_left
      ·
       simp only [Act.put, sT, sZ, sS, i64_w, i32_w]
       rfl
      refine pure_ (i := 9) (N := some 50) (v := ?_) (a' := ?_) #[true, true, true, true, true, true, true, true, true, true, false, false, false, false, false, false] rfl rfl (any_of HT_.out (by kernel_rfl)) (fun _ _ _ h => h) (Or.inl ⟨by rfl, ?_⟩) ?_ ?_
      rotate_left
      ·
       intro w'
       go_simp
       with_reducible rfl
      rotate_left
      ·
       simp only [Act.put, sT, sZ, sS, i64_w, i32_w]
       rfl
      refine pure_ (i := 10) (N := some 51) (v := ?_) (a' := ?_) #[true, true, true, true, true, true, true, true, true, true, true, false, false, false, false, false] rfl rfl (any_of HT_.out (by kernel_rfl)) (fun _ _ _ h => h) (Or.inl ⟨by rfl, ?_⟩) ?_ ?_
      rotate_left
      ·
       intro w'
       go_simp
       with_reducible rfl
      rotate_left
      ·
       simp only [Act.put, sT, sZ, sS, i64_w, i32_w]
       rfl
      refine pure_ (i := 11) (N := some 52) (v := ?_) (a' := ?_) #[true, true, true, true, true, true, true, true, true, true, true, true, false, false, false, false] rfl rfl (any_of HT_.out (by kernel_rfl)) (fun _ _ _ h => h) (Or.inl ⟨by rfl, ?_⟩) ?_ ?_
      rotate_left
      ·
       intro w'
       go_simp
       with_reducible rfl
      rotate_left
      ·
       simp only [Act.put, sT, sZ, sS, i64_w, i32_w]
       rfl
      refine pure_ (i := 12) (N := some 53) (v := ?_) (a' := ?_) #[true, true, true, true, true, true, true, true, true, true, true, true, true, false, false, false] rfl rfl (any_of HT_.out (by kernel_rfl)) (fun _ _ _ h => h) (Or.inl ⟨by rfl, ?_⟩) ?_ ?_
      rotate_left
      ·
       intro w'
       go_simp
       with_reducible rfl
      rotate_left
      ·
       simp only [Act.put, sT, sZ, sS, i64_w, i32_w]
       rfl
      refine pure_ (i := 13) (N := some 54) (v := ?_) (a' := ?_) #[true, true, true, true, true, true, true, true, true, true, true, true, true, true, false, false] rfl rfl (any_of HT_.out (by kernel_rfl)) (fun _ _ _ h => h) (Or.inl ⟨by rfl, ?_⟩) ?_ ?_
      rotate_left
      ·
       intro w'
       go_simp
       with_reducible rfl
      rotate_left
      ·
       simp only [Act.put, sT, sZ, sS, i64_w, i32_w]
       rfl
      refine pure_ (i := 14) (N := some 55) (v := ?_) (a' := ?_) #[true, true, true, true, true, true, true, true, true, true, true, true, true, true, true, false] rfl rfl (any_of HT_.out (by kernel_rfl)) (fun _ _ _ h => h) (Or.inl ⟨by rfl, ?_⟩) ?_ ?_
      rotate_left
      ·
       intro w'
       go_simp
       with_reducible rfl
      rotate_left
      ·
       simp only [Act.put, sT, sZ, sS, i64_w, i32_w]
       rfl
      refine last_ (i := 15) (N := none) #[true, true, true, true, true, true, true, true, true, true, true, true, true, true, true, true] rfl rfl (one_of HT_.out (by kernel_rfl)) (by decide) (fun K hK => ?_)
      refine skip_ (w1 := ?_) (by rfl) rfl ?_ ?_
      rotate_left
      ·
       go_simp
       rfl
      refine hK.out _ _ ?_
      clear hK K
      refine done_ (done_of HT_.out (by kernel_rfl)) ?_
      have n0_ : Aside0 (Kd.R k32 32 (w39.setCell ⟨go22, (a1 : Int).toNat * 5 + 4, none⟩ (.bool (a2 != (-1)))) w.heap.size (fun _ => True) (.slice (some ⟨go22, 0, none⟩) t275.length co30) y285) := ⟨by (with_reducible repeat (first | apply Kd.R_alloc | apply Kd.R_drewN | apply Kd.R_drew)); exact HQ40.out⟩
      have n1_ : Aside0 (Kd.R (Kd.int .i64) 3 (w39.setCell ⟨go22, (a1 : Int).toNat * 5 + 4, none⟩ (.bool (a2 != (-1)))) w.heap.size (fun _ => True) (.slice Ao34 t278.length co34) t278) := ⟨by (with_reducible repeat (first | apply Kd.R_alloc | apply Kd.R_drewN | apply Kd.R_drew)); exact Kd.R_mono (Kd.R_far (p := ⟨go22, (a1 : Int).toNat * 5 + 4, none⟩) (Kd.R_types HO280.out (Kd.R_typed HO277.out _ rfl).choose_spec (by decide)) (fun _ hk => hk.2) (.bool (a2 != (-1)))) (fun _ hk => trivial)⟩
      have n2_ : Aside0 ((w39.setCell ⟨go22, (a1 : Int).toNat * 5 + 4, none⟩ (.bool (a2 != (-1)))).heap[gb272]? = some (.cells #[.slice A0_0 l0_0.length c0_0, .slice A0_1 l0_1.length c0_1, .int .i64 a0_2] 28 (0, 0))) := ⟨by (with_reducible repeat (first | refine kN ?_ _ | refine kD ?_ | refine kA ?_ _)); refine blk_far ?_ (by have h_ := Kd.R_ne HO277.out BK272.out (by decide); intro e_; exact h_ (by rw [e_]; rfl)) _; (with_reducible repeat (first | refine kN ?_ _ | refine kD ?_ | refine kA ?_ _)); exact BK272.out⟩
      have n3_ : Aside0 ((w39.setCell ⟨go22, (a1 : Int).toNat * 5 + 4, none⟩ (.bool (a2 != (-1)))).heap[gb273]? = some (.cells #[.slice none 0 0, .slice none 0 0, .int .i64 0] 28 (0, 0))) := ⟨by (with_reducible repeat (first | refine kN ?_ _ | refine kD ?_ | refine kA ?_ _)); refine blk_far ?_ (by have h_ := Kd.R_ne HO277.out BK273.out (by decide); intro e_; exact h_ (by rw [e_]; rfl)) _; (with_reducible repeat (first | refine kN ?_ _ | refine kD ?_ | refine kA ?_ _)); exact BK273.out⟩
      have n4_ : Aside0 ((w39.setCell ⟨go22, (a1 : Int).toNat * 5 + 4, none⟩ (.bool (a2 != (-1)))).heap[gb282]? = some (.cells #[.slice (some ⟨go22, 0, none⟩) t275.length co30, .slice Ao34 t278.length co34, .int .i64 t281] 28 (0, 0))) := ⟨by (with_reducible repeat (first | refine kN ?_ _ | refine kD ?_ | refine kA ?_ _)); refine blk_far ?_ (by have h_ := Kd.R_ne HO277.out BK282.out (by decide); intro e_; exact h_ (by rw [e_]; rfl)) _; (with_reducible repeat (first | refine kN ?_ _ | refine kD ?_ | refine kA ?_ _)); exact BK282.out⟩
      have n5_ : Aside0 (Below w.heap.size w (w39.setCell ⟨go22, (a1 : Int).toNat * 5 + 4, none⟩ (.bool (a2 != (-1))))) := ⟨by repeat (first | (with_reducible first | exact HB.out | apply bA | apply bN | apply bD | refine below_set ?_ GB22.out | refine below_set ?_ GE272.out | refine below_set ?_ GE273.out | refine below_set ?_ GE282.out) | exact HB.out)⟩
      (try clear HO277)
      (try clear HO280)
      (try clear BK272)
      (try clear BK273)
      (try clear BK282)
      (try clear HB)
      first | (have hbv_ : (a2 != (-1)) = false := (by assumption); rw [hbv_] at n0_ n1_ n2_ n3_ n4_ n5_; generalize (w39.setCell ⟨go22, (a1 : Int).toNat * 5 + 4, none⟩ (.bool false)) = w41 at n0_ n1_ n2_ n3_ n4_ n5_ ⊢) | (have hbv_ : (a2 != (-1)) = true := (by assumption); rw [hbv_] at n0_ n1_ n2_ n3_ n4_ n5_; generalize (w39.setCell ⟨go22, (a1 : Int).toNat * 5 + 4, none⟩ (.bool true)) = w41 at n0_ n1_ n2_ n3_ n4_ n5_ ⊢) | generalize (w39.setCell ⟨go22, (a1 : Int).toNat * 5 + 4, none⟩ (.bool (a2 != (-1)))) = w41 at n0_ n1_ n2_ n3_ n4_ n5_ ⊢
      have HO277 := n0_
      have HO280 := n1_
      have BK272 := n2_
      have BK273 := n3_
      have BK282 := n4_
      have HB := n5_
      clear n0_ n1_ n2_ n3_ n4_ n5_
      obtain ⟨hcz42_0, hcz42_1, hcz42_2, hfz42_0, hfz42_1, hfz42_2⟩ := blk3 BK282.out
      obtain ⟨hcz43_0, hcz43_1, hcz43_2, hfz43_0, hfz43_1, hfz43_2⟩ := blk3 BK273.out
      try go_wp2
      refine bodyPost_ret (results_ct rfl _ _ gb273 28 #[.slice (some ⟨go22, 0, none⟩) t275.length co30, .slice Ao34 t278.length co34, .int .i64 t281] (0, 0) _ rfl (by (with_reducible repeat (first | refine kN ?_ _ | refine kD ?_ | refine kA ?_ _)); refine blk_put (cs := #[.slice (some ⟨go22, 0, none⟩) t275.length co30, .slice Ao34 t278.length co34, .int .i64 0]) ?_ 2 _ rfl; (with_reducible repeat (first | refine kN ?_ _ | refine kD ?_ | refine kA ?_ _)); refine blk_put (cs := #[.slice (some ⟨go22, 0, none⟩) t275.length co30, .slice none 0 0, .int .i64 0]) ?_ 1 _ rfl; (with_reducible repeat (first | refine kN ?_ _ | refine kD ?_ | refine kA ?_ _)); refine blk_put (cs := #[.slice none 0 0, .slice none 0 0, .int .i64 0]) ?_ 0 _ rfl; (with_reducible repeat (first | refine kN ?_ _ | refine kD ?_ | refine kA ?_ _)); exact BK273.out) Try.underlying28 rfl (by kernel_rfl)) rfl ?_
      exact ⟨_, _, by first | rfl | (simp [errW_none, errW_some] <;> rfl) | (simp [*, errW_none, errW_some] <;> rfl), by (with_reducible repeat (first | apply Kd.R_alloc | apply Kd.R_drewN | apply Kd.R_drew)); exact Kd.R_mono (f3 HO277.out BK273.out (by decide)) (fun _ hk => trivial), by (with_reducible repeat (first | apply Kd.R_alloc | apply Kd.R_drewN | apply Kd.R_drew)); exact Kd.R_mono (f3 HO280.out BK273.out (by decide)) (fun _ hk => trivial), by repeat (first | (with_reducible first | exact HB.out | apply bA | apply bN | apply bD | refine below_set ?_ GE272.out | refine below_set ?_ GE273.out | refine below_set ?_ GE282.out) | exact HB.out)⟩
     replace c24 := Bool.eq_false_iff.mpr c24
     subst c24
     have H1 : (some ((y283.set (a1 : Int).toNat (⟨(rd_T32 y283 a1).f0, (rd_T32 y283 a1).f1, (rd_T32 y283 a1).f2, (rd_T32 y283 a1).f3, false⟩ : S32)), t278, t281, 0)) = some (r1, r2, r3, r4) := by rw [if_neg (show ¬ (false = true) by decide)] at H; exact H
     clear H
     have H := H1
     clear H1
     obtain ⟨y286, hy286⟩ : ∃ y_ : List (S32), y_ = (y283.set (a1 : Int).toNat (⟨(rd_T32 y283 a1).f0, (rd_T32 y283 a1).f1, (rd_T32 y283 a1).f2, (rd_T32 y283 a1).f3, false⟩ : S32)) := ⟨_, rfl⟩
     replace H : (some (y286, t278, t281, 0)) = some (r1, r2, r3, r4) := by first | (rw [hy286]; with_reducible exact H) | (have H2_ := (Option.bind_some _ _).symm.trans H; rw [hy286]; with_reducible exact H2_) | (have H2_ := (Option.bind_some _ _).symm.trans H; with_reducible exact H2_) | with_reducible exact H | (rw [hy286]; exact H) | exact H
     have Ny286 := aM hy286
     clear hy286
     simp only [Option.some.injEq, Prod.mk.injEq] at H
     obtain ⟨rfl, rfl, rfl, rfl⟩ := H
     have hnb45 := NB272_273.out
     have hnc45 := NB273_272.out
     obtain ⟨hcz46_0, hcz46_1, hcz46_2, hfz46_0, hfz46_1, hfz46_2⟩ := blk3 BK272.out
     try go_wp2_with (first | ((with_reducible refine gate_callee (f := 43) rfl ?_); refine goesL_ (some 34) rfl rfl Try.func43 (by kernel_rfl) rfl #[.agg #[.slice A0_0 l0_0.length c0_0, .slice A0_1 l0_1.length c0_1, .int .i64 a0_2]] rfl (by first | rfl | (simp only [List.map_toArray, List.map_cons, List.map_nil, List.length_drop, List.length_take]; try rfl)) ?_; (with_reducible refine (feeder_clone.calls _ _ l0_0 _ _ l0_1 a0_2 t275 t278 t281 _ ?side1 ?side2 ?side3 ?side4 A19.out).mono ?_); (case side1 => first | exact C_mv (Kd.C_below HR0_0.out HB.out) | exact C_mv HR0_0.out); (case side2 => exact HC0_0.out); (case side3 => first | exact C_mv (Kd.C_below HR0_1.out HB.out) | exact C_mv HR0_1.out); (case side4 => exact HC0_1.out); rintro e w47 ⟨v276, v279, rfl, ho0, ho1, hb⟩; refine ⟨_, rfl, ?_⟩; have HO277 := aM (Kd.R_lower ho0 (below_size (by repeat (first | (with_reducible first | exact HB.out | apply bA | apply bN | apply bD | refine below_set ?_ GE272.out | refine below_set ?_ GE273.out) | exact HB.out)))); have HO280 := aM (Kd.R_lower ho1 (below_size (by repeat (first | (with_reducible first | exact HB.out | apply bA | apply bN | apply bD | refine below_set ?_ GE272.out | refine below_set ?_ GE273.out) | exact HB.out)))); replace BK272 := aM (blk_below (blk_mv BK272.out) hb); replace BK273 := aM (blk_below (blk_mv BK273.out) hb); replace HB := aM (below_step (by repeat (first | (with_reducible first | exact HB.out | apply bA | apply bN | apply bD | refine below_set ?_ GE272.out | refine below_set ?_ GE273.out) | exact HB.out)) hb); (try clear hb); (try clear hb2); (try clear hge); (try clear hk); (try clear hi); (try clear ho0); (try clear ho1)) | ((with_reducible refine gate_dst (N := 9) rfl ?_); (try (refine gate_guard (by rfl) ?_; dsimp only)); refine box_event ?hg (N := 9) ?hd (cs := #[.slice none 0 0, .slice none 0 0, .int .i64 0]) (t := 28) ?hr ?_; (case hd => rfl); (case hg => rfl); (case hr => first | (go_simp; done) | (go_simp; rfl)); intro gb282 hg w48 hbox hb; replace HO277 := aM (Kd.R_below (R_mv HO277.out) hb); replace HO280 := aM (Kd.R_below (R_mv HO280.out) hb); have BK282 := aM (hbox); have GW282 := aM ((by rw [hg]; exact (below_size (by repeat (first | (with_reducible first | exact HB.out | apply bA | apply bN | apply bD | refine below_set ?_ GE272.out | refine below_set ?_ GE273.out) | exact HB.out))) : w.heap.size ≤ gb282)); have GE282 := aM ((by rw [hg]; exact (below_size (by repeat (first | (with_reducible first | exact HB.out | apply bA | apply bN | apply bD | refine below_set ?_ GE272.out | refine below_set ?_ GE273.out) | exact HB.out))) : w.heap.size ≤ gb282)); replace HB := aM (below_step (by repeat (first | (with_reducible first | exact HB.out | apply bA | apply bN | apply bD | refine below_set ?_ GE272.out | refine below_set ?_ GE273.out) | exact HB.out)) hb); have NB272_282 := aM ((by rw [hg]; exact Nat.ne_of_lt (blk_lt (blk_mv BK272.out)) : gb272 ≠ gb282)); have NB282_272 := aM ((by rw [hg]; exact Nat.ne_of_gt (blk_lt (blk_mv BK272.out)) : gb282 ≠ gb272)); replace BK272 := aM (blk_below (blk_mv BK272.out) hb); have NB273_282 := aM ((by rw [hg]; exact Nat.ne_of_lt (blk_lt (blk_mv BK273.out)) : gb273 ≠ gb282)); have NB282_273 := aM ((by rw [hg]; exact Nat.ne_of_gt (blk_lt (blk_mv BK273.out)) : gb282 ≠ gb273)); replace BK273 := aM (blk_below (blk_mv BK273.out) hb); clear hb hbox hg; obtain ⟨Ao49, co49, eo49⟩ := Kd.R_slice HO277.out; subst eo49; have hnb50 := NB282_272.out; have hnc50 := NB272_282.out; have hnb51 := NB282_273.out; have hnc51 := NB273_282.out; obtain ⟨hcz52_0, hcz52_1, hcz52_2, hfz52_0, hfz52_1, hfz52_2⟩ := blk3 BK282.out; obtain ⟨Ao53, co53, eo53⟩ := Kd.R_slice HO280.out; subst eo53) | ((with_reducible refine gate_store (t := 28) (p := 9) rfl ?_); refine store_event (t := 28) (p := 9) (v := ?vo_w54) (w1 := (((w48.setCell ⟨gb282, 0, none⟩ (.slice Ao49 t275.length co49)).setCell ⟨gb282, 1, none⟩ (.slice Ao53 t278.length co53)).setCell ⟨gb282, 2, none⟩ (.int .i64 t281))) ?hg ?ho ?hn ?hr ?_; (case ho => rfl); (case hg => rfl); (case hn => rfl); (case hr => first | (go_simp; done) | (go_simp; rfl)); intro w54 hw; have n0_ : Aside0 (Kd.R k32 32 w54 w.heap.size (fun _ => True) (.slice Ao49 t275.length co49) t275) := ⟨(by rw [hw]; exact (by (with_reducible repeat (first | apply Kd.R_alloc | apply Kd.R_drewN | apply Kd.R_drew)); exact Kd.R_mono (f3 HO277.out BK282.out (by decide)) (fun _ hk => trivial)))⟩; have n1_ : Aside0 (Kd.R (Kd.int .i64) 3 w54 w.heap.size (fun _ => True) (.slice Ao53 t278.length co53) t278) := ⟨(by rw [hw]; exact (by (with_reducible repeat (first | apply Kd.R_alloc | apply Kd.R_drewN | apply Kd.R_drew)); exact Kd.R_mono (f3 HO280.out BK282.out (by decide)) (fun _ hk => trivial)))⟩; have n2_ : Aside0 (w54.heap[gb272]? = some (.cells #[.slice A0_0 l0_0.length c0_0, .slice A0_1 l0_1.length c0_1, .int .i64 a0_2] 28 (0, 0))) := ⟨(by rw [hw]; exact (by (with_reducible repeat (first | refine kN ?_ _ | refine kD ?_ | refine kA ?_ _)); refine blk_far ?_ NB272_282.out _; (with_reducible repeat (first | refine kN ?_ _ | refine kD ?_ | refine kA ?_ _)); refine blk_far ?_ NB272_282.out _; (with_reducible repeat (first | refine kN ?_ _ | refine kD ?_ | refine kA ?_ _)); refine blk_far ?_ NB272_282.out _; (with_reducible repeat (first | refine kN ?_ _ | refine kD ?_ | refine kA ?_ _)); exact BK272.out))⟩; have n3_ : Aside0 (w54.heap[gb273]? = some (.cells #[.slice none 0 0, .slice none 0 0, .int .i64 0] 28 (0, 0))) := ⟨(by rw [hw]; exact (by (with_reducible repeat (first | refine kN ?_ _ | refine kD ?_ | refine kA ?_ _)); refine blk_far ?_ NB273_282.out _; (with_reducible repeat (first | refine kN ?_ _ | refine kD ?_ | refine kA ?_ _)); refine blk_far ?_ NB273_282.out _; (with_reducible repeat (first | refine kN ?_ _ | refine kD ?_ | refine kA ?_ _)); refine blk_far ?_ NB273_282.out _; (with_reducible repeat (first | refine kN ?_ _ | refine kD ?_ | refine kA ?_ _)); exact BK273.out))⟩; have n4_ : Aside0 (w54.heap[gb282]? = some (.cells #[.slice Ao49 t275.length co49, .slice Ao53 t278.length co53, .int .i64 t281] 28 (0, 0))) := ⟨(by rw [hw]; exact (by (with_reducible repeat (first | refine kN ?_ _ | refine kD ?_ | refine kA ?_ _)); refine blk_put (cs := #[.slice Ao49 t275.length co49, .slice Ao53 t278.length co53, .int .i64 0]) ?_ 2 _ rfl; (with_reducible repeat (first | refine kN ?_ _ | refine kD ?_ | refine kA ?_ _)); refine blk_put (cs := #[.slice Ao49 t275.length co49, .slice none 0 0, .int .i64 0]) ?_ 1 _ rfl; (with_reducible repeat (first | refine kN ?_ _ | refine kD ?_ | refine kA ?_ _)); refine blk_put (cs := #[.slice none 0 0, .slice none 0 0, .int .i64 0]) ?_ 0 _ rfl; (with_reducible repeat (first | refine kN ?_ _ | refine kD ?_ | refine kA ?_ _)); exact BK282.out))⟩; have n5_ : Aside0 (Below w.heap.size w w54) := ⟨(by rw [hw]; exact (by repeat (first | (with_reducible first | exact HB.out | apply bA | apply bN | apply bD | refine below_set ?_ GE272.out | refine below_set ?_ GE273.out | refine below_set ?_ GE282.out) | exact HB.out)))⟩; clear hw; clear HO277; clear HO280; clear BK272; clear BK273; clear BK282; clear HB; have HO277 := n0_; have HO280 := n1_; have BK272 := n2_; have BK273 := n3_; have BK282 := n4_; have HB := n5_; clear n0_ n1_ n2_ n3_ n4_ n5_; obtain ⟨hcz55_0, hcz55_1, hcz55_2, hfz55_0, hfz55_1, hfz55_2⟩ := blk3 BK282.out; have p22 : 0 ≤ (a1 : Int) := of_decide_eq_true (by first | (with_reducible assumption) | assumption); have q22 : (a1 : Int) < ((t275.length : Int) : Int) := of_decide_eq_true (by first | (with_reducible assumption) | assumption); obtain ⟨go22, co22, eo22, gb22, gl22, cl22, HG22⟩ := Kd.R_form HO277.out (by omega); (first | cases eo22 | (injection eo22 with ea_ en_ ec_; (first | subst ea_ | (injection ea_ with ea_; subst ea_)); subst ec_; clear en_)); have GB22 := aM gb22; have GG22 := aM HG22; clear gb22 gl22 HG22; obtain ⟨ce22, hcl22, hM22, hcc22, hfr22⟩ := Kd.R_elem HO277.out z32 (a1 : Int) p22 q22; obtain rfl := k32_openM hM22; have hx22_0 : w54.cell? ⟨go22, (a1 : Int).toNat * 5, none⟩ = some (.int .i64 ((rd_T32 t275 a1).f0)) := hcc22 0 _ rfl; have hx22_1 : w54.cell? ⟨go22, (a1 : Int).toNat * 5 + 1, none⟩ = some (.int .i64 ((rd_T32 t275 a1).f1)) := hcc22 1 _ rfl; have hx22_2 : w54.cell? ⟨go22, (a1 : Int).toNat * 5 + 2, none⟩ = some (.int .i64 ((rd_T32 t275 a1).f2)) := hcc22 2 _ rfl; have hx22_3 : w54.cell? ⟨go22, (a1 : Int).toNat * 5 + 3, none⟩ = some (.bool ((rd_T32 t275 a1).f3)) := hcc22 3 _ rfl; have hx22_4 : w54.cell? ⟨go22, (a1 : Int).toNat * 5 + 4, none⟩ = some (.bool ((rd_T32 t275 a1).f4)) := hcc22 4 _ rfl; have hf22_0 : w54.frozen? ⟨go22, (a1 : Int).toNat * 5, none⟩ = false := hfr22 0; have hf22_1 : w54.frozen? ⟨go22, (a1 : Int).toNat * 5 + 1, none⟩ = false := hfr22 1; have hf22_2 : w54.frozen? ⟨go22, (a1 : Int).toNat * 5 + 2, none⟩ = false := hfr22 2; have hf22_3 : w54.frozen? ⟨go22, (a1 : Int).toNat * 5 + 3, none⟩ = false := hfr22 3; have hf22_4 : w54.frozen? ⟨go22, (a1 : Int).toNat * 5 + 4, none⟩ = false := hfr22 4; clear hcl22 hcc22 hfr22 hM22; replace p22 := eq_true p22; replace q22 := eq_true q22; have HX56 := aM (show Kd.R k32 32 w54 w.heap.size (fun _ => True) (.slice (some ⟨go22, 0, none⟩) t275.length co49) t275 from (R_mv HO277.out)); obtain ⟨ce56, hcl56, hM56, hcc56, hfr56⟩ := Kd.R_elem HX56.out z32 (a1 : Int) (of_decide_eq_true (by first | (with_reducible assumption) | assumption)) (by have h_ : (a1 : Int) < ((t275.length : Int) : Int) := of_decide_eq_true (by first | (with_reducible assumption) | assumption); first | exact h_ | (have e_ := (Kd.R_reads' HO277.out).1; omega) | simpa using h_); obtain rfl := k32_openM hM56; have HP56 := Kd.R_seg HX56.out (a1 : Int) (of_decide_eq_true (by first | (with_reducible assumption) | assumption)) (by have h_ : (a1 : Int) < ((t275.length : Int) : Int) := of_decide_eq_true (by first | (with_reducible assumption) | assumption); first | exact h_ | (have e_ := (Kd.R_reads' HO277.out).1; omega) | simpa using h_) (seg := [.int .i64 a2]) (j := 2) hcl56 hcc56 (show 3 ≤ 5 from by decide) (x' := (⟨(rd_T32 t275 a1).f0, (rd_T32 t275 a1).f1, a2, (rd_T32 t275 a1).f3, (rd_T32 t275 a1).f4⟩ : S32)) (k32_mkM _ _ _ (⟨(rd_T32 t275 a1).f0, (rd_T32 t275 a1).f1, a2, (rd_T32 t275 a1).f3, (rd_T32 t275 a1).f4⟩ : S32) ) (fun _ hk => hk); have hx56_2 := hcc56 2 _ rfl; (try simp only [show (k32).sz = 5 from rfl, Nat.mul_one, Nat.add_zero] at hx56_2); have hf56_2 := hfr56 2; (try simp only [show (k32).sz = 5 from rfl, Nat.mul_one, Nat.add_zero] at hf56_2); clear hcl56 hcc56 hfr56 hM56) | ((with_reducible refine gate_store (t := 3) (p := 40) rfl ?_); refine store_event (t := 3) (p := 40) (v := ?vo_w57) (w1 := (w54.setCell ⟨go22, (a1 : Int).toNat * 5 + 2, none⟩ (.int .i64 a2))) ?hg ?ho ?hn ?hr ?_; (case ho => rfl); (case hg => rfl); (case hn => rfl); (case hr => first | (go_simp; done) | (go_simp; rfl)); intro w57 hw; have hg : w54.grownBy w57 (some go22) := (by rw [hw]; exact HP56.2); have hp_ : Kd.R k32 32 w57 w.heap.size (fun _ => True) (.slice (some ⟨go22, 0, none⟩) t275.length co49) y283 := (by rw [hw, Ny283.out]; exact HP56.1); clear HP56; replace BK272 := aM (blk_grown (blk_mv BK272.out) hg (Kd.R_ne HO277.out BK272.out (by decide))); replace BK273 := aM (blk_grown (blk_mv BK273.out) hg (Kd.R_ne HO277.out BK273.out (by decide))); replace HO280 := aM (Kd.R_over' (v := (.slice (some ⟨go22, 0, none⟩) t275.length co49)) (R_mv HO280.out) (Kd.R_typed HO277.out) (by decide) hg); replace BK282 := aM (blk_grown (blk_mv BK282.out) hg (Kd.R_ne HO277.out BK282.out (by decide))); replace HO277 := aM (hp_); replace HB := aM ((by rw [hw]; exact below_set (HB.out) GB22.out : Below w.heap.size w w57)); clear hg hw hp_))
     replace HO277 := aM (Kd.R_drew HO277.out)
     replace HO280 := aM (Kd.R_drew HO280.out)
     replace BK272 := aM (blk_drew BK272.out)
     replace BK273 := aM (blk_drew BK273.out)
     replace BK282 := aM (blk_drew BK282.out)
     replace HB := aM (below_drew1 HB.out)
     have p284 : 0 ≤ (a1 : Int) := of_decide_eq_true (by first | (with_reducible assumption) | assumption)
     have q284 : a1 < (y283.length : Int) := (by have h_ : (a1 : Int) < ((t275.length : Int) : Int) := of_decide_eq_true (by first | (with_reducible assumption) | assumption); first | (have e_ := (Kd.R_reads' HO277.out).1; omega) | simpa only [Ny283.out, List.length_set] using h_)
     have ql284 : ((a1 : Int) < ((t275.length : Int) : Int)) = True := eq_true (of_decide_eq_true (by first | (with_reducible assumption) | assumption))
     obtain ⟨ad284, e284, hx284_0, hx284_1, hx284_2, hx284_3, hx284_4⟩ := at_T32 (Kd.R_reads' HO277.out).2.2 a1 p284 q284
     (try rw [← Nbq23.out] at hx284_3)
     (try rw [← Nbq23.out] at hx284_4)
     obtain rfl : (⟨go22, 0, none⟩ : Addr) = ad284 := (by injection e284)
     (first | simp only [add_plain] at hx284_0 | simp only [add_at] at hx284_0 | simp only [Addr.add, Nat.zero_add] at hx284_0 | skip)
     (first | simp only [add_plain] at hx284_1 | simp only [add_at] at hx284_1 | simp only [Addr.add, Nat.zero_add] at hx284_1 | skip)
     (first | simp only [add_plain] at hx284_2 | simp only [add_at] at hx284_2 | simp only [Addr.add, Nat.zero_add] at hx284_2 | skip)
     (first | simp only [add_plain] at hx284_3 | simp only [add_at] at hx284_3 | simp only [Addr.add, Nat.zero_add] at hx284_3 | skip)
     (first | simp only [add_plain] at hx284_4 | simp only [add_at] at hx284_4 | simp only [Addr.add, Nat.zero_add] at hx284_4 | skip)
     replace p284 := eq_true p284
     replace q284 := eq_true q284
     have p44 : 0 ≤ (a1 : Int) := of_decide_eq_true (by first | (with_reducible assumption) | assumption)
     have q44 : (a1 : Int) < ((t275.length : Int) : Int) := of_decide_eq_true (by first | (with_reducible assumption) | assumption)
     obtain ⟨ce44, hcl44, hM44, hcc44, hfr44⟩ := Kd.R_elem HO277.out z32 (a1 : Int) p44 q44
     obtain rfl := k32_openM hM44
     have hx44_0 : World.cell? _ ⟨go22, (a1 : Int).toNat * 5, none⟩ = some (.int .i64 ((rd_T32 y283 a1).f0)) := hcc44 0 _ rfl
     have hx44_1 : World.cell? _ ⟨go22, (a1 : Int).toNat * 5 + 1, none⟩ = some (.int .i64 ((rd_T32 y283 a1).f1)) := hcc44 1 _ rfl
     have hx44_2 : World.cell? _ ⟨go22, (a1 : Int).toNat * 5 + 2, none⟩ = some (.int .i64 ((rd_T32 y283 a1).f2)) := hcc44 2 _ rfl
     have hx44_3 : World.cell? _ ⟨go22, (a1 : Int).toNat * 5 + 3, none⟩ = some (.bool ((rd_T32 y283 a1).f3)) := hcc44 3 _ rfl
     have hx44_4 : World.cell? _ ⟨go22, (a1 : Int).toNat * 5 + 4, none⟩ = some (.bool ((rd_T32 y283 a1).f4)) := hcc44 4 _ rfl
     have hf44_0 : World.frozen? _ ⟨go22, (a1 : Int).toNat * 5, none⟩ = false := hfr44 0
     have hf44_1 : World.frozen? _ ⟨go22, (a1 : Int).toNat * 5 + 1, none⟩ = false := hfr44 1
     have hf44_2 : World.frozen? _ ⟨go22, (a1 : Int).toNat * 5 + 2, none⟩ = false := hfr44 2
     have hf44_3 : World.frozen? _ ⟨go22, (a1 : Int).toNat * 5 + 3, none⟩ = false := hfr44 3
     have hf44_4 : World.frozen? _ ⟨go22, (a1 : Int).toNat * 5 + 4, none⟩ = false := hfr44 4
     clear hcl44 hcc44 hfr44 hM44
     replace p44 := eq_true p44
     replace q44 := eq_true q44
     obtain ⟨ce59, hcl59, hM59, hcc59, hfr59⟩ := Kd.R_elem HO277.out z32 (a1 : Int) (of_decide_eq_true (by first | (with_reducible assumption) | assumption)) (by have h_ : (a1 : Int) < ((t275.length : Int) : Int) := of_decide_eq_true (by first | (with_reducible assumption) | assumption); first | exact h_ | (have e_ := (Kd.R_reads' HO277.out).1; omega) | simpa using h_)
     obtain rfl := k32_openM hM59
     have HP59 := (Kd.R_seg HO277.out (a1 : Int) (of_decide_eq_true (by first | (with_reducible assumption) | assumption)) (by have h_ : (a1 : Int) < ((t275.length : Int) : Int) := of_decide_eq_true (by first | (with_reducible assumption) | assumption); first | exact h_ | (have e_ := (Kd.R_reads' HO277.out).1; omega) | simpa using h_) (seg := [.bool false]) (j := 4) hcl59 hcc59 (show 5 ≤ 5 from by decide) (x' := (⟨(rd_T32 y283 a1).f0, (rd_T32 y283 a1).f1, (rd_T32 y283 a1).f2, (rd_T32 y283 a1).f3, false⟩ : S32)) (k32_mkM _ _ _ (⟨(rd_T32 y283 a1).f0, (rd_T32 y283 a1).f1, (rd_T32 y283 a1).f2, (rd_T32 y283 a1).f3, false⟩ : S32) ) (fun _ hk => hk)).1
     rw [← Ny286.out] at HP59
     have HQ59 := aM HP59
     clear hcl59 hcc59 hfr59 hM59 HP59
     refine start_ (n := 16) (S := fun w' => w'.cell? ⟨gb282, 0, none⟩ = some (.slice (some ⟨go22, 0, none⟩) t275.length co49) ∧ w'.cell? ⟨gb282, 1, none⟩ = some (.slice Ao53 t278.length co53) ∧ w'.cell? ⟨gb282, 2, none⟩ = some (.int .i64 t281) ∧ w'.cell? ⟨go22, (a1).toNat * 5, none⟩ = some (.int .i64 ((rd_T32 y283 a1).f0)) ∧ w'.cell? ⟨go22, (a1).toNat * 5 + 1, none⟩ = some (.int .i64 ((rd_T32 y283 a1).f1)) ∧ w'.cell? ⟨go22, (a1).toNat * 5 + 2, none⟩ = some (.int .i64 ((rd_T32 y283 a1).f2)) ∧ w'.cell? ⟨go22, (a1).toNat * 5 + 3, none⟩ = some (.bool ((rd_T32 y283 a1).f3)) ∧ w'.cell? ⟨go22, (a1).toNat * 5 + 4, none⟩ = some (.bool false)) (ds := [15]) #[false, false, false, false, false, false, false, false, false, false, false, false, false, false, false, false] (by kernel_rfl) rfl rfl ⟨(blk_cell BK282.out 0).trans rfl, (blk_cell BK282.out 1).trans rfl, (blk_cell BK282.out 2).trans rfl, hx284_0, hx284_1, hx284_2, hx284_3, hx284_4⟩ (fun hHeld => ?_); refine with_tabW feeder_Answer.tab10 feeder_Answer.bits10 (fun HT_ HW_ => ?_)
     generalize w57.drew = w58 at HO277 HO280 BK272 BK273 BK282 HB HQ59 hf44_0 hf44_1 hf44_2 hf44_3 hf44_4 hx284_0 hx284_1 hx284_2 hx284_3 hx284_4 hx44_0 hx44_1 hx44_2 hx44_3 hx44_4 hHeld ⊢
     refine pure_ (i := 0) (N := some 41) (v := ?_) (a' := ?_) #[true, false, false, false, false, false, false, false, false, false, false, false, false, false, false, false] rfl rfl (any_of HT_.out (by kernel_rfl)) (fun _ _ _ h => h) (Or.inl ⟨by rfl, ?_⟩) ?_ ?_
     rotate_left
     ·
      intro w'
      go_simp
      with_reducible rfl
     rotate_left
     ·
      simp only [Act.put, sT, sZ, sS, i64_w, i32_w]
      rfl
     refine pure_ (i := 2) (N := some 43) (v := ?_) (a' := ?_) #[true, false, true, false, false, false, false, false, false, false, false, false, false, false, false, false] rfl rfl (any_of HT_.out (by kernel_rfl)) (fun _ _ _ h => h) (Or.inl ⟨by rfl, ?_⟩) ?_ ?_
     rotate_left
     ·
      intro w'
      go_simp
      with_reducible rfl
     rotate_left
     ·
      simp only [Act.put, sT, sZ, sS, i64_w, i32_w]
      rfl
     refine pure_ (i := 3) (N := some 44) (v := ?_) (a' := ?_) #[true, false, true, true, false, false, false, false, false, false, false, false, false, false, false, false] rfl rfl (any_of HT_.out (by kernel_rfl)) (fun _ _ _ h => h) (Or.inl ⟨by rfl, ?_⟩) ?_ ?_
     rotate_left
     ·
      intro w'
      go_simp
      with_reducible rfl
     rotate_left
     ·
      simp only [Act.put, sT, sZ, sS, i64_w, i32_w]
      rfl
     refine pure_ (i := 5) (N := some 46) (v := ?_) (a' := ?_) #[true, false, true, true, false, true, false, false, false, false, false, false, false, false, false, false] rfl rfl (any_of HT_.out (by kernel_rfl)) (fun _ _ _ h => h) (Or.inl ⟨by rfl, ?_⟩) ?_ ?_
     rotate_left
     ·
      intro w'
      go_simp
      with_reducible rfl
     rotate_left
     ·
      simp only [Act.put, sT, sZ, sS, i64_w, i32_w]
      rfl
     refine take_ (i := 1) (N := some 42) (v := ?_) (a' := ?_) #[true, true, true, true, false, true, false, false, false, false, false, false, false, false, false, false] rfl rfl (take_ofW HT_.out HW_.out (by kernel_rfl)) (fun _ _ _ h => h) (Or.inl ⟨by rfl, ?_⟩) hHeld ?_ ?_
     rotate_left
     ·
      rintro w' ⟨s0, s1, s2, s3, s4, s5, s6, s7⟩
      go_simp
      with_reducible rfl
     rotate_left
     ·
      simp only [Act.put, sT, sZ, sS, i64_w, i32_w]
      rfl
     refine take_ (i := 4) (N := some 45) (v := ?_) (a' := ?_) #[true, true, true, true, true, true, false, false, false, false, false, false, false, false, false, false] rfl rfl (take_ofW HT_.out HW_.out (by kernel_rfl)) (fun _ _ _ h => h) (Or.inl ⟨by rfl, ?_⟩) hHeld ?_ ?_
     rotate_left
     ·
      rintro w' ⟨s0, s1, s2, s3, s4, s5, s6, s7⟩
      go_simp
      with_reducible rfl
     rotate_left
     ·
      simp only [Act.put, sT, sZ, sS, i64_w, i32_w]
      rfl
     refine pure_ (i := 6) (N := some 47) (v := ?_) (a' := ?_) #[true, true, true, true, true, true, true, false, false, false, false, false, false, false, false, false] rfl rfl (any_of HT_.out (by kernel_rfl)) (fun _ _ _ h => h) (Or.inl ⟨by rfl, ?_⟩) ?_ ?_
     rotate_left
     ·
      intro w'
      go_simp
      with_reducible rfl
     rotate_left
     ·
      simp only [Act.put, sT, sZ, sS, i64_w, i32_w]
      rfl
     refine pure_ (i := 7) (N := some 48) (v := ?_) (a' := ?_) #[true, true, true, true, true, true, true, true, false, false, false, false, false, false, false, false] rfl rfl (any_of HT_.out (by kernel_rfl)) (fun _ _ _ h => h) (Or.inl ⟨by rfl, ?_⟩) ?_ ?_
     rotate_left
     ·
      intro w'
      go_simp
      with_reducible rfl
     rotate_left
     ·
      simp only [Act.put, sT, sZ, sS, i64_w, i32_w]
      rfl
     refine take_ (i := 8) (N := some 49) (v := ?_) (a' := ?_) #[true, true, true, true, true, true, true, true, true, false, false, false, false, false, false, false] rfl rfl (take_ofW HT_.out HW_.out (by kernel_rfl)) (fun _ _ _ h => h) (Or.inl ⟨by rfl, ?_⟩) hHeld ?_ ?_
     rotate_left
     ·
      rintro w' ⟨s0, s1, s2, s3, s4, s5, s6, s7⟩
      go_simp
      with_reducible rfl
     rotate_left
     ·
      simp only [Act.put, sT, sZ, sS, i64_w, i32_w]
      rfl
     refine pure_ (i := 9) (N := some 50) (v := ?_) (a' := ?_) #[true, true, true, true, true, true, true, true, true, true, false, false, false, false, false, false] rfl rfl (any_of HT_.out (by kernel_rfl)) (fun _ _ _ h => h) (Or.inl ⟨by rfl, ?_⟩) ?_ ?_
     rotate_left
     ·
      intro w'
      go_simp
      with_reducible rfl
     rotate_left
     ·
      simp only [Act.put, sT, sZ, sS, i64_w, i32_w]
      rfl
     refine pure_ (i := 10) (N := some 51) (v := undef) (a' := ?_) #[true, true, true, true, true, true, true, true, true, true, true, false, false, false, false, false] rfl rfl (any_of HT_.out (by kernel_rfl)) (fun _ _ _ h => h) (Or.inr ⟨by rfl, rfl⟩) ?_ ?_
     rotate_left
     ·
      simp only [Act.put, sT, sZ, sS, i64_w, i32_w]
      rfl
     refine pure_ (i := 11) (N := some 52) (v := undef) (a' := ?_) #[true, true, true, true, true, true, true, true, true, true, true, true, false, false, false, false] rfl rfl (any_of HT_.out (by kernel_rfl)) (fun _ _ _ h => h) (Or.inr ⟨by rfl, rfl⟩) ?_ ?_
     rotate_left
     ·
      simp only [Act.put, sT, sZ, sS, i64_w, i32_w]
      rfl
     refine pure_ (i := 12) (N := some 53) (v := ?_) (a' := ?_) #[true, true, true, true, true, true, true, true, true, true, true, true, true, false, false, false] rfl rfl (any_of HT_.out (by kernel_rfl)) (fun _ _ _ h => h) (Or.inl ⟨by rfl, ?_⟩) ?_ ?_
     rotate_left
     ·
      intro w'
      go_simp
      with_reducible rfl
     rotate_left
     ·
      simp only [Act.put, sT, sZ, sS, i64_w, i32_w]
      rfl
     refine pure_ (i := 13) (N := some 54) (v := ?_) (a' := ?_) #[true, true, true, true, true, true, true, true, true, true, true, true, true, true, false, false] rfl rfl (any_of HT_.out (by kernel_rfl)) (fun _ _ _ h => h) (Or.inl ⟨by rfl, ?_⟩) ?_ ?_
     rotate_left
     ·
      intro w'
      go_simp
      with_reducible rfl
     rotate_left
     ·
      simp only [Act.put, sT, sZ, sS, i64_w, i32_w]
      rfl
     refine pure_ (i := 14) (N := some 55) (v := ?_) (a' := ?_) #[true, true, true, true, true, true, true, true, true, true, true, true, true, true, true, false] rfl rfl (any_of HT_.out (by kernel_rfl)) (fun _ _ _ h => h) (Or.inl ⟨by rfl, ?_⟩) ?_ ?_
     rotate_left
     ·
      intro w'
      go_simp
      with_reducible rfl
     rotate_left
     ·
      simp only [Act.put, sT, sZ, sS, i64_w, i32_w]
      rfl
     refine last_ (i := 15) (N := none) #[true, true, true, true, true, true, true, true, true, true, true, true, true, true, true, true] rfl rfl (one_of HT_.out (by kernel_rfl)) (by decide) (fun K hK => ?_)
     refine skip_ (w1 := ?_) (by rfl) rfl ?_ ?_
     rotate_left
     ·
      go_simp
      rfl
     refine hK.out _ _ ?_
     clear hK K
     refine done_ (done_of HT_.out (by kernel_rfl)) ?_
     have n0_ : Aside0 (Kd.R k32 32 (w58.setCell ⟨go22, (a1 : Int).toNat * 5 + 4, none⟩ (.bool false)) w.heap.size (fun _ => True) (.slice (some ⟨go22, 0, none⟩) t275.length co49) y286) := ⟨by (with_reducible repeat (first | apply Kd.R_alloc | apply Kd.R_drewN | apply Kd.R_drew)); exact HQ59.out⟩
     have n1_ : Aside0 (Kd.R (Kd.int .i64) 3 (w58.setCell ⟨go22, (a1 : Int).toNat * 5 + 4, none⟩ (.bool false)) w.heap.size (fun _ => True) (.slice Ao53 t278.length co53) t278) := ⟨by (with_reducible repeat (first | apply Kd.R_alloc | apply Kd.R_drewN | apply Kd.R_drew)); exact Kd.R_mono (Kd.R_far (p := ⟨go22, (a1 : Int).toNat * 5 + 4, none⟩) (Kd.R_types HO280.out (Kd.R_typed HO277.out _ rfl).choose_spec (by decide)) (fun _ hk => hk.2) (.bool false)) (fun _ hk => trivial)⟩
     have n2_ : Aside0 ((w58.setCell ⟨go22, (a1 : Int).toNat * 5 + 4, none⟩ (.bool false)).heap[gb272]? = some (.cells #[.slice A0_0 l0_0.length c0_0, .slice A0_1 l0_1.length c0_1, .int .i64 a0_2] 28 (0, 0))) := ⟨by (with_reducible repeat (first | refine kN ?_ _ | refine kD ?_ | refine kA ?_ _)); refine blk_far ?_ (by have h_ := Kd.R_ne HO277.out BK272.out (by decide); intro e_; exact h_ (by rw [e_]; rfl)) _; (with_reducible repeat (first | refine kN ?_ _ | refine kD ?_ | refine kA ?_ _)); exact BK272.out⟩
     have n3_ : Aside0 ((w58.setCell ⟨go22, (a1 : Int).toNat * 5 + 4, none⟩ (.bool false)).heap[gb273]? = some (.cells #[.slice none 0 0, .slice none 0 0, .int .i64 0] 28 (0, 0))) := ⟨by (with_reducible repeat (first | refine kN ?_ _ | refine kD ?_ | refine kA ?_ _)); refine blk_far ?_ (by have h_ := Kd.R_ne HO277.out BK273.out (by decide); intro e_; exact h_ (by rw [e_]; rfl)) _; (with_reducible repeat (first | refine kN ?_ _ | refine kD ?_ | refine kA ?_ _)); exact BK273.out⟩
     have n4_ : Aside0 ((w58.setCell ⟨go22, (a1 : Int).toNat * 5 + 4, none⟩ (.bool false)).heap[gb282]? = some (.cells #[.slice (some ⟨go22, 0, none⟩) t275.length co49, .slice Ao53 t278.length co53, .int .i64 t281] 28 (0, 0))) := ⟨by (with_reducible repeat (first | refine kN ?_ _ | refine kD ?_ | refine kA ?_ _)); refine blk_far ?_ (by have h_ := Kd.R_ne HO277.out BK282.out (by decide); intro e_; exact h_ (by rw [e_]; rfl)) _; (with_reducible repeat (first | refine kN ?_ _ | refine kD ?_ | refine kA ?_ _)); exact BK282.out⟩
     have n5_ : Aside0 (Below w.heap.size w (w58.setCell ⟨go22, (a1 : Int).toNat * 5 + 4, none⟩ (.bool false))) := ⟨by repeat (first | (with_reducible first | exact HB.out | apply bA | apply bN | apply bD | refine below_set ?_ GB22.out | refine below_set ?_ GE272.out | refine below_set ?_ GE273.out | refine below_set ?_ GE282.out) | exact HB.out)⟩
     (try clear HO277)
     (try clear HO280)
     (try clear BK272)
     (try clear BK273)
     (try clear BK282)
     (try clear HB)
     generalize (w58.setCell ⟨go22, (a1 : Int).toNat * 5 + 4, none⟩ (.bool false)) = w60 at n0_ n1_ n2_ n3_ n4_ n5_ ⊢
     have HO277 := n0_
     have HO280 := n1_
     have BK272 := n2_
     have BK273 := n3_
     have BK282 := n4_
     have HB := n5_
     clear n0_ n1_ n2_ n3_ n4_ n5_
     obtain ⟨hcz61_0, hcz61_1, hcz61_2, hfz61_0, hfz61_1, hfz61_2⟩ := blk3 BK282.out
     obtain ⟨hcz62_0, hcz62_1, hcz62_2, hfz62_0, hfz62_1, hfz62_2⟩ := blk3 BK273.out
     try go_wp2
     refine bodyPost_ret (results_ct rfl _ _ gb273 28 #[.slice (some ⟨go22, 0, none⟩) t275.length co49, .slice Ao53 t278.length co53, .int .i64 t281] (0, 0) _ rfl (by (with_reducible repeat (first | refine kN ?_ _ | refine kD ?_ | refine kA ?_ _)); refine blk_put (cs := #[.slice (some ⟨go22, 0, none⟩) t275.length co49, .slice Ao53 t278.length co53, .int .i64 0]) ?_ 2 _ rfl; (with_reducible repeat (first | refine kN ?_ _ | refine kD ?_ | refine kA ?_ _)); refine blk_put (cs := #[.slice (some ⟨go22, 0, none⟩) t275.length co49, .slice none 0 0, .int .i64 0]) ?_ 1 _ rfl; (with_reducible repeat (first | refine kN ?_ _ | refine kD ?_ | refine kA ?_ _)); refine blk_put (cs := #[.slice none 0 0, .slice none 0 0, .int .i64 0]) ?_ 0 _ rfl; (with_reducible repeat (first | refine kN ?_ _ | refine kD ?_ | refine kA ?_ _)); exact BK273.out) Try.underlying28 rfl (by kernel_rfl)) rfl ?_
     exact ⟨_, _, by first | rfl | (simp [errW_none, errW_some] <;> rfl) | (simp [*, errW_none, errW_some] <;> rfl), by (with_reducible repeat (first | apply Kd.R_alloc | apply Kd.R_drewN | apply Kd.R_drew)); exact Kd.R_mono (f3 HO277.out BK273.out (by decide)) (fun _ hk => trivial), by (with_reducible repeat (first | apply Kd.R_alloc | apply Kd.R_drewN | apply Kd.R_drew)); exact Kd.R_mono (f3 HO280.out BK273.out (by decide)) (fun _ hk => trivial), by repeat (first | (with_reducible first | exact HB.out | apply bA | apply bN | apply bD | refine below_set ?_ GE272.out | refine below_set ?_ GE273.out | refine below_set ?_ GE282.out) | exact HB.out)⟩
    rw [if_neg c18] at H
    have c18b0 : (a2 == 1) = false := beq_eq_false_iff_ne.mpr c18
    have c18b1 : (a2 != 1) = true := bne_iff_ne.mpr c18
    by_cases c63 : a2 = (-1)
    ·
     rw [if_pos c63] at H
     have c63b0 : (a2 == (-1)) = true := beq_iff_eq.mpr c63
     have c63b1 : (a2 != (-1)) = false := bne_eq_false_iff_eq.mpr c63
     clear c63
     replace H := Option.bind_eq_some_iff.mp H
     obtain ⟨⟨t287, t290, t293⟩, A640, H⟩ := H
     replace H : (if 0 ≤ a1 then (if a1 < (t287.length : Int) then ((some (t287.set (a1 : Int).toNat (⟨(rd_T32 t287 a1).f0, (rd_T32 t287 a1).f1, a2, (rd_T32 t287 a1).f3, (rd_T32 t287 a1).f4⟩ : S32) : List (S32))).bind fun y295 => (if (rd_T32 y295 a1).f4 = true then (some ((y295.set (a1 : Int).toNat (⟨(rd_T32 y295 a1).f0, (rd_T32 y295 a1).f1, (rd_T32 y295 a1).f2, (rd_T32 y295 a1).f3, (a2 != (-1))⟩ : S32)), t290, t293, 0)) else (some ((y295.set (a1 : Int).toNat (⟨(rd_T32 y295 a1).f0, (rd_T32 y295 a1).f1, (rd_T32 y295 a1).f2, (rd_T32 y295 a1).f3, false⟩ : S32)), t290, t293, 0)))) else (none)) else (none)) = some (r1, r2, r3, r4) := H
     have A64 := aM A640
     clear A640
     by_cases c65 : 0 ≤ a1
     rotate_left
     ·
      rw [if_neg c65] at H
      exact absurd H (by simp)
     rw [if_pos c65] at H
     have c65b0 : decide (0 ≤ a1) = true := decide_eq_true c65
     clear c65
     by_cases c66 : a1 < (t287.length : Int)
     rotate_left
     ·
      rw [if_neg c66] at H
      exact absurd H (by simp)
     rw [if_pos c66] at H
     have c66b0 : decide (a1 < (t287.length : Int)) = true := decide_eq_true c66
     clear c66
     obtain ⟨y295, hy295⟩ : ∃ y_ : List (S32), y_ = (t287.set (a1 : Int).toNat (⟨(rd_T32 t287 a1).f0, (rd_T32 t287 a1).f1, a2, (rd_T32 t287 a1).f3, (rd_T32 t287 a1).f4⟩ : S32)) := ⟨_, rfl⟩
     replace H : (if (rd_T32 y295 a1).f4 = true then (some ((y295.set (a1 : Int).toNat (⟨(rd_T32 y295 a1).f0, (rd_T32 y295 a1).f1, (rd_T32 y295 a1).f2, (rd_T32 y295 a1).f3, (a2 != (-1))⟩ : S32)), t290, t293, 0)) else (some ((y295.set (a1 : Int).toNat (⟨(rd_T32 y295 a1).f0, (rd_T32 y295 a1).f1, (rd_T32 y295 a1).f2, (rd_T32 y295 a1).f3, false⟩ : S32)), t290, t293, 0))) = some (r1, r2, r3, r4) := by first | (rw [hy295]; with_reducible exact H) | (have H2_ := (Option.bind_some _ _).symm.trans H; rw [hy295]; with_reducible exact H2_) | (have H2_ := (Option.bind_some _ _).symm.trans H; with_reducible exact H2_) | with_reducible exact H | (rw [hy295]; exact H) | exact H
     have Ny295 := aM hy295
     clear hy295
     obtain ⟨bq68, hbq68⟩ : ∃ b_ : Bool, b_ = ((rd_T32 y295 a1).f4) := ⟨_, rfl⟩
     replace H : (if bq68 = true then (some ((y295.set (a1 : Int).toNat (⟨(rd_T32 y295 a1).f0, (rd_T32 y295 a1).f1, (rd_T32 y295 a1).f2, (rd_T32 y295 a1).f3, (a2 != (-1))⟩ : S32)), t290, t293, 0)) else (some ((y295.set (a1 : Int).toNat (⟨(rd_T32 y295 a1).f0, (rd_T32 y295 a1).f1, (rd_T32 y295 a1).f2, (rd_T32 y295 a1).f3, false⟩ : S32)), t290, t293, 0))) = some (r1, r2, r3, r4) := by rw [← hbq68] at H; exact H
     have Nbq68 := aM hbq68
     clear hbq68
     by_cases c69 : bq68 = true
     ·
      subst c69
      have H1 : (some ((y295.set (a1 : Int).toNat (⟨(rd_T32 y295 a1).f0, (rd_T32 y295 a1).f1, (rd_T32 y295 a1).f2, (rd_T32 y295 a1).f3, (a2 != (-1))⟩ : S32)), t290, t293, 0)) = some (r1, r2, r3, r4) := by rw [if_pos rfl] at H; exact H
      clear H
      have H := H1
      clear H1
      obtain ⟨y297, hy297⟩ : ∃ y_ : List (S32), y_ = (y295.set (a1 : Int).toNat (⟨(rd_T32 y295 a1).f0, (rd_T32 y295 a1).f1, (rd_T32 y295 a1).f2, (rd_T32 y295 a1).f3, (a2 != (-1))⟩ : S32)) := ⟨_, rfl⟩
      replace H : (some (y297, t290, t293, 0)) = some (r1, r2, r3, r4) := by first | (rw [hy297]; with_reducible exact H) | (have H2_ := (Option.bind_some _ _).symm.trans H; rw [hy297]; with_reducible exact H2_) | (have H2_ := (Option.bind_some _ _).symm.trans H; with_reducible exact H2_) | with_reducible exact H | (rw [hy297]; exact H) | exact H
      have Ny297 := aM hy297
      clear hy297
      simp only [Option.some.injEq, Prod.mk.injEq] at H
      obtain ⟨rfl, rfl, rfl, rfl⟩ := H
      have hnb71 := NB272_273.out
      have hnc71 := NB273_272.out
      obtain ⟨hcz72_0, hcz72_1, hcz72_2, hfz72_0, hfz72_1, hfz72_2⟩ := blk3 BK272.out
      try go_wp2_with (first | ((with_reducible refine gate_callee (f := 43) rfl ?_); refine goesL_ (some 34) rfl rfl Try.func43 (by kernel_rfl) rfl #[.agg #[.slice A0_0 l0_0.length c0_0, .slice A0_1 l0_1.length c0_1, .int .i64 a0_2]] rfl (by first | rfl | (simp only [List.map_toArray, List.map_cons, List.map_nil, List.length_drop, List.length_take]; try rfl)) ?_; (with_reducible refine (feeder_clone.calls _ _ l0_0 _ _ l0_1 a0_2 t287 t290 t293 _ ?side1 ?side2 ?side3 ?side4 A64.out).mono ?_); (case side1 => first | exact C_mv (Kd.C_below HR0_0.out HB.out) | exact C_mv HR0_0.out); (case side2 => exact HC0_0.out); (case side3 => first | exact C_mv (Kd.C_below HR0_1.out HB.out) | exact C_mv HR0_1.out); (case side4 => exact HC0_1.out); rintro e w73 ⟨v288, v291, rfl, ho0, ho1, hb⟩; refine ⟨_, rfl, ?_⟩; have HO289 := aM (Kd.R_lower ho0 (below_size (by repeat (first | (with_reducible first | exact HB.out | apply bA | apply bN | apply bD | refine below_set ?_ GE272.out | refine below_set ?_ GE273.out) | exact HB.out)))); have HO292 := aM (Kd.R_lower ho1 (below_size (by repeat (first | (with_reducible first | exact HB.out | apply bA | apply bN | apply bD | refine below_set ?_ GE272.out | refine below_set ?_ GE273.out) | exact HB.out)))); replace BK272 := aM (blk_below (blk_mv BK272.out) hb); replace BK273 := aM (blk_below (blk_mv BK273.out) hb); replace HB := aM (below_step (by repeat (first | (with_reducible first | exact HB.out | apply bA | apply bN | apply bD | refine below_set ?_ GE272.out | refine below_set ?_ GE273.out) | exact HB.out)) hb); (try clear hb); (try clear hb2); (try clear hge); (try clear hk); (try clear hi); (try clear ho0); (try clear ho1)) | ((with_reducible refine gate_dst (N := 9) rfl ?_); (try (refine gate_guard (by rfl) ?_; dsimp only)); refine box_event ?hg (N := 9) ?hd (cs := #[.slice none 0 0, .slice none 0 0, .int .i64 0]) (t := 28) ?hr ?_; (case hd => rfl); (case hg => rfl); (case hr => first | (go_simp; done) | (go_simp; rfl)); intro gb294 hg w74 hbox hb; replace HO289 := aM (Kd.R_below (R_mv HO289.out) hb); replace HO292 := aM (Kd.R_below (R_mv HO292.out) hb); have BK294 := aM (hbox); have GW294 := aM ((by rw [hg]; exact (below_size (by repeat (first | (with_reducible first | exact HB.out | apply bA | apply bN | apply bD | refine below_set ?_ GE272.out | refine below_set ?_ GE273.out) | exact HB.out))) : w.heap.size ≤ gb294)); have GE294 := aM ((by rw [hg]; exact (below_size (by repeat (first | (with_reducible first | exact HB.out | apply bA | apply bN | apply bD | refine below_set ?_ GE272.out | refine below_set ?_ GE273.out) | exact HB.out))) : w.heap.size ≤ gb294)); replace HB := aM (below_step (by repeat (first | (with_reducible first | exact HB.out | apply bA | apply bN | apply bD | refine below_set ?_ GE272.out | refine below_set ?_ GE273.out) | exact HB.out)) hb); have NB272_294 := aM ((by rw [hg]; exact Nat.ne_of_lt (blk_lt (blk_mv BK272.out)) : gb272 ≠ gb294)); have NB294_272 := aM ((by rw [hg]; exact Nat.ne_of_gt (blk_lt (blk_mv BK272.out)) : gb294 ≠ gb272)); replace BK272 := aM (blk_below (blk_mv BK272.out) hb); have NB273_294 := aM ((by rw [hg]; exact Nat.ne_of_lt (blk_lt (blk_mv BK273.out)) : gb273 ≠ gb294)); have NB294_273 := aM ((by rw [hg]; exact Nat.ne_of_gt (blk_lt (blk_mv BK273.out)) : gb294 ≠ gb273)); replace BK273 := aM (blk_below (blk_mv BK273.out) hb); clear hb hbox hg; obtain ⟨Ao75, co75, eo75⟩ := Kd.R_slice HO289.out; subst eo75; have hnb76 := NB294_272.out; have hnc76 := NB272_294.out; have hnb77 := NB294_273.out; have hnc77 := NB273_294.out; obtain ⟨hcz78_0, hcz78_1, hcz78_2, hfz78_0, hfz78_1, hfz78_2⟩ := blk3 BK294.out; obtain ⟨Ao79, co79, eo79⟩ := Kd.R_slice HO292.out; subst eo79) | ((with_reducible refine gate_store (t := 28) (p := 9) rfl ?_); refine store_event (t := 28) (p := 9) (v := ?vo_w80) (w1 := (((w74.setCell ⟨gb294, 0, none⟩ (.slice Ao75 t287.length co75)).setCell ⟨gb294, 1, none⟩ (.slice Ao79 t290.length co79)).setCell ⟨gb294, 2, none⟩ (.int .i64 t293))) ?hg ?ho ?hn ?hr ?_; (case ho => rfl); (case hg => rfl); (case hn => rfl); (case hr => first | (go_simp; done) | (go_simp; rfl)); intro w80 hw; have n0_ : Aside0 (Kd.R k32 32 w80 w.heap.size (fun _ => True) (.slice Ao75 t287.length co75) t287) := ⟨(by rw [hw]; exact (by (with_reducible repeat (first | apply Kd.R_alloc | apply Kd.R_drewN | apply Kd.R_drew)); exact Kd.R_mono (f3 HO289.out BK294.out (by decide)) (fun _ hk => trivial)))⟩; have n1_ : Aside0 (Kd.R (Kd.int .i64) 3 w80 w.heap.size (fun _ => True) (.slice Ao79 t290.length co79) t290) := ⟨(by rw [hw]; exact (by (with_reducible repeat (first | apply Kd.R_alloc | apply Kd.R_drewN | apply Kd.R_drew)); exact Kd.R_mono (f3 HO292.out BK294.out (by decide)) (fun _ hk => trivial)))⟩; have n2_ : Aside0 (w80.heap[gb272]? = some (.cells #[.slice A0_0 l0_0.length c0_0, .slice A0_1 l0_1.length c0_1, .int .i64 a0_2] 28 (0, 0))) := ⟨(by rw [hw]; exact (by (with_reducible repeat (first | refine kN ?_ _ | refine kD ?_ | refine kA ?_ _)); refine blk_far ?_ NB272_294.out _; (with_reducible repeat (first | refine kN ?_ _ | refine kD ?_ | refine kA ?_ _)); refine blk_far ?_ NB272_294.out _; (with_reducible repeat (first | refine kN ?_ _ | refine kD ?_ | refine kA ?_ _)); refine blk_far ?_ NB272_294.out _; (with_reducible repeat (first | refine kN ?_ _ | refine kD ?_ | refine kA ?_ _)); exact BK272.out))⟩; have n3_ : Aside0 (w80.heap[gb273]? = some (.cells #[.slice none 0 0, .slice none 0 0, .int .i64 0] 28 (0, 0))) := ⟨(by rw [hw]; exact (by (with_reducible repeat (first | refine kN ?_ _ | refine kD ?_ | refine kA ?_ _)); refine blk_far ?_ NB273_294.out _; (with_reducible repeat (first | refine kN ?_ _ | refine kD ?_ | refine kA ?_ _)); refine blk_far ?_ NB273_294.out _; (with_reducible repeat (first | refine kN ?_ _ | refine kD ?_ | refine kA ?_ _)); refine blk_far ?_ NB273_294.out _; (with_reducible repeat (first | refine kN ?_ _ | refine kD ?_ | refine kA ?_ _)); exact BK273.out))⟩; have n4_ : Aside0 (w80.heap[gb294]? = some (.cells #[.slice Ao75 t287.length co75, .slice Ao79 t290.length co79, .int .i64 t293] 28 (0, 0))) := ⟨(by rw [hw]; exact (by (with_reducible repeat (first | refine kN ?_ _ | refine kD ?_ | refine kA ?_ _)); refine blk_put (cs := #[.slice Ao75 t287.length co75, .slice Ao79 t290.length co79, .int .i64 0]) ?_ 2 _ rfl; (with_reducible repeat (first | refine kN ?_ _ | refine kD ?_ | refine kA ?_ _)); refine blk_put (cs := #[.slice Ao75 t287.length co75, .slice none 0 0, .int .i64 0]) ?_ 1 _ rfl; (with_reducible repeat (first | refine kN ?_ _ | refine kD ?_ | refine kA ?_ _)); refine blk_put (cs := #[.slice none 0 0, .slice none 0 0, .int .i64 0]) ?_ 0 _ rfl; (with_reducible repeat (first | refine kN ?_ _ | refine kD ?_ | refine kA ?_ _)); exact BK294.out))⟩; have n5_ : Aside0 (Below w.heap.size w w80) := ⟨(by rw [hw]; exact (by repeat (first | (with_reducible first | exact HB.out | apply bA | apply bN | apply bD | refine below_set ?_ GE272.out | refine below_set ?_ GE273.out | refine below_set ?_ GE294.out) | exact HB.out)))⟩; clear hw; clear HO289; clear HO292; clear BK272; clear BK273; clear BK294; clear HB; have HO289 := n0_; have HO292 := n1_; have BK272 := n2_; have BK273 := n3_; have BK294 := n4_; have HB := n5_; clear n0_ n1_ n2_ n3_ n4_ n5_; obtain ⟨hcz81_0, hcz81_1, hcz81_2, hfz81_0, hfz81_1, hfz81_2⟩ := blk3 BK294.out; have p67 : 0 ≤ (a1 : Int) := of_decide_eq_true (by first | (with_reducible assumption) | assumption); have q67 : (a1 : Int) < ((t287.length : Int) : Int) := of_decide_eq_true (by first | (with_reducible assumption) | assumption); obtain ⟨go67, co67, eo67, gb67, gl67, cl67, HG67⟩ := Kd.R_form HO289.out (by omega); (first | cases eo67 | (injection eo67 with ea_ en_ ec_; (first | subst ea_ | (injection ea_ with ea_; subst ea_)); subst ec_; clear en_)); have GB67 := aM gb67; have GG67 := aM HG67; clear gb67 gl67 HG67; obtain ⟨ce67, hcl67, hM67, hcc67, hfr67⟩ := Kd.R_elem HO289.out z32 (a1 : Int) p67 q67; obtain rfl := k32_openM hM67; have hx67_0 : w80.cell? ⟨go67, (a1 : Int).toNat * 5, none⟩ = some (.int .i64 ((rd_T32 t287 a1).f0)) := hcc67 0 _ rfl; have hx67_1 : w80.cell? ⟨go67, (a1 : Int).toNat * 5 + 1, none⟩ = some (.int .i64 ((rd_T32 t287 a1).f1)) := hcc67 1 _ rfl; have hx67_2 : w80.cell? ⟨go67, (a1 : Int).toNat * 5 + 2, none⟩ = some (.int .i64 ((rd_T32 t287 a1).f2)) := hcc67 2 _ rfl; have hx67_3 : w80.cell? ⟨go67, (a1 : Int).toNat * 5 + 3, none⟩ = some (.bool ((rd_T32 t287 a1).f3)) := hcc67 3 _ rfl; have hx67_4 : w80.cell? ⟨go67, (a1 : Int).toNat * 5 + 4, none⟩ = some (.bool ((rd_T32 t287 a1).f4)) := hcc67 4 _ rfl; have hf67_0 : w80.frozen? ⟨go67, (a1 : Int).toNat * 5, none⟩ = false := hfr67 0; have hf67_1 : w80.frozen? ⟨go67, (a1 : Int).toNat * 5 + 1, none⟩ = false := hfr67 1; have hf67_2 : w80.frozen? ⟨go67, (a1 : Int).toNat * 5 + 2, none⟩ = false := hfr67 2; have hf67_3 : w80.frozen? ⟨go67, (a1 : Int).toNat * 5 + 3, none⟩ = false := hfr67 3; have hf67_4 : w80.frozen? ⟨go67, (a1 : Int).toNat * 5 + 4, none⟩ = false := hfr67 4; clear hcl67 hcc67 hfr67 hM67; replace p67 := eq_true p67; replace q67 := eq_true q67; have HX82 := aM (show Kd.R k32 32 w80 w.heap.size (fun _ => True) (.slice (some ⟨go67, 0, none⟩) t287.length co75) t287 from (R_mv HO289.out)); obtain ⟨ce82, hcl82, hM82, hcc82, hfr82⟩ := Kd.R_elem HX82.out z32 (a1 : Int) (of_decide_eq_true (by first | (with_reducible assumption) | assumption)) (by have h_ : (a1 : Int) < ((t287.length : Int) : Int) := of_decide_eq_true (by first | (with_reducible assumption) | assumption); first | exact h_ | (have e_ := (Kd.R_reads' HO289.out).1; omega) | simpa using h_); obtain rfl := k32_openM hM82; have HP82 := Kd.R_seg HX82.out (a1 : Int) (of_decide_eq_true (by first | (with_reducible assumption) | assumption)) (by have h_ : (a1 : Int) < ((t287.length : Int) : Int) := of_decide_eq_true (by first | (with_reducible assumption) | assumption); first | exact h_ | (have e_ := (Kd.R_reads' HO289.out).1; omega) | simpa using h_) (seg := [.int .i64 a2]) (j := 2) hcl82 hcc82 (show 3 ≤ 5 from by decide) (x' := (⟨(rd_T32 t287 a1).f0, (rd_T32 t287 a1).f1, a2, (rd_T32 t287 a1).f3, (rd_T32 t287 a1).f4⟩ : S32)) (k32_mkM _ _ _ (⟨(rd_T32 t287 a1).f0, (rd_T32 t287 a1).f1, a2, (rd_T32 t287 a1).f3, (rd_T32 t287 a1).f4⟩ : S32) ) (fun _ hk => hk); have hx82_2 := hcc82 2 _ rfl; (try simp only [show (k32).sz = 5 from rfl, Nat.mul_one, Nat.add_zero] at hx82_2); have hf82_2 := hfr82 2; (try simp only [show (k32).sz = 5 from rfl, Nat.mul_one, Nat.add_zero] at hf82_2); clear hcl82 hcc82 hfr82 hM82) | ((with_reducible refine gate_store (t := 3) (p := 40) rfl ?_); refine store_event (t := 3) (p := 40) (v := ?vo_w83) (w1 := (w80.setCell ⟨go67, (a1 : Int).toNat * 5 + 2, none⟩ (.int .i64 a2))) ?hg ?ho ?hn ?hr ?_; (case ho => rfl); (case hg => rfl); (case hn => rfl); (case hr => first | (go_simp; done) | (go_simp; rfl)); intro w83 hw; have hg : w80.grownBy w83 (some go67) := (by rw [hw]; exact HP82.2); have hp_ : Kd.R k32 32 w83 w.heap.size (fun _ => True) (.slice (some ⟨go67, 0, none⟩) t287.length co75) y295 := (by rw [hw, Ny295.out]; exact HP82.1); clear HP82; replace BK272 := aM (blk_grown (blk_mv BK272.out) hg (Kd.R_ne HO289.out BK272.out (by decide))); replace BK273 := aM (blk_grown (blk_mv BK273.out) hg (Kd.R_ne HO289.out BK273.out (by decide))); replace HO292 := aM (Kd.R_over' (v := (.slice (some ⟨go67, 0, none⟩) t287.length co75)) (R_mv HO292.out) (Kd.R_typed HO289.out) (by decide) hg); replace BK294 := aM (blk_grown (blk_mv BK294.out) hg (Kd.R_ne HO289.out BK294.out (by decide))); replace HO289 := aM (hp_); replace HB := aM ((by rw [hw]; exact below_set (HB.out) GB67.out : Below w.heap.size w w83)); clear hg hw hp_))
      replace HO289 := aM (Kd.R_drew HO289.out)
      replace HO292 := aM (Kd.R_drew HO292.out)
      replace BK272 := aM (blk_drew BK272.out)
      replace BK273 := aM (blk_drew BK273.out)
      replace BK294 := aM (blk_drew BK294.out)
      replace HB := aM (below_drew1 HB.out)
      have p296 : 0 ≤ (a1 : Int) := of_decide_eq_true (by first | (with_reducible assumption) | assumption)
      have q296 : a1 < (y295.length : Int) := (by have h_ : (a1 : Int) < ((t287.length : Int) : Int) := of_decide_eq_true (by first | (with_reducible assumption) | assumption); first | (have e_ := (Kd.R_reads' HO289.out).1; omega) | simpa only [Ny295.out, List.length_set] using h_)
      have ql296 : ((a1 : Int) < ((t287.length : Int) : Int)) = True := eq_true (of_decide_eq_true (by first | (with_reducible assumption) | assumption))
      obtain ⟨ad296, e296, hx296_0, hx296_1, hx296_2, hx296_3, hx296_4⟩ := at_T32 (Kd.R_reads' HO289.out).2.2 a1 p296 q296
      (try rw [← Nbq68.out] at hx296_3)
      (try rw [← Nbq68.out] at hx296_4)
      obtain rfl : (⟨go67, 0, none⟩ : Addr) = ad296 := (by injection e296)
      (first | simp only [add_plain] at hx296_0 | simp only [add_at] at hx296_0 | simp only [Addr.add, Nat.zero_add] at hx296_0 | skip)
      (first | simp only [add_plain] at hx296_1 | simp only [add_at] at hx296_1 | simp only [Addr.add, Nat.zero_add] at hx296_1 | skip)
      (first | simp only [add_plain] at hx296_2 | simp only [add_at] at hx296_2 | simp only [Addr.add, Nat.zero_add] at hx296_2 | skip)
      (first | simp only [add_plain] at hx296_3 | simp only [add_at] at hx296_3 | simp only [Addr.add, Nat.zero_add] at hx296_3 | skip)
      (first | simp only [add_plain] at hx296_4 | simp only [add_at] at hx296_4 | simp only [Addr.add, Nat.zero_add] at hx296_4 | skip)
      replace p296 := eq_true p296
      replace q296 := eq_true q296
      have p70 : 0 ≤ (a1 : Int) := of_decide_eq_true (by first | (with_reducible assumption) | assumption)
      have q70 : (a1 : Int) < ((t287.length : Int) : Int) := of_decide_eq_true (by first | (with_reducible assumption) | assumption)
      obtain ⟨ce70, hcl70, hM70, hcc70, hfr70⟩ := Kd.R_elem HO289.out z32 (a1 : Int) p70 q70
      obtain rfl := k32_openM hM70
      have hx70_0 : World.cell? _ ⟨go67, (a1 : Int).toNat * 5, none⟩ = some (.int .i64 ((rd_T32 y295 a1).f0)) := hcc70 0 _ rfl
      have hx70_1 : World.cell? _ ⟨go67, (a1 : Int).toNat * 5 + 1, none⟩ = some (.int .i64 ((rd_T32 y295 a1).f1)) := hcc70 1 _ rfl
      have hx70_2 : World.cell? _ ⟨go67, (a1 : Int).toNat * 5 + 2, none⟩ = some (.int .i64 ((rd_T32 y295 a1).f2)) := hcc70 2 _ rfl
      have hx70_3 : World.cell? _ ⟨go67, (a1 : Int).toNat * 5 + 3, none⟩ = some (.bool ((rd_T32 y295 a1).f3)) := hcc70 3 _ rfl
      have hx70_4 : World.cell? _ ⟨go67, (a1 : Int).toNat * 5 + 4, none⟩ = some (.bool ((rd_T32 y295 a1).f4)) := hcc70 4 _ rfl
      have hf70_0 : World.frozen? _ ⟨go67, (a1 : Int).toNat * 5, none⟩ = false := hfr70 0
      have hf70_1 : World.frozen? _ ⟨go67, (a1 : Int).toNat * 5 + 1, none⟩ = false := hfr70 1
      have hf70_2 : World.frozen? _ ⟨go67, (a1 : Int).toNat * 5 + 2, none⟩ = false := hfr70 2
      have hf70_3 : World.frozen? _ ⟨go67, (a1 : Int).toNat * 5 + 3, none⟩ = false := hfr70 3
      have hf70_4 : World.frozen? _ ⟨go67, (a1 : Int).toNat * 5 + 4, none⟩ = false := hfr70 4
      clear hcl70 hcc70 hfr70 hM70
      replace p70 := eq_true p70
      replace q70 := eq_true q70
      obtain ⟨ce85, hcl85, hM85, hcc85, hfr85⟩ := Kd.R_elem HO289.out z32 (a1 : Int) (of_decide_eq_true (by first | (with_reducible assumption) | assumption)) (by have h_ : (a1 : Int) < ((t287.length : Int) : Int) := of_decide_eq_true (by first | (with_reducible assumption) | assumption); first | exact h_ | (have e_ := (Kd.R_reads' HO289.out).1; omega) | simpa using h_)
      obtain rfl := k32_openM hM85
      have HP85 := (Kd.R_seg HO289.out (a1 : Int) (of_decide_eq_true (by first | (with_reducible assumption) | assumption)) (by have h_ : (a1 : Int) < ((t287.length : Int) : Int) := of_decide_eq_true (by first | (with_reducible assumption) | assumption); first | exact h_ | (have e_ := (Kd.R_reads' HO289.out).1; omega) | simpa using h_) (seg := [.bool (a2 != (-1))]) (j := 4) hcl85 hcc85 (show 5 ≤ 5 from by decide) (x' := (⟨(rd_T32 y295 a1).f0, (rd_T32 y295 a1).f1, (rd_T32 y295 a1).f2, (rd_T32 y295 a1).f3, (a2 != (-1))⟩ : S32)) (k32_mkM _ _ _ (⟨(rd_T32 y295 a1).f0, (rd_T32 y295 a1).f1, (rd_T32 y295 a1).f2, (rd_T32 y295 a1).f3, (a2 != (-1))⟩ : S32) ) (fun _ hk => hk)).1
      rw [← Ny297.out] at HP85
      have HQ85 := aM HP85
      clear hcl85 hcc85 hfr85 hM85 HP85
      refine start_ (n := 16) (S := fun w' => w'.cell? ⟨gb294, 0, none⟩ = some (.slice (some ⟨go67, 0, none⟩) t287.length co75) ∧ w'.cell? ⟨gb294, 1, none⟩ = some (.slice Ao79 t290.length co79) ∧ w'.cell? ⟨gb294, 2, none⟩ = some (.int .i64 t293) ∧ w'.cell? ⟨go67, (a1).toNat * 5, none⟩ = some (.int .i64 ((rd_T32 y295 a1).f0)) ∧ w'.cell? ⟨go67, (a1).toNat * 5 + 1, none⟩ = some (.int .i64 ((rd_T32 y295 a1).f1)) ∧ w'.cell? ⟨go67, (a1).toNat * 5 + 2, none⟩ = some (.int .i64 ((rd_T32 y295 a1).f2)) ∧ w'.cell? ⟨go67, (a1).toNat * 5 + 3, none⟩ = some (.bool ((rd_T32 y295 a1).f3)) ∧ w'.cell? ⟨go67, (a1).toNat * 5 + 4, none⟩ = some (.bool true)) (ds := [15]) #[false, false, false, false, false, false, false, false, false, false, false, false, false, false, false, false] (by kernel_rfl) rfl rfl ⟨(blk_cell BK294.out 0).trans rfl, (blk_cell BK294.out 1).trans rfl, (blk_cell BK294.out 2).trans rfl, hx296_0, hx296_1, hx296_2, hx296_3, hx296_4⟩ (fun hHeld => ?_); refine with_tabW feeder_Answer.tab10 feeder_Answer.bits10 (fun HT_ HW_ => ?_)
      generalize w83.drew = w84 at HO289 HO292 BK272 BK273 BK294 HB HQ85 hf70_0 hf70_1 hf70_2 hf70_3 hf70_4 hx296_0 hx296_1 hx296_2 hx296_3 hx296_4 hx70_0 hx70_1 hx70_2 hx70_3 hx70_4 hHeld ⊢
      refine pure_ (i := 0) (N := some 41) (v := ?_) (a' := ?_) #[true, false, false, false, false, false, false, false, false, false, false, false, false, false, false, false] rfl rfl (any_of HT_.out (by kernel_rfl)) (fun _ _ _ h => h) (Or.inl ⟨by rfl, ?_⟩) ?_ ?_
      rotate_left
      ·
       intro w'
       go_simp
       with_reducible rfl
      rotate_left
      ·
       simp only [Act.put, sT, sZ, sS, i64_w, i32_w]
       rfl
      refine pure_ (i := 2) (N := some 43) (v := ?_) (a' := ?_) #[true, false, true, false, false, false, false, false, false, false, false, false, false, false, false, false] rfl rfl (any_of HT_.out (by kernel_rfl)) (fun _ _ _ h => h) (Or.inl ⟨by rfl, ?_⟩) ?_ ?_
      rotate_left
      ·
       intro w'
       go_simp
       with_reducible rfl
      rotate_left
      ·
       simp only [Act.put, sT, sZ, sS, i64_w, i32_w]
       rfl
      refine pure_ (i := 3) (N := some 44) (v := ?_) (a' := ?_) #[true, false, true, true, false, false, false, false, false, false, false, false, false, false, false, false] rfl rfl (any_of HT_.out (by kernel_rfl)) (fun _ _ _ h => h) (Or.inl ⟨by rfl, ?_⟩) ?_ ?_
      rotate_left
      ·
       intro w'
       go_simp
       with_reducible rfl
      rotate_left
      ·
       simp only [Act.put, sT, sZ, sS, i64_w, i32_w]
       rfl
      refine pure_ (i := 5) (N := some 46) (v := ?_) (a' := ?_) #[true, false, true, true, false, true, false, false, false, false, false, false, false, false, false, false] rfl rfl (any_of HT_.out (by kernel_rfl)) (fun _ _ _ h => h) (Or.inl ⟨by rfl, ?_⟩) ?_ ?_
      rotate_left
      ·
       intro w'
       go_simp
       with_reducible rfl
      rotate_left
      ·
       simp only [Act.put, sT, sZ, sS, i64_w, i32_w]
       rfl
      refine take_ (i := 1) (N := some 42) (v := ?_) (a' := ?_) #[true, true, true, true, false, true, false, false, false, false, false, false, false, false, false, false] rfl rfl (take_ofW HT_.out HW_.out (by kernel_rfl)) (fun _ _ _ h => h) (Or.inl ⟨by rfl, ?_⟩) hHeld ?_ ?_
      rotate_left
      ·
       rintro w' ⟨s0, s1, s2, s3, s4, s5, s6, s7⟩
       go_simp
       with_reducible rfl
      rotate_left
      ·
       simp only [Act.put, sT, sZ, sS, i64_w, i32_w]
       rfl
      refine take_ (i := 4) (N := some 45) (v := ?_) (a' := ?_) #[true, true, true, true, true, true, false, false, false, false, false, false, false, false, false, false] rfl rfl (take_ofW HT_.out HW_.out (by kernel_rfl)) (fun _ _ _ h => h) (Or.inl ⟨by rfl, ?_⟩) hHeld ?_ ?_
      rotate_left
      ·
       rintro w' ⟨s0, s1, s2, s3, s4, s5, s6, s7⟩
       go_simp
       with_reducible rfl
      rotate_left
      ·
       simp only [Act.put, sT, sZ, sS, i64_w, i32_w]
       rfl
      refine pure_ (i := 6) (N := some 47) (v := ?_) (a' := ?_) #[true, true, true, true, true, true, true, false, false, false, false, false, false, false, false, false] rfl rfl (any_of HT_.out (by kernel_rfl)) (fun _ _ _ h => h) (Or.inl ⟨by rfl, ?_⟩) ?_ ?_
      rotate_left
      ·
       intro w'
       go_simp
       with_reducible rfl
      rotate_left
      ·
       simp only [Act.put, sT, sZ, sS, i64_w, i32_w]
       rfl
      refine pure_ (i := 7) (N := some 48) (v := ?_) (a' := ?_) #[true, true, true, true, true, true, true, true, false, false, false, false, false, false, false, false] rfl rfl (any_of HT_.out (by kernel_rfl)) (fun _ _ _ h => h) (Or.inl ⟨by rfl, ?_⟩) ?_ ?_
      rotate_left
      ·
       intro w'
       go_simp
       with_reducible rfl
      rotate_left
      ·
       simp only [Act.put, sT, sZ, sS, i64_w, i32_w]
       rfl
      refine take_ (i := 8) (N := some 49) (v := ?_) (a' := ?_) #[true, true, true, true, true, true, true, true, true, false, false, false, false, false, false, false] rfl rfl (take_ofW HT_.out HW_.out (by kernel_rfl)) (fun _ _ _ h => h) (Or.inl ⟨by rfl, ?_⟩) hHeld ?_ ?_
      rotate_left
      ·
       rintro w' ⟨s0, s1, s2, s3, s4, s5, s6, s7⟩
       go_simp
       with_reducible rfl
      rotate_left
      ·
       simp only [Act.put, sT, sZ, sS, i64_w, i32_w]
       rfl
      refine pure_ (i := 9) (N := some 50) (v := ?_) (a' := ?_) #[true, true, true, true, true, true, true, true, true, true, false, false, false, false, false, false] rfl rfl (any_of HT_.out (by kernel_rfl)) (fun _ _ _ h => h) (Or.inl ⟨by rfl, ?_⟩) ?_ ?_
      rotate_left
      ·
       intro w'
       go_simp
       with_reducible rfl
      rotate_left
      ·
       simp only [Act.put, sT, sZ, sS, i64_w, i32_w]
       rfl
      refine pure_ (i := 10) (N := some 51) (v := ?_) (a' := ?_) #[true, true, true, true, true, true, true, true, true, true, true, false, false, false, false, false] rfl rfl (any_of HT_.out (by kernel_rfl)) (fun _ _ _ h => h) (Or.inl ⟨by rfl, ?_⟩) ?_ ?_
      rotate_left
      ·
       intro w'
       go_simp
       with_reducible rfl
      rotate_left
      ·
       simp only [Act.put, sT, sZ, sS, i64_w, i32_w]
       rfl
      refine pure_ (i := 11) (N := some 52) (v := ?_) (a' := ?_) #[true, true, true, true, true, true, true, true, true, true, true, true, false, false, false, false] rfl rfl (any_of HT_.out (by kernel_rfl)) (fun _ _ _ h => h) (Or.inl ⟨by rfl, ?_⟩) ?_ ?_
      rotate_left
      ·
       intro w'
       go_simp
       with_reducible rfl
      rotate_left
      ·
       simp only [Act.put, sT, sZ, sS, i64_w, i32_w]
       rfl
      refine pure_ (i := 12) (N := some 53) (v := ?_) (a' := ?_) #[true, true, true, true, true, true, true, true, true, true, true, true, true, false, false, false] rfl rfl (any_of HT_.out (by kernel_rfl)) (fun _ _ _ h => h) (Or.inl ⟨by rfl, ?_⟩) ?_ ?_
      rotate_left
      ·
       intro w'
       go_simp
       with_reducible rfl
      rotate_left
      ·
       simp only [Act.put, sT, sZ, sS, i64_w, i32_w]
       rfl
      refine pure_ (i := 13) (N := some 54) (v := ?_) (a' := ?_) #[true, true, true, true, true, true, true, true, true, true, true, true, true, true, false, false] rfl rfl (any_of HT_.out (by kernel_rfl)) (fun _ _ _ h => h) (Or.inl ⟨by rfl, ?_⟩) ?_ ?_
      rotate_left
      ·
       intro w'
       go_simp
       with_reducible rfl
      rotate_left
      ·
       simp only [Act.put, sT, sZ, sS, i64_w, i32_w]
       rfl
      refine pure_ (i := 14) (N := some 55) (v := ?_) (a' := ?_) #[true, true, true, true, true, true, true, true, true, true, true, true, true, true, true, false] rfl rfl (any_of HT_.out (by kernel_rfl)) (fun _ _ _ h => h) (Or.inl ⟨by rfl, ?_⟩) ?_ ?_
      rotate_left
      ·
       intro w'
       go_simp
       with_reducible rfl
      rotate_left
      ·
       simp only [Act.put, sT, sZ, sS, i64_w, i32_w]
       rfl
      refine last_ (i := 15) (N := none) #[true, true, true, true, true, true, true, true, true, true, true, true, true, true, true, true] rfl rfl (one_of HT_.out (by kernel_rfl)) (by decide) (fun K hK => ?_)
      refine skip_ (w1 := ?_) (by rfl) rfl ?_ ?_
      rotate_left
      ·
       go_simp
       rfl
      refine hK.out _ _ ?_
      clear hK K
      refine done_ (done_of HT_.out (by kernel_rfl)) ?_
      have n0_ : Aside0 (Kd.R k32 32 (w84.setCell ⟨go67, (a1 : Int).toNat * 5 + 4, none⟩ (.bool (a2 != (-1)))) w.heap.size (fun _ => True) (.slice (some ⟨go67, 0, none⟩) t287.length co75) y297) := ⟨by (with_reducible repeat (first | apply Kd.R_alloc | apply Kd.R_drewN | apply Kd.R_drew)); exact HQ85.out⟩
      have n1_ : Aside0 (Kd.R (Kd.int .i64) 3 (w84.setCell ⟨go67, (a1 : Int).toNat * 5 + 4, none⟩ (.bool (a2 != (-1)))) w.heap.size (fun _ => True) (.slice Ao79 t290.length co79) t290) := ⟨by (with_reducible repeat (first | apply Kd.R_alloc | apply Kd.R_drewN | apply Kd.R_drew)); exact Kd.R_mono (Kd.R_far (p := ⟨go67, (a1 : Int).toNat * 5 + 4, none⟩) (Kd.R_types HO292.out (Kd.R_typed HO289.out _ rfl).choose_spec (by decide)) (fun _ hk => hk.2) (.bool (a2 != (-1)))) (fun _ hk => trivial)⟩
      have n2_ : Aside0 ((w84.setCell ⟨go67, (a1 : Int).toNat * 5 + 4, none⟩ (.bool (a2 != (-1)))).heap[gb272]? = some (.cells #[.slice A0_0 l0_0.length c0_0, .slice A0_1 l0_1.length c0_1, .int .i64 a0_2] 28 (0, 0))) := ⟨by (with_reducible repeat (first | refine kN ?_ _ | refine kD ?_ | refine kA ?_ _)); refine blk_far ?_ (by have h_ := Kd.R_ne HO289.out BK272.out (by decide); intro e_; exact h_ (by rw [e_]; rfl)) _; (with_reducible repeat (first | refine kN ?_ _ | refine kD ?_ | refine kA ?_ _)); exact BK272.out⟩
      have n3_ : Aside0 ((w84.setCell ⟨go67, (a1 : Int).toNat * 5 + 4, none⟩ (.bool (a2 != (-1)))).heap[gb273]? = some (.cells #[.slice none 0 0, .slice none 0 0, .int .i64 0] 28 (0, 0))) := ⟨by (with_reducible repeat (first | refine kN ?_ _ | refine kD ?_ | refine kA ?_ _)); refine blk_far ?_ (by have h_ := Kd.R_ne HO289.out BK273.out (by decide); intro e_; exact h_ (by rw [e_]; rfl)) _; (with_reducible repeat (first | refine kN ?_ _ | refine kD ?_ | refine kA ?_ _)); exact BK273.out⟩
      have n4_ : Aside0 ((w84.setCell ⟨go67, (a1 : Int).toNat * 5 + 4, none⟩ (.bool (a2 != (-1)))).heap[gb294]? = some (.cells #[.slice (some ⟨go67, 0, none⟩) t287.length co75, .slice Ao79 t290.length co79, .int .i64 t293] 28 (0, 0))) := ⟨by (with_reducible repeat (first | refine kN ?_ _ | refine kD ?_ | refine kA ?_ _)); refine blk_far ?_ (by have h_ := Kd.R_ne HO289.out BK294.out (by decide); intro e_; exact h_ (by rw [e_]; rfl)) _; (with_reducible repeat (first | refine kN ?_ _ | refine kD ?_ | refine kA ?_ _)); exact BK294.out⟩
      have n5_ : Aside0 (Below w.heap.size w (w84.setCell ⟨go67, (a1 : Int).toNat * 5 + 4, none⟩ (.bool (a2 != (-1))))) := ⟨by repeat (first | (with_reducible first | exact HB.out | apply bA | apply bN | apply bD | refine below_set ?_ GB67.out | refine below_set ?_ GE272.out | refine below_set ?_ GE273.out | refine below_set ?_ GE294.out) | exact HB.out)⟩
      (try clear HO289)
      (try clear HO292)
      (try clear BK272)
      (try clear BK273)
      (try clear BK294)
      (try clear HB)
      first | (have hbv_ : (a2 != (-1)) = false := (by assumption); rw [hbv_] at n0_ n1_ n2_ n3_ n4_ n5_; generalize (w84.setCell ⟨go67, (a1 : Int).toNat * 5 + 4, none⟩ (.bool false)) = w86 at n0_ n1_ n2_ n3_ n4_ n5_ ⊢) | (have hbv_ : (a2 != (-1)) = true := (by assumption); rw [hbv_] at n0_ n1_ n2_ n3_ n4_ n5_; generalize (w84.setCell ⟨go67, (a1 : Int).toNat * 5 + 4, none⟩ (.bool true)) = w86 at n0_ n1_ n2_ n3_ n4_ n5_ ⊢) | generalize (w84.setCell ⟨go67, (a1 : Int).toNat * 5 + 4, none⟩ (.bool (a2 != (-1)))) = w86 at n0_ n1_ n2_ n3_ n4_ n5_ ⊢
      have HO289 := n0_
      have HO292 := n1_
      have BK272 := n2_
      have BK273 := n3_
      have BK294 := n4_
      have HB := n5_
      clear n0_ n1_ n2_ n3_ n4_ n5_
      obtain ⟨hcz87_0, hcz87_1, hcz87_2, hfz87_0, hfz87_1, hfz87_2⟩ := blk3 BK294.out
      obtain ⟨hcz88_0, hcz88_1, hcz88_2, hfz88_0, hfz88_1, hfz88_2⟩ := blk3 BK273.out
      try go_wp2
      refine bodyPost_ret (results_ct rfl _ _ gb273 28 #[.slice (some ⟨go67, 0, none⟩) t287.length co75, .slice Ao79 t290.length co79, .int .i64 t293] (0, 0) _ rfl (by (with_reducible repeat (first | refine kN ?_ _ | refine kD ?_ | refine kA ?_ _)); refine blk_put (cs := #[.slice (some ⟨go67, 0, none⟩) t287.length co75, .slice Ao79 t290.length co79, .int .i64 0]) ?_ 2 _ rfl; (with_reducible repeat (first | refine kN ?_ _ | refine kD ?_ | refine kA ?_ _)); refine blk_put (cs := #[.slice (some ⟨go67, 0, none⟩) t287.length co75, .slice none 0 0, .int .i64 0]) ?_ 1 _ rfl; (with_reducible repeat (first | refine kN ?_ _ | refine kD ?_ | refine kA ?_ _)); refine blk_put (cs := #[.slice none 0 0, .slice none 0 0, .int .i64 0]) ?_ 0 _ rfl; (with_reducible repeat (first | refine kN ?_ _ | refine kD ?_ | refine kA ?_ _)); exact BK273.out) Try.underlying28 rfl (by kernel_rfl)) rfl ?_
      exact ⟨_, _, by first | rfl | (simp [errW_none, errW_some] <;> rfl) | (simp [*, errW_none, errW_some] <;> rfl), by (with_reducible repeat (first | apply Kd.R_alloc | apply Kd.R_drewN | apply Kd.R_drew)); exact Kd.R_mono (f3 HO289.out BK273.out (by decide)) (fun _ hk => trivial), by (with_reducible repeat (first | apply Kd.R_alloc | apply Kd.R_drewN | apply Kd.R_drew)); exact Kd.R_mono (f3 HO292.out BK273.out (by decide)) (fun _ hk => trivial), by repeat (first | (with_reducible first | exact HB.out | apply bA | apply bN | apply bD | refine below_set ?_ GE272.out | refine below_set ?_ GE273.out | refine below_set ?_ GE294.out) | exact HB.out)⟩
     replace c69 := Bool.eq_false_iff.mpr c69
     subst c69
     have H1 : (some ((y295.set (a1 : Int).toNat (⟨(rd_T32 y295 a1).f0, (rd_T32 y295 a1).f1, (rd_T32 y295 a1).f2, (rd_T32 y295 a1).f3, false⟩ : S32)), t290, t293, 0)) = some (r1, r2, r3, r4) := by rw [if_neg (show ¬ (false = true) by decide)] at H; exact H
     clear H
     have H := H1
     clear H1
     obtain ⟨y298, hy298⟩ : ∃ y_ : List (S32), y_ = (y295.set (a1 : Int).toNat (⟨(rd_T32 y295 a1).f0, (rd_T32 y295 a1).f1, (rd_T32 y295 a1).f2, (rd_T32 y295 a1).f3, false⟩ : S32)) := ⟨_, rfl⟩
     replace H : (some (y298, t290, t293, 0)) = some (r1, r2, r3, r4) := by first | (rw [hy298]; with_reducible exact H) | (have H2_ := (Option.bind_some _ _).symm.trans H; rw [hy298]; with_reducible exact H2_) | (have H2_ := (Option.bind_some _ _).symm.trans H; with_reducible exact H2_) | with_reducible exact H | (rw [hy298]; exact H) | exact H
     have Ny298 := aM hy298
     clear hy298
     simp only [Option.some.injEq, Prod.mk.injEq] at H
     obtain ⟨rfl, rfl, rfl, rfl⟩ := H
     have hnb90 := NB272_273.out
     have hnc90 := NB273_272.out
     obtain ⟨hcz91_0, hcz91_1, hcz91_2, hfz91_0, hfz91_1, hfz91_2⟩ := blk3 BK272.out
     try go_wp2_with (first | ((with_reducible refine gate_callee (f := 43) rfl ?_); refine goesL_ (some 34) rfl rfl Try.func43 (by kernel_rfl) rfl #[.agg #[.slice A0_0 l0_0.length c0_0, .slice A0_1 l0_1.length c0_1, .int .i64 a0_2]] rfl (by first | rfl | (simp only [List.map_toArray, List.map_cons, List.map_nil, List.length_drop, List.length_take]; try rfl)) ?_; (with_reducible refine (feeder_clone.calls _ _ l0_0 _ _ l0_1 a0_2 t287 t290 t293 _ ?side1 ?side2 ?side3 ?side4 A64.out).mono ?_); (case side1 => first | exact C_mv (Kd.C_below HR0_0.out HB.out) | exact C_mv HR0_0.out); (case side2 => exact HC0_0.out); (case side3 => first | exact C_mv (Kd.C_below HR0_1.out HB.out) | exact C_mv HR0_1.out); (case side4 => exact HC0_1.out); rintro e w92 ⟨v288, v291, rfl, ho0, ho1, hb⟩; refine ⟨_, rfl, ?_⟩; have HO289 := aM (Kd.R_lower ho0 (below_size (by repeat (first | (with_reducible first | exact HB.out | apply bA | apply bN | apply bD | refine below_set ?_ GE272.out | refine below_set ?_ GE273.out) | exact HB.out)))); have HO292 := aM (Kd.R_lower ho1 (below_size (by repeat (first | (with_reducible first | exact HB.out | apply bA | apply bN | apply bD | refine below_set ?_ GE272.out | refine below_set ?_ GE273.out) | exact HB.out)))); replace BK272 := aM (blk_below (blk_mv BK272.out) hb); replace BK273 := aM (blk_below (blk_mv BK273.out) hb); replace HB := aM (below_step (by repeat (first | (with_reducible first | exact HB.out | apply bA | apply bN | apply bD | refine below_set ?_ GE272.out | refine below_set ?_ GE273.out) | exact HB.out)) hb); (try clear hb); (try clear hb2); (try clear hge); (try clear hk); (try clear hi); (try clear ho0); (try clear ho1)) | ((with_reducible refine gate_dst (N := 9) rfl ?_); (try (refine gate_guard (by rfl) ?_; dsimp only)); refine box_event ?hg (N := 9) ?hd (cs := #[.slice none 0 0, .slice none 0 0, .int .i64 0]) (t := 28) ?hr ?_; (case hd => rfl); (case hg => rfl); (case hr => first | (go_simp; done) | (go_simp; rfl)); intro gb294 hg w93 hbox hb; replace HO289 := aM (Kd.R_below (R_mv HO289.out) hb); replace HO292 := aM (Kd.R_below (R_mv HO292.out) hb); have BK294 := aM (hbox); have GW294 := aM ((by rw [hg]; exact (below_size (by repeat (first | (with_reducible first | exact HB.out | apply bA | apply bN | apply bD | refine below_set ?_ GE272.out | refine below_set ?_ GE273.out) | exact HB.out))) : w.heap.size ≤ gb294)); have GE294 := aM ((by rw [hg]; exact (below_size (by repeat (first | (with_reducible first | exact HB.out | apply bA | apply bN | apply bD | refine below_set ?_ GE272.out | refine below_set ?_ GE273.out) | exact HB.out))) : w.heap.size ≤ gb294)); replace HB := aM (below_step (by repeat (first | (with_reducible first | exact HB.out | apply bA | apply bN | apply bD | refine below_set ?_ GE272.out | refine below_set ?_ GE273.out) | exact HB.out)) hb); have NB272_294 := aM ((by rw [hg]; exact Nat.ne_of_lt (blk_lt (blk_mv BK272.out)) : gb272 ≠ gb294)); have NB294_272 := aM ((by rw [hg]; exact Nat.ne_of_gt (blk_lt (blk_mv BK272.out)) : gb294 ≠ gb272)); replace BK272 := aM (blk_below (blk_mv BK272.out) hb); have NB273_294 := aM ((by rw [hg]; exact Nat.ne_of_lt (blk_lt (blk_mv BK273.out)) : gb273 ≠ gb294)); have NB294_273 := aM ((by rw [hg]; exact Nat.ne_of_gt (blk_lt (blk_mv BK273.out)) : gb294 ≠ gb273)); replace BK273 := aM (blk_below (blk_mv BK273.out) hb); clear hb hbox hg; obtain ⟨Ao94, co94, eo94⟩ := Kd.R_slice HO289.out; subst eo94; have hnb95 := NB294_272.out; have hnc95 := NB272_294.out; have hnb96 := NB294_273.out; have hnc96 := NB273_294.out; obtain ⟨hcz97_0, hcz97_1, hcz97_2, hfz97_0, hfz97_1, hfz97_2⟩ := blk3 BK294.out; obtain ⟨Ao98, co98, eo98⟩ := Kd.R_slice HO292.out; subst eo98) | ((with_reducible refine gate_store (t := 28) (p := 9) rfl ?_); refine store_event (t := 28) (p := 9) (v := ?vo_w99) (w1 := (((w93.setCell ⟨gb294, 0, none⟩ (.slice Ao94 t287.length co94)).setCell ⟨gb294, 1, none⟩ (.slice Ao98 t290.length co98)).setCell ⟨gb294, 2, none⟩ (.int .i64 t293))) ?hg ?ho ?hn ?hr ?_; (case ho => rfl); (case hg => rfl); (case hn => rfl); (case hr => first | (go_simp; done) | (go_simp; rfl)); intro w99 hw; have n0_ : Aside0 (Kd.R k32 32 w99 w.heap.size (fun _ => True) (.slice Ao94 t287.length co94) t287) := ⟨(by rw [hw]; exact (by (with_reducible repeat (first | apply Kd.R_alloc | apply Kd.R_drewN | apply Kd.R_drew)); exact Kd.R_mono (f3 HO289.out BK294.out (by decide)) (fun _ hk => trivial)))⟩; have n1_ : Aside0 (Kd.R (Kd.int .i64) 3 w99 w.heap.size (fun _ => True) (.slice Ao98 t290.length co98) t290) := ⟨(by rw [hw]; exact (by (with_reducible repeat (first | apply Kd.R_alloc | apply Kd.R_drewN | apply Kd.R_drew)); exact Kd.R_mono (f3 HO292.out BK294.out (by decide)) (fun _ hk => trivial)))⟩; have n2_ : Aside0 (w99.heap[gb272]? = some (.cells #[.slice A0_0 l0_0.length c0_0, .slice A0_1 l0_1.length c0_1, .int .i64 a0_2] 28 (0, 0))) := ⟨(by rw [hw]; exact (by (with_reducible repeat (first | refine kN ?_ _ | refine kD ?_ | refine kA ?_ _)); refine blk_far ?_ NB272_294.out _; (with_reducible repeat (first | refine kN ?_ _ | refine kD ?_ | refine kA ?_ _)); refine blk_far ?_ NB272_294.out _; (with_reducible repeat (first | refine kN ?_ _ | refine kD ?_ | refine kA ?_ _)); refine blk_far ?_ NB272_294.out _; (with_reducible repeat (first | refine kN ?_ _ | refine kD ?_ | refine kA ?_ _)); exact BK272.out))⟩; have n3_ : Aside0 (w99.heap[gb273]? = some (.cells #[.slice none 0 0, .slice none 0 0, .int .i64 0] 28 (0, 0))) := ⟨(by rw [hw]; exact (by (with_reducible repeat (first | refine kN ?_ _ | refine kD ?_ | refine kA ?_ _)); refine blk_far ?_ NB273_294.out _; (with_reducible repeat (first | refine kN ?_ _ | refine kD ?_ | refine kA ?_ _)); refine blk_far ?_ NB273_294.out _; (with_reducible repeat (first | refine kN ?_ _ | refine kD ?_ | refine kA ?_ _)); refine blk_far ?_ NB273_294.out _; (with_reducible repeat (first | refine kN ?_ _ | refine kD ?_ | refine kA ?_ _)); exact BK273.out))⟩; have n4_ : Aside0 (w99.heap[gb294]? = some (.cells #[.slice Ao94 t287.length co94, .slice Ao98 t290.length co98, .int .i64 t293] 28 (0, 0))) := ⟨(by rw [hw]; exact (by (with_reducible repeat (first | refine kN ?_ _ | refine kD ?_ | refine kA ?_ _)); refine blk_put (cs := #[.slice Ao94 t287.length co94, .slice Ao98 t290.length co98, .int .i64 0]) ?_ 2 _ rfl; (with_reducible repeat (first | refine kN ?_ _ | refine kD ?_ | refine kA ?_ _)); refine blk_put (cs := #[.slice Ao94 t287.length co94, .slice none 0 0, .int .i64 0]) ?_ 1 _ rfl; (with_reducible repeat (first | refine kN ?_ _ | refine kD ?_ | refine kA ?_ _)); refine blk_put (cs := #[.slice none 0 0, .slice none 0 0, .int .i64 0]) ?_ 0 _ rfl; (with_reducible repeat (first | refine kN ?_ _ | refine kD ?_ | refine kA ?_ _)); exact BK294.out))⟩; have n5_ : Aside0 (Below w.heap.size w w99) := ⟨(by rw [hw]; exact (by repeat (first | (with_reducible first | exact HB.out | apply bA | apply bN | apply bD | refine below_set ?_ GE272.out | refine below_set ?_ GE273.out | refine below_set ?_ GE294.out) | exact HB.out)))⟩; clear hw; clear HO289; clear HO292; clear BK272; clear BK273; clear BK294; clear HB; have HO289 := n0_; have HO292 := n1_; have BK272 := n2_; have BK273 := n3_; have BK294 := n4_; have HB := n5_; clear n0_ n1_ n2_ n3_ n4_ n5_; obtain ⟨hcz100_0, hcz100_1, hcz100_2, hfz100_0, hfz100_1, hfz100_2⟩ := blk3 BK294.out; have p67 : 0 ≤ (a1 : Int) := of_decide_eq_true (by first | (with_reducible assumption) | assumption); have q67 : (a1 : Int) < ((t287.length : Int) : Int) := of_decide_eq_true (by first | (with_reducible assumption) | assumption); obtain ⟨go67, co67, eo67, gb67, gl67, cl67, HG67⟩ := Kd.R_form HO289.out (by omega); (first | cases eo67 | (injection eo67 with ea_ en_ ec_; (first | subst ea_ | (injection ea_ with ea_; subst ea_)); subst ec_; clear en_)); have GB67 := aM gb67; have GG67 := aM HG67; clear gb67 gl67 HG67; obtain ⟨ce67, hcl67, hM67, hcc67, hfr67⟩ := Kd.R_elem HO289.out z32 (a1 : Int) p67 q67; obtain rfl := k32_openM hM67; have hx67_0 : w99.cell? ⟨go67, (a1 : Int).toNat * 5, none⟩ = some (.int .i64 ((rd_T32 t287 a1).f0)) := hcc67 0 _ rfl; have hx67_1 : w99.cell? ⟨go67, (a1 : Int).toNat * 5 + 1, none⟩ = some (.int .i64 ((rd_T32 t287 a1).f1)) := hcc67 1 _ rfl; have hx67_2 : w99.cell? ⟨go67, (a1 : Int).toNat * 5 + 2, none⟩ = some (.int .i64 ((rd_T32 t287 a1).f2)) := hcc67 2 _ rfl; have hx67_3 : w99.cell? ⟨go67, (a1 : Int).toNat * 5 + 3, none⟩ = some (.bool ((rd_T32 t287 a1).f3)) := hcc67 3 _ rfl; have hx67_4 : w99.cell? ⟨go67, (a1 : Int).toNat * 5 + 4, none⟩ = some (.bool ((rd_T32 t287 a1).f4)) := hcc67 4 _ rfl; have hf67_0 : w99.frozen? ⟨go67, (a1 : Int).toNat * 5, none⟩ = false := hfr67 0; have hf67_1 : w99.frozen? ⟨go67, (a1 : Int).toNat * 5 + 1, none⟩ = false := hfr67 1; have hf67_2 : w99.frozen? ⟨go67, (a1 : Int).toNat * 5 + 2, none⟩ = false := hfr67 2; have hf67_3 : w99.frozen? ⟨go67, (a1 : Int).toNat * 5 + 3, none⟩ = false := hfr67 3; have hf67_4 : w99.frozen? ⟨go67, (a1 : Int).toNat * 5 + 4, none⟩ = false := hfr67 4; clear hcl67 hcc67 hfr67 hM67; replace p67 := eq_true p67; replace q67 := eq_true q67; have HX101 := aM (show Kd.R k32 32 w99 w.heap.size (fun _ => True) (.slice (some ⟨go67, 0, none⟩) t287.length co94) t287 from (R_mv HO289.out)); obtain ⟨ce101, hcl101, hM101, hcc101, hfr101⟩ := Kd.R_elem HX101.out z32 (a1 : Int) (of_decide_eq_true (by first | (with_reducible assumption) | assumption)) (by have h_ : (a1 : Int) < ((t287.length : Int) : Int) := of_decide_eq_true (by first | (with_reducible assumption) | assumption); first | exact h_ | (have e_ := (Kd.R_reads' HO289.out).1; omega) | simpa using h_); obtain rfl := k32_openM hM101; have HP101 := Kd.R_seg HX101.out (a1 : Int) (of_decide_eq_true (by first | (with_reducible assumption) | assumption)) (by have h_ : (a1 : Int) < ((t287.length : Int) : Int) := of_decide_eq_true (by first | (with_reducible assumption) | assumption); first | exact h_ | (have e_ := (Kd.R_reads' HO289.out).1; omega) | simpa using h_) (seg := [.int .i64 a2]) (j := 2) hcl101 hcc101 (show 3 ≤ 5 from by decide) (x' := (⟨(rd_T32 t287 a1).f0, (rd_T32 t287 a1).f1, a2, (rd_T32 t287 a1).f3, (rd_T32 t287 a1).f4⟩ : S32)) (k32_mkM _ _ _ (⟨(rd_T32 t287 a1).f0, (rd_T32 t287 a1).f1, a2, (rd_T32 t287 a1).f3, (rd_T32 t287 a1).f4⟩ : S32) ) (fun _ hk => hk); have hx101_2 := hcc101 2 _ rfl; (try simp only [show (k32).sz = 5 from rfl, Nat.mul_one, Nat.add_zero] at hx101_2); have hf101_2 := hfr101 2; (try simp only [show (k32).sz = 5 from rfl, Nat.mul_one, Nat.add_zero] at hf101_2); clear hcl101 hcc101 hfr101 hM101) | ((with_reducible refine gate_store (t := 3) (p := 40) rfl ?_); refine store_event (t := 3) (p := 40) (v := ?vo_w102) (w1 := (w99.setCell ⟨go67, (a1 : Int).toNat * 5 + 2, none⟩ (.int .i64 a2))) ?hg ?ho ?hn ?hr ?_; (case ho => rfl); (case hg => rfl); (case hn => rfl); (case hr => first | (go_simp; done) | (go_simp; rfl)); intro w102 hw; have hg : w99.grownBy w102 (some go67) := (by rw [hw]; exact HP101.2); have hp_ : Kd.R k32 32 w102 w.heap.size (fun _ => True) (.slice (some ⟨go67, 0, none⟩) t287.length co94) y295 := (by rw [hw, Ny295.out]; exact HP101.1); clear HP101; replace BK272 := aM (blk_grown (blk_mv BK272.out) hg (Kd.R_ne HO289.out BK272.out (by decide))); replace BK273 := aM (blk_grown (blk_mv BK273.out) hg (Kd.R_ne HO289.out BK273.out (by decide))); replace HO292 := aM (Kd.R_over' (v := (.slice (some ⟨go67, 0, none⟩) t287.length co94)) (R_mv HO292.out) (Kd.R_typed HO289.out) (by decide) hg); replace BK294 := aM (blk_grown (blk_mv BK294.out) hg (Kd.R_ne HO289.out BK294.out (by decide))); replace HO289 := aM (hp_); replace HB := aM ((by rw [hw]; exact below_set (HB.out) GB67.out : Below w.heap.size w w102)); clear hg hw hp_))
     replace HO289 := aM (Kd.R_drew HO289.out)
     replace HO292 := aM (Kd.R_drew HO292.out)
     replace BK272 := aM (blk_drew BK272.out)
     replace BK273 := aM (blk_drew BK273.out)
     replace BK294 := aM (blk_drew BK294.out)
     replace HB := aM (below_drew1 HB.out)
     have p296 : 0 ≤ (a1 : Int) := of_decide_eq_true (by first | (with_reducible assumption) | assumption)
     have q296 : a1 < (y295.length : Int) := (by have h_ : (a1 : Int) < ((t287.length : Int) : Int) := of_decide_eq_true (by first | (with_reducible assumption) | assumption); first | (have e_ := (Kd.R_reads' HO289.out).1; omega) | simpa only [Ny295.out, List.length_set] using h_)
     have ql296 : ((a1 : Int) < ((t287.length : Int) : Int)) = True := eq_true (of_decide_eq_true (by first | (with_reducible assumption) | assumption))
     obtain ⟨ad296, e296, hx296_0, hx296_1, hx296_2, hx296_3, hx296_4⟩ := at_T32 (Kd.R_reads' HO289.out).2.2 a1 p296 q296
     (try rw [← Nbq68.out] at hx296_3)
     (try rw [← Nbq68.out] at hx296_4)
     obtain rfl : (⟨go67, 0, none⟩ : Addr) = ad296 := (by injection e296)
     (first | simp only [add_plain] at hx296_0 | simp only [add_at] at hx296_0 | simp only [Addr.add, Nat.zero_add] at hx296_0 | skip)
     (first | simp only [add_plain] at hx296_1 | simp only [add_at] at hx296_1 | simp only [Addr.add, Nat.zero_add] at hx296_1 | skip)
     (first | simp only [add_plain] at hx296_2 | simp only [add_at] at hx296_2 | simp only [Addr.add, Nat.zero_add] at hx296_2 | skip)
     (first | simp only [add_plain] at hx296_3 | simp only [add_at] at hx296_3 | simp only [Addr.add, Nat.zero_add] at hx296_3 | skip)
     (first | simp only [add_plain] at hx296_4 | simp only [add_at] at hx296_4 | simp only [Addr.add, Nat.zero_add] at hx296_4 | skip)
     replace p296 := eq_true p296
     replace q296 := eq_true q296
     have p89 : 0 ≤ (a1 : Int) := of_decide_eq_true (by first | (with_reducible assumption) | assumption)
     have q89 : (a1 : Int) < ((t287.length : Int) : Int) := of_decide_eq_true (by first | (with_reducible assumption) | assumption)
     obtain ⟨ce89, hcl89, hM89, hcc89, hfr89⟩ := Kd.R_elem HO289.out z32 (a1 : Int) p89 q89
     obtain rfl := k32_openM hM89
     have hx89_0 : World.cell? _ ⟨go67, (a1 : Int).toNat * 5, none⟩ = some (.int .i64 ((rd_T32 y295 a1).f0)) := hcc89 0 _ rfl
     have hx89_1 : World.cell? _ ⟨go67, (a1 : Int).toNat * 5 + 1, none⟩ = some (.int .i64 ((rd_T32 y295 a1).f1)) := hcc89 1 _ rfl
     have hx89_2 : World.cell? _ ⟨go67, (a1 : Int).toNat * 5 + 2, none⟩ = some (.int .i64 ((rd_T32 y295 a1).f2)) := hcc89 2 _ rfl
     have hx89_3 : World.cell? _ ⟨go67, (a1 : Int).toNat * 5 + 3, none⟩ = some (.bool ((rd_T32 y295 a1).f3)) := hcc89 3 _ rfl
     have hx89_4 : World.cell? _ ⟨go67, (a1 : Int).toNat * 5 + 4, none⟩ = some (.bool ((rd_T32 y295 a1).f4)) := hcc89 4 _ rfl
     have hf89_0 : World.frozen? _ ⟨go67, (a1 : Int).toNat * 5, none⟩ = false := hfr89 0
     have hf89_1 : World.frozen? _ ⟨go67, (a1 : Int).toNat * 5 + 1, none⟩ = false := hfr89 1
     have hf89_2 : World.frozen? _ ⟨go67, (a1 : Int).toNat * 5 + 2, none⟩ = false := hfr89 2
     have hf89_3 : World.frozen? _ ⟨go67, (a1 : Int).toNat * 5 + 3, none⟩ = false := hfr89 3
     have hf89_4 : World.frozen? _ ⟨go67, (a1 : Int).toNat * 5 + 4, none⟩ = false := hfr89 4
     clear hcl89 hcc89 hfr89 hM89
     replace p89 := eq_true p89
     replace q89 := eq_true q89
     obtain ⟨ce104, hcl104, hM104, hcc104, hfr104⟩ := Kd.R_elem HO289.out z32 (a1 : Int) (of_decide_eq_true (by first | (with_reducible assumption) | assumption)) (by have h_ : (a1 : Int) < ((t287.length : Int) : Int) := of_decide_eq_true (by first | (with_reducible assumption) | assumption); first | exact h_ | (have e_ := (Kd.R_reads' HO289.out).1; omega) | simpa using h_)
     obtain rfl := k32_openM hM104
     have HP104 := (Kd.R_seg HO289.out (a1 : Int) (of_decide_eq_true (by first | (with_reducible assumption) | assumption)) (by have h_ : (a1 : Int) < ((t287.length : Int) : Int) := of_decide_eq_true (by first | (with_reducible assumption) | assumption); first | exact h_ | (have e_ := (Kd.R_reads' HO289.out).1; omega) | simpa using h_) (seg := [.bool false]) (j := 4) hcl104 hcc104 (show 5 ≤ 5 from by decide) (x' := (⟨(rd_T32 y295 a1).f0, (rd_T32 y295 a1).f1, (rd_T32 y295 a1).f2, (rd_T32 y295 a1).f3, false⟩ : S32)) (k32_mkM _ _ _ (⟨(rd_T32 y295 a1).f0, (rd_T32 y295 a1).f1, (rd_T32 y295 a1).f2, (rd_T32 y295 a1).f3, false⟩ : S32) ) (fun _ hk => hk)).1
     rw [← Ny298.out] at HP104
     have HQ104 := aM HP104
     clear hcl104 hcc104 hfr104 hM104 HP104
     refine start_ (n := 16) (S := fun w' => w'.cell? ⟨gb294, 0, none⟩ = some (.slice (some ⟨go67, 0, none⟩) t287.length co94) ∧ w'.cell? ⟨gb294, 1, none⟩ = some (.slice Ao98 t290.length co98) ∧ w'.cell? ⟨gb294, 2, none⟩ = some (.int .i64 t293) ∧ w'.cell? ⟨go67, (a1).toNat * 5, none⟩ = some (.int .i64 ((rd_T32 y295 a1).f0)) ∧ w'.cell? ⟨go67, (a1).toNat * 5 + 1, none⟩ = some (.int .i64 ((rd_T32 y295 a1).f1)) ∧ w'.cell? ⟨go67, (a1).toNat * 5 + 2, none⟩ = some (.int .i64 ((rd_T32 y295 a1).f2)) ∧ w'.cell? ⟨go67, (a1).toNat * 5 + 3, none⟩ = some (.bool ((rd_T32 y295 a1).f3)) ∧ w'.cell? ⟨go67, (a1).toNat * 5 + 4, none⟩ = some (.bool false)) (ds := [15]) #[false, false, false, false, false, false, false, false, false, false, false, false, false, false, false, false] (by kernel_rfl) rfl rfl ⟨(blk_cell BK294.out 0).trans rfl, (blk_cell BK294.out 1).trans rfl, (blk_cell BK294.out 2).trans rfl, hx296_0, hx296_1, hx296_2, hx296_3, hx296_4⟩ (fun hHeld => ?_); refine with_tabW feeder_Answer.tab10 feeder_Answer.bits10 (fun HT_ HW_ => ?_)
     generalize w102.drew = w103 at HO289 HO292 BK272 BK273 BK294 HB HQ104 hf89_0 hf89_1 hf89_2 hf89_3 hf89_4 hx296_0 hx296_1 hx296_2 hx296_3 hx296_4 hx89_0 hx89_1 hx89_2 hx89_3 hx89_4 hHeld ⊢
     refine pure_ (i := 0) (N := some 41) (v := ?_) (a' := ?_) #[true, false, false, false, false, false, false, false, false, false, false, false, false, false, false, false] rfl rfl (any_of HT_.out (by kernel_rfl)) (fun _ _ _ h => h) (Or.inl ⟨by rfl, ?_⟩) ?_ ?_
     rotate_left
     ·
      intro w'
      go_simp
      with_reducible rfl
     rotate_left
     ·
      simp only [Act.put, sT, sZ, sS, i64_w, i32_w]
      rfl
     refine pure_ (i := 2) (N := some 43) (v := ?_) (a' := ?_) #[true, false, true, false, false, false, false, false, false, false, false, false, false, false, false, false] rfl rfl (any_of HT_.out (by kernel_rfl)) (fun _ _ _ h => h) (Or.inl ⟨by rfl, ?_⟩) ?_ ?_
     rotate_left
     ·
      intro w'
      go_simp
      with_reducible rfl
     rotate_left
     ·
      simp only [Act.put, sT, sZ, sS, i64_w, i32_w]
      rfl
     refine pure_ (i := 3) (N := some 44) (v := ?_) (a' := ?_) #[true, false, true, true, false, false, false, false, false, false, false, false, false, false, false, false] rfl rfl (any_of HT_.out (by kernel_rfl)) (fun _ _ _ h => h) (Or.inl ⟨by rfl, ?_⟩) ?_ ?_
     rotate_left
     ·
      intro w'
      go_simp
      with_reducible rfl
     rotate_left
     ·
      simp only [Act.put, sT, sZ, sS, i64_w, i32_w]
      rfl
     refine pure_ (i := 5) (N := some 46) (v := ?_) (a' := ?_) #[true, false, true, true, false, true, false, false, false, false, false, false, false, false, false, false] rfl rfl (any_of HT_.out (by kernel_rfl)) (fun _ _ _ h => h) (Or.inl ⟨by rfl, ?_⟩) ?_ ?_
     rotate_left
     ·
      intro w'
      go_simp
      with_reducible rfl
     rotate_left
     ·
      simp only [Act.put, sT, sZ, sS, i64_w, i32_w]
      rfl
     refine take_ (i := 1) (N := some 42) (v := ?_) (a' := ?_) #[true, true, true, true, false, true, false, false, false, false, false, false, false, false, false, false] rfl rfl (take_ofW HT_.out HW_.out (by kernel_rfl)) (fun _ _ _ h => h) (Or.inl ⟨by rfl, ?_⟩) hHeld ?_ ?_
     rotate_left
     ·
      rintro w' ⟨s0, s1, s2, s3, s4, s5, s6, s7⟩
      go_simp
      with_reducible rfl
     rotate_left
     ·
      simp only [Act.put, sT, sZ, sS, i64_w, i32_w]
      rfl
     refine take_ (i := 4) (N := some 45) (v := ?_) (a' := ?_) #[true, true, true, true, true, true, false, false, false, false, false, false, false, false, false, false] rfl rfl (take_ofW HT_.out HW_.out (by kernel_rfl)) (fun _ _ _ h => h) (Or.inl ⟨by rfl, ?_⟩) hHeld ?_ ?_
     rotate_left
     ·
      rintro w' ⟨s0, s1, s2, s3, s4, s5, s6, s7⟩
      go_simp
      with_reducible rfl
     rotate_left
     ·
      simp only [Act.put, sT, sZ, sS, i64_w, i32_w]
      rfl
     refine pure_ (i := 6) (N := some 47) (v := ?_) (a' := ?_) #[true, true, true, true, true, true, true, false, false, false, false, false, false, false, false, false] rfl rfl (any_of HT_.out (by kernel_rfl)) (fun _ _ _ h => h) (Or.inl ⟨by rfl, ?_⟩) ?_ ?_
     rotate_left
     ·
      intro w'
      go_simp
      with_reducible rfl
     rotate_left
     ·
      simp only [Act.put, sT, sZ, sS, i64_w, i32_w]
      rfl
     refine pure_ (i := 7) (N := some 48) (v := ?_) (a' := ?_) #[true, true, true, true, true, true, true, true, false, false, false, false, false, false, false, false] rfl rfl (any_of HT_.out (by kernel_rfl)) (fun _ _ _ h => h) (Or.inl ⟨by rfl, ?_⟩) ?_ ?_
     rotate_left
     ·
      intro w'
      go_simp
      with_reducible rfl
     rotate_left
     ·
      simp only [Act.put, sT, sZ, sS, i64_w, i32_w]
      rfl
     refine take_ (i := 8) (N := some 49) (v := ?_) (a' := ?_) #[true, true, true, true, true, true, true, true, true, false, false, false, false, false, false, false] rfl rfl (take_ofW HT_.out HW_.out (by kernel_rfl)) (fun _ _ _ h => h) (Or.inl ⟨by rfl, ?_⟩) hHeld ?_ ?_
     rotate_left
     ·
      rintro w' ⟨s0, s1, s2, s3, s4, s5, s6, s7⟩
      go_simp
      with_reducible rfl
     rotate_left
     ·
      simp only [Act.put, sT, sZ, sS, i64_w, i32_w]
      rfl
     refine pure_ (i := 9) (N := some 50) (v := ?_) (a' := ?_) #[true, true, true, true, true, true, true, true, true, true, false, false, false, false, false, false] rfl rfl (any_of HT_.out (by kernel_rfl)) (fun _ _ _ h => h) (Or.inl ⟨by rfl, ?_⟩) ?_ ?_
     rotate_left
     ·
      intro w'
      go_simp
      with_reducible rfl
     rotate_left
     ·
      simp only [Act.put, sT, sZ, sS, i64_w, i32_w]
      rfl
     refine pure_ (i := 10) (N := some 51) (v := undef) (a' := ?_) #[true, true, true, true, true, true, true, true, true, true, true, false, false, false, false, false] rfl rfl (any_of HT_.out (by kernel_rfl)) (fun _ _ _ h => h) (Or.inr ⟨by rfl, rfl⟩) ?_ ?_
     rotate_left
     ·
      simp only [Act.put, sT, sZ, sS, i64_w, i32_w]
      rfl
     refine pure_ (i := 11) (N := some 52) (v := undef) (a' := ?_) #[true, true, true, true, true, true, true, true, true, true, true, true, false, false, false, false] rfl rfl (any_of HT_.out (by kernel_rfl)) (fun _ _ _ h => h) (Or.inr ⟨by rfl, rfl⟩) ?_ ?_
     rotate_left
     ·
      simp only [Act.put, sT, sZ, sS, i64_w, i32_w]
      rfl
     refine pure_ (i := 12) (N := some 53) (v := ?_) (a' := ?_) #[true, true, true, true, true, true, true, true, true, true, true, true, true, false, false, false] rfl rfl (any_of HT_.out (by kernel_rfl)) (fun _ _ _ h => h) (Or.inl ⟨by rfl, ?_⟩) ?_ ?_
     rotate_left
     ·
      intro w'
      go_simp
      with_reducible rfl
     rotate_left
     ·
      simp only [Act.put, sT, sZ, sS, i64_w, i32_w]
      rfl
     refine pure_ (i := 13) (N := some 54) (v := ?_) (a' := ?_) #[true, true, true, true, true, true, true, true, true, true, true, true, true, true, false, false] rfl rfl (any_of HT_.out (by kernel_rfl)) (fun _ _ _ h => h) (Or.inl ⟨by rfl, ?_⟩) ?_ ?_
     rotate_left
     ·
      intro w'
      go_simp
      with_reducible rfl
     rotate_left
     ·
      simp only [Act.put, sT, sZ, sS, i64_w, i32_w]
      rfl
     refine pure_ (i := 14) (N := some 55) (v := ?_) (a' := ?_) #[true, true, true, true, true, true, true, true, true, true, true, true, true, true, true, false] rfl rfl (any_of HT_.out (by kernel_rfl)) (fun _ _ _ h => h) (Or.inl ⟨by rfl, ?_⟩) ?_ ?_
     rotate_left
     ·
      intro w'
      go_simp
      with_reducible rfl
     rotate_left
     ·
      simp only [Act.put, sT, sZ, sS, i64_w, i32_w]
      rfl
     refine last_ (i := 15) (N := none) #[true, true, true, true, true, true, true, true, true, true, true, true, true, true, true, true] rfl rfl (one_of HT_.out (by kernel_rfl)) (by decide) (fun K hK => ?_)
     refine skip_ (w1 := ?_) (by rfl) rfl ?_ ?_
     rotate_left
     ·
      go_simp
      rfl
     refine hK.out _ _ ?_
     clear hK K
     refine done_ (done_of HT_.out (by kernel_rfl)) ?_
     have n0_ : Aside0 (Kd.R k32 32 (w103.setCell ⟨go67, (a1 : Int).toNat * 5 + 4, none⟩ (.bool false)) w.heap.size (fun _ => True) (.slice (some ⟨go67, 0, none⟩) t287.length co94) y298) := ⟨by (with_reducible repeat (first | apply Kd.R_alloc | apply Kd.R_drewN | apply Kd.R_drew)); exact HQ104.out⟩
     have n1_ : Aside0 (Kd.R (Kd.int .i64) 3 (w103.setCell ⟨go67, (a1 : Int).toNat * 5 + 4, none⟩ (.bool false)) w.heap.size (fun _ => True) (.slice Ao98 t290.length co98) t290) := ⟨by (with_reducible repeat (first | apply Kd.R_alloc | apply Kd.R_drewN | apply Kd.R_drew)); exact Kd.R_mono (Kd.R_far (p := ⟨go67, (a1 : Int).toNat * 5 + 4, none⟩) (Kd.R_types HO292.out (Kd.R_typed HO289.out _ rfl).choose_spec (by decide)) (fun _ hk => hk.2) (.bool false)) (fun _ hk => trivial)⟩
     have n2_ : Aside0 ((w103.setCell ⟨go67, (a1 : Int).toNat * 5 + 4, none⟩ (.bool false)).heap[gb272]? = some (.cells #[.slice A0_0 l0_0.length c0_0, .slice A0_1 l0_1.length c0_1, .int .i64 a0_2] 28 (0, 0))) := ⟨by (with_reducible repeat (first | refine kN ?_ _ | refine kD ?_ | refine kA ?_ _)); refine blk_far ?_ (by have h_ := Kd.R_ne HO289.out BK272.out (by decide); intro e_; exact h_ (by rw [e_]; rfl)) _; (with_reducible repeat (first | refine kN ?_ _ | refine kD ?_ | refine kA ?_ _)); exact BK272.out⟩
     have n3_ : Aside0 ((w103.setCell ⟨go67, (a1 : Int).toNat * 5 + 4, none⟩ (.bool false)).heap[gb273]? = some (.cells #[.slice none 0 0, .slice none 0 0, .int .i64 0] 28 (0, 0))) := ⟨by (with_reducible repeat (first | refine kN ?_ _ | refine kD ?_ | refine kA ?_ _)); refine blk_far ?_ (by have h_ := Kd.R_ne HO289.out BK273.out (by decide); intro e_; exact h_ (by rw [e_]; rfl)) _; (with_reducible repeat (first | refine kN ?_ _ | refine kD ?_ | refine kA ?_ _)); exact BK273.out⟩
     have n4_ : Aside0 ((w103.setCell ⟨go67, (a1 : Int).toNat * 5 + 4, none⟩ (.bool false)).heap[gb294]? = some (.cells #[.slice (some ⟨go67, 0, none⟩) t287.length co94, .slice Ao98 t290.length co98, .int .i64 t293] 28 (0, 0))) := ⟨by (with_reducible repeat (first | refine kN ?_ _ | refine kD ?_ | refine kA ?_ _)); refine blk_far ?_ (by have h_ := Kd.R_ne HO289.out BK294.out (by decide); intro e_; exact h_ (by rw [e_]; rfl)) _; (with_reducible repeat (first | refine kN ?_ _ | refine kD ?_ | refine kA ?_ _)); exact BK294.out⟩
     have n5_ : Aside0 (Below w.heap.size w (w103.setCell ⟨go67, (a1 : Int).toNat * 5 + 4, none⟩ (.bool false))) := ⟨by repeat (first | (with_reducible first | exact HB.out | apply bA | apply bN | apply bD | refine below_set ?_ GB67.out | refine below_set ?_ GE272.out | refine below_set ?_ GE273.out | refine below_set ?_ GE294.out) | exact HB.out)⟩
     (try clear HO289)
     (try clear HO292)
     (try clear BK272)
     (try clear BK273)
     (try clear BK294)
     (try clear HB)
     generalize (w103.setCell ⟨go67, (a1 : Int).toNat * 5 + 4, none⟩ (.bool false)) = w105 at n0_ n1_ n2_ n3_ n4_ n5_ ⊢
     have HO289 := n0_
     have HO292 := n1_
     have BK272 := n2_
     have BK273 := n3_
     have BK294 := n4_
     have HB := n5_
     clear n0_ n1_ n2_ n3_ n4_ n5_
     obtain ⟨hcz106_0, hcz106_1, hcz106_2, hfz106_0, hfz106_1, hfz106_2⟩ := blk3 BK294.out
     obtain ⟨hcz107_0, hcz107_1, hcz107_2, hfz107_0, hfz107_1, hfz107_2⟩ := blk3 BK273.out
     try go_wp2
     refine bodyPost_ret (results_ct rfl _ _ gb273 28 #[.slice (some ⟨go67, 0, none⟩) t287.length co94, .slice Ao98 t290.length co98, .int .i64 t293] (0, 0) _ rfl (by (with_reducible repeat (first | refine kN ?_ _ | refine kD ?_ | refine kA ?_ _)); refine blk_put (cs := #[.slice (some ⟨go67, 0, none⟩) t287.length co94, .slice Ao98 t290.length co98, .int .i64 0]) ?_ 2 _ rfl; (with_reducible repeat (first | refine kN ?_ _ | refine kD ?_ | refine kA ?_ _)); refine blk_put (cs := #[.slice (some ⟨go67, 0, none⟩) t287.length co94, .slice none 0 0, .int .i64 0]) ?_ 1 _ rfl; (with_reducible repeat (first | refine kN ?_ _ | refine kD ?_ | refine kA ?_ _)); refine blk_put (cs := #[.slice none 0 0, .slice none 0 0, .int .i64 0]) ?_ 0 _ rfl; (with_reducible repeat (first | refine kN ?_ _ | refine kD ?_ | refine kA ?_ _)); exact BK273.out) Try.underlying28 rfl (by kernel_rfl)) rfl ?_
     exact ⟨_, _, by first | rfl | (simp [errW_none, errW_some] <;> rfl) | (simp [*, errW_none, errW_some] <;> rfl), by (with_reducible repeat (first | apply Kd.R_alloc | apply Kd.R_drewN | apply Kd.R_drew)); exact Kd.R_mono (f3 HO289.out BK273.out (by decide)) (fun _ hk => trivial), by (with_reducible repeat (first | apply Kd.R_alloc | apply Kd.R_drewN | apply Kd.R_drew)); exact Kd.R_mono (f3 HO292.out BK273.out (by decide)) (fun _ hk => trivial), by repeat (first | (with_reducible first | exact HB.out | apply bA | apply bN | apply bD | refine below_set ?_ GE272.out | refine below_set ?_ GE273.out | refine below_set ?_ GE294.out) | exact HB.out)⟩
    rw [if_neg c63] at H
    have c63b0 : (a2 == (-1)) = false := beq_eq_false_iff_ne.mpr c63
    have c63b1 : (a2 != (-1)) = true := bne_iff_ne.mpr c63
    simp only [Option.some.injEq, Prod.mk.injEq] at H
    obtain ⟨rfl, rfl, rfl, rfl⟩ := H
    have hnb108 := NB273_272.out
    have hnc108 := NB272_273.out
    obtain ⟨hcz109_0, hcz109_1, hcz109_2, hfz109_0, hfz109_1, hfz109_2⟩ := blk3 BK273.out
    go_wp2
    refine bodyPost_ret (results_ct rfl _ _ gb273 28 #[.slice none 0 0, .slice none 0 0, .int .i64 0] (0, 0) _ rfl (by (with_reducible repeat (first | refine kN ?_ _ | refine kD ?_ | refine kA ?_ _)); refine blk_put (cs := #[.slice none 0 0, .slice none 0 0, .int .i64 0]) ?_ 2 _ rfl; (with_reducible repeat (first | refine kN ?_ _ | refine kD ?_ | refine kA ?_ _)); refine blk_put (cs := #[.slice none 0 0, .slice none 0 0, .int .i64 0]) ?_ 1 _ rfl; (with_reducible repeat (first | refine kN ?_ _ | refine kD ?_ | refine kA ?_ _)); refine blk_put (cs := #[.slice none 0 0, .slice none 0 0, .int .i64 0]) ?_ 0 _ rfl; (with_reducible repeat (first | refine kN ?_ _ | refine kD ?_ | refine kA ?_ _)); exact BK273.out) Try.underlying28 rfl (by kernel_rfl)) rfl ?_
    exact ⟨_, _, by first | rfl | (simp [errW_none, errW_some] <;> rfl) | (simp [*, errW_none, errW_some] <;> rfl), by first | exact Kd.R_nil _ _ _ _ _ | exact Kd.N_nil _ _ _ _ _ | exact Kd.V_nil _ _ _ _ _ | exact Kd.Q_nil _ _ _ _ _ | exact Kd.S_nil _ _ _ _ _, by first | exact Kd.R_nil _ _ _ _ _ | exact Kd.N_nil _ _ _ _ _ | exact Kd.V_nil _ _ _ _ _ | exact Kd.Q_nil _ _ _ _ _ | exact Kd.S_nil _ _ _ _ _, by repeat (first | (with_reducible first | exact HB.out | apply bA | apply bN | apply bD | refine below_set ?_ GE272.out | refine below_set ?_ GE273.out) | exact HB.out)⟩
 rw [if_neg c5] at H
 have c5b0 : (t274 == 0) = false := beq_eq_false_iff_ne.mpr c5
 have c5b1 : (t274 != 0) = true := bne_iff_ne.mpr c5
 simp only [Option.some.injEq, Prod.mk.injEq] at H
 obtain ⟨rfl, rfl, rfl, rfl⟩ := H
 go_enter Try.func27, Try.ntmps27
 go_wp2_with (first | ((with_reducible refine gate_dst (N := 3) rfl ?_); (try (refine gate_guard (by rfl) ?_; dsimp only)); refine box_event ?hg (N := 3) ?hd (cs := #[.slice A0_0 l0_0.length c0_0, .slice A0_1 l0_1.length c0_1, .int .i64 a0_2]) (t := 28) ?hr ?_; (case hd => rfl); (case hg => rfl); (case hr => first | (go_simp; done) | (go_simp; rfl)); intro gb272 hg w110 hbox hb; have BK272 := aM (hbox); have GW272 := aM ((by rw [hg]; exact (below_size (below_mv HB.out)) : w.heap.size ≤ gb272)); have GE272 := aM ((by rw [hg]; exact (below_size (below_mv HB.out)) : w.heap.size ≤ gb272)); replace HB := aM (below_step (below_mv HB.out) hb); clear hb hbox hg) | ((with_reducible refine gate_dst (N := 6) rfl ?_); (try (refine gate_guard (by rfl) ?_; dsimp only)); refine box_event ?hg (N := 6) ?hd (cs := #[.slice none 0 0, .slice none 0 0, .int .i64 0]) (t := 28) ?hr ?_; (case hd => rfl); (case hg => rfl); (case hr => first | (go_simp; done) | (go_simp; rfl)); intro gb273 hg w111 hbox hb; have BK273 := aM (hbox); have GW273 := aM ((by rw [hg]; exact (below_size (by repeat (first | (with_reducible first | exact HB.out | apply bA | apply bN | apply bD | refine below_set ?_ GE272.out) | exact HB.out))) : w.heap.size ≤ gb273)); have GE273 := aM ((by rw [hg]; exact (below_size (by repeat (first | (with_reducible first | exact HB.out | apply bA | apply bN | apply bD | refine below_set ?_ GE272.out) | exact HB.out))) : w.heap.size ≤ gb273)); replace HB := aM (below_step (by repeat (first | (with_reducible first | exact HB.out | apply bA | apply bN | apply bD | refine below_set ?_ GE272.out) | exact HB.out)) hb); have NB272_273 := aM ((by rw [hg]; exact Nat.ne_of_lt (blk_lt (blk_mv BK272.out)) : gb272 ≠ gb273)); have NB273_272 := aM ((by rw [hg]; exact Nat.ne_of_gt (blk_lt (blk_mv BK272.out)) : gb273 ≠ gb272)); replace BK272 := aM (blk_below (blk_mv BK272.out) hb); clear hb hbox hg; have hnb112 := NB272_273.out; have hnc112 := NB273_272.out; obtain ⟨hcz113_0, hcz113_1, hcz113_2, hfz113_0, hfz113_1, hfz113_2⟩ := blk3 BK272.out) | ((with_reducible refine gate_callee (f := 23) rfl ?_); refine goesL_ (some 11) rfl rfl Try.func23 (by kernel_rfl) rfl #[.agg #[.slice A0_0 l0_0.length c0_0, .slice A0_1 l0_1.length c0_1, .int .i64 a0_2]] rfl (by first | rfl | (simp only [List.map_toArray, List.map_cons, List.map_nil, List.length_drop, List.length_take]; try rfl)) ?_; (with_reducible refine (feeder_Check.calls k _ _ l0_0 _ _ l0_1 a0_2 t274 _ ?side1 ?side2 ?side3 ?side4 A4.out).mono ?_); (case side1 => first | exact C_mv (Kd.C_below HR0_0.out HB.out) | exact C_mv HR0_0.out); (case side2 => exact HC0_0.out); (case side3 => first | exact C_mv (Kd.C_below HR0_1.out HB.out) | exact C_mv HR0_1.out); (case side4 => exact HC0_1.out); rintro e w114 ⟨rfl, hb⟩; refine ⟨_, rfl, ?_⟩; replace BK272 := aM (blk_below (blk_mv BK272.out) hb); replace BK273 := aM (blk_below (blk_mv BK273.out) hb); replace HB := aM (below_step (by repeat (first | (with_reducible first | exact HB.out | apply bA | apply bN | apply bD | refine below_set ?_ GE272.out | refine below_set ?_ GE273.out) | exact HB.out)) hb); (try clear hb); (try clear hb2); (try clear hge); (try clear hk); (try clear hi); obtain ⟨hcz115_0, hcz115_1, hcz115_2, hfz115_0, hfz115_1, hfz115_2⟩ := blk3 BK273.out))
 refine bodyPost_ret (results_ct rfl _ _ gb273 28 #[.slice none 0 0, .slice none 0 0, .int .i64 0] (0, 0) _ rfl (by (with_reducible repeat (first | refine kN ?_ _ | refine kD ?_ | refine kA ?_ _)); refine blk_put (cs := #[.slice none 0 0, .slice none 0 0, .int .i64 0]) ?_ 2 _ rfl; (with_reducible repeat (first | refine kN ?_ _ | refine kD ?_ | refine kA ?_ _)); refine blk_put (cs := #[.slice none 0 0, .slice none 0 0, .int .i64 0]) ?_ 1 _ rfl; (with_reducible repeat (first | refine kN ?_ _ | refine kD ?_ | refine kA ?_ _)); refine blk_put (cs := #[.slice none 0 0, .slice none 0 0, .int .i64 0]) ?_ 0 _ rfl; (with_reducible repeat (first | refine kN ?_ _ | refine kD ?_ | refine kA ?_ _)); exact BK273.out) Try.underlying28 rfl (by kernel_rfl)) rfl ?_
 exact ⟨_, _, by first | rfl | (simp [errW_none, errW_some] <;> rfl) | (simp [*, errW_none, errW_some] <;> rfl), by first | exact Kd.R_nil _ _ _ _ _ | exact Kd.N_nil _ _ _ _ _ | exact Kd.V_nil _ _ _ _ _ | exact Kd.Q_nil _ _ _ _ _ | exact Kd.S_nil _ _ _ _ _, by first | exact Kd.R_nil _ _ _ _ _ | exact Kd.N_nil _ _ _ _ _ | exact Kd.V_nil _ _ _ _ _ | exact Kd.Q_nil _ _ _ _ _ | exact Kd.S_nil _ _ _ _ _, by repeat (first | (with_reducible first | exact HB.out | apply bA | apply bN | apply bD | refine below_set ?_ GE272.out | refine below_set ?_ GE273.out) | exact HB.out)⟩

end Go.Proofs.Ytcgeflbifbaecaa.PFet
