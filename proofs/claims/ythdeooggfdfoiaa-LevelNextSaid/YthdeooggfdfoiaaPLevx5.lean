/- Functions of the given program as Lean functions, and proofs that its calls come to what these say. Written by a program of this seat (wip/mkprint.py); Lean checks it all. -/
import Derived.Test.YthdeooggfdfoiaaPLevx0
import Derived.Test.YthdeooggfdfoiaaPLevx1
import Derived.Test.YthdeooggfdfoiaaPLevx2
import Derived.Test.YthdeooggfdfoiaaPLevx3
import Derived.Test.YthdeooggfdfoiaaPLevx4
namespace Go.Proofs.Ythdeooggfdfoiaa.PLev
open Go.RowKit Go.Proofs.YthdeooggfdfoiaaW.PrintWords Go.Proofs.YthdeooggfdfoiaaW.PrintLast Go.Proofs.YthdeooggfdfoiaaW.PrintMore
attribute [local go_sem] max2_int min2_int max_two min_two max_three min_three max_four min_four   -- for this text's walks alone
set_option linter.unusedVariables false
set_option linter.unusedSimpArgs false

attribute [local go_sem high] eqA26
/-! ### minecontrollaw17_awake: function 20 -/
def minecontrollaw17_awake.f (k : Nat)  : Option (Bool) := (level_Begin.f).bind fun bt140 => ((level_Step.f k 100 80 10 bt140.1 bt140.2.1 bt140.2.2 70 70 5).bind fun bt143 => ((level_Next.f 100 80 10 bt143.1 bt143.2.1 bt143.2.2.1).bind fun t148 => ((level_Step.f k 100 80 10 bt143.1 bt143.2.1 bt143.2.2.1 70 70 15).bind fun bt149 => ((level_Check.f 100 80 10).bind fun t154 => (if t154 = 0 then (if bt143.2.2.2 = 0 then (if (bt143.1 && (bt143.2.1 == 5 && (bt143.2.2.1 == 5))) = true then (if t148 = 15 then (if bt149.2.2.2 = 0 then (some (!bt149.1 && (bt149.2.1 == (-1) && (bt149.2.2.1 == 15)))) else (some false)) else (some false)) else (some false)) else (some false)) else (some false))))))
theorem minecontrollaw17_awake.mono : ∀ k, LeO (minecontrollaw17_awake.f k ) (minecontrollaw17_awake.f (k + 1) ) := by
  intro  k
  unfold minecontrollaw17_awake.f
  repeat' first
      | (with_reducible exact level_Step.mono _ _ _ _ _ _ _ _ _ _)
      | (with_reducible exact LeO.refl _)
      | (with_reducible exact LeO.none _)
      | (with_reducible refine LeO.ite ?_ ?_)
      | (with_reducible refine LeO.bind ?_ (fun _ => ?_))
      | exact level_Step.mono _ _ _ _ _ _ _ _ _ _
      | exact LeO.none _
      | refine LeO.ite ?_ ?_
      | refine LeO.bind ?_ (fun _ => ?_)
def minecontrollaw17_awake.T3 : Bool × List (List Nat × List Nat) := (true, [([], []), ([], []), ([], []), ([0, 1, 2, 1], [0, 1, 2]), ([3], [3]), ([4], [4]), ([4], [4]), ([], []), ([7, 5, 3, 0, 1, 2, 3, 4, 5, 7], [5, 7]), ([6, 8, 0, 1, 2, 3, 4, 5, 6, 7, 8], [6])])
def minecontrollaw17_awake.B3 : List Nat := [0, 0, 0, 7, 15, 31, 31, 0, 191, 511]
theorem minecontrollaw17_awake.tab3 : rtab .any (opsOf Try.f20 3) = minecontrollaw17_awake.T3 := by kernel_rfl
theorem minecontrollaw17_awake.bits3 : waitsOk minecontrollaw17_awake.T3.2 minecontrollaw17_awake.B3 = true := by kernel_rfl
set_option maxHeartbeats 8000000 in
set_option maxRecDepth 100000 in
theorem minecontrollaw17_awake.calls1 (k : Nat)  (r : Bool) (w : World) (hr_ : Aside0 (r = true)) (h : minecontrollaw17_awake.f k  = some r) :
    Calls Try.prog 20 #[] w fun e w' => e = .returned (.bool r) ∧ Below w.heap.size w w' := by
  have hu24 := Try.underlying24
  have hu28 := Try.underlying28
  have hu26 := Try.underlying26
  have HB := Aside0.mk (Below.refl w.heap.size w)
  have H : ((level_Begin.f).bind fun bt140 => ((level_Step.f k 100 80 10 bt140.1 bt140.2.1 bt140.2.2 70 70 5).bind fun bt143 => ((level_Next.f 100 80 10 bt143.1 bt143.2.1 bt143.2.2.1).bind fun t148 => ((level_Step.f k 100 80 10 bt143.1 bt143.2.1 bt143.2.2.1 70 70 15).bind fun bt149 => ((level_Check.f 100 80 10).bind fun t154 => (if t154 = 0 then (if bt143.2.2.2 = 0 then (if (bt143.1 && (bt143.2.1 == 5 && (bt143.2.2.1 == 5))) = true then (if t148 = 15 then (if bt149.2.2.2 = 0 then (some (!bt149.1 && (bt149.2.1 == (-1) && (bt149.2.2.1 == 15)))) else (some false)) else (some false)) else (some false)) else (some false)) else (some false))))))) = some r := h
  clear h
  replace H := Option.bind_eq_some_iff.mp H
  obtain ⟨⟨t140, t141, t142⟩, A10, H⟩ := H
  replace H : ((level_Step.f k 100 80 10 t140 t141 t142 70 70 5).bind fun bt143 => ((level_Next.f 100 80 10 bt143.1 bt143.2.1 bt143.2.2.1).bind fun t148 => ((level_Step.f k 100 80 10 bt143.1 bt143.2.1 bt143.2.2.1 70 70 15).bind fun bt149 => ((level_Check.f 100 80 10).bind fun t154 => (if t154 = 0 then (if bt143.2.2.2 = 0 then (if (bt143.1 && (bt143.2.1 == 5 && (bt143.2.2.1 == 5))) = true then (if t148 = 15 then (if bt149.2.2.2 = 0 then (some (!bt149.1 && (bt149.2.1 == (-1) && (bt149.2.2.1 == 15)))) else (some false)) else (some false)) else (some false)) else (some false)) else (some false)))))) = some r := H
  have A1 := Aside0.mk A10
  clear A10
  replace H := Option.bind_eq_some_iff.mp H
  obtain ⟨⟨t143, t144, t145, t146⟩, A20, H⟩ := H
  replace H : ((level_Next.f 100 80 10 t143 t144 t145).bind fun t148 => ((level_Step.f k 100 80 10 t143 t144 t145 70 70 15).bind fun bt149 => ((level_Check.f 100 80 10).bind fun t154 => (if t154 = 0 then (if t146 = 0 then (if (t143 && (t144 == 5 && (t145 == 5))) = true then (if t148 = 15 then (if bt149.2.2.2 = 0 then (some (!bt149.1 && (bt149.2.1 == (-1) && (bt149.2.2.1 == 15)))) else (some false)) else (some false)) else (some false)) else (some false)) else (some false))))) = some r := H
  have A2 := Aside0.mk A20
  clear A20
  replace H := Option.bind_eq_some_iff.mp H
  obtain ⟨t148, A30, H⟩ := H
  replace H : ((level_Step.f k 100 80 10 t143 t144 t145 70 70 15).bind fun bt149 => ((level_Check.f 100 80 10).bind fun t154 => (if t154 = 0 then (if t146 = 0 then (if (t143 && (t144 == 5 && (t145 == 5))) = true then (if t148 = 15 then (if bt149.2.2.2 = 0 then (some (!bt149.1 && (bt149.2.1 == (-1) && (bt149.2.2.1 == 15)))) else (some false)) else (some false)) else (some false)) else (some false)) else (some false)))) = some r := H
  have A3 := Aside0.mk A30
  clear A30
  replace H := Option.bind_eq_some_iff.mp H
  obtain ⟨⟨t149, t150, t151, t152⟩, A40, H⟩ := H
  replace H : ((level_Check.f 100 80 10).bind fun t154 => (if t154 = 0 then (if t146 = 0 then (if (t143 && (t144 == 5 && (t145 == 5))) = true then (if t148 = 15 then (if t152 = 0 then (some (!t149 && (t150 == (-1) && (t151 == 15)))) else (some false)) else (some false)) else (some false)) else (some false)) else (some false))) = some r := H
  have A4 := Aside0.mk A40
  clear A40
  replace H := Option.bind_eq_some_iff.mp H
  obtain ⟨t154, A50, H⟩ := H
  replace H : (if t154 = 0 then (if t146 = 0 then (if (t143 && (t144 == 5 && (t145 == 5))) = true then (if t148 = 15 then (if t152 = 0 then (some (!t149 && (t150 == (-1) && (t151 == 15)))) else (some false)) else (some false)) else (some false)) else (some false)) else (some false)) = some r := H
  have A5 := Aside0.mk A50
  clear A50
  by_cases c6 : t154 = 0
  · rw [if_pos c6] at H
    have c6b0 : (t154 == 0) = true := beq_iff_eq.mpr c6
    have c6b1 : (t154 != 0) = false := bne_eq_false_iff_eq.mpr c6
    clear c6
    by_cases c7 : t146 = 0
    · rw [if_pos c7] at H
      have c7b0 : (t146 == 0) = true := beq_iff_eq.mpr c7
      have c7b1 : (t146 != 0) = false := bne_eq_false_iff_eq.mpr c7
      clear c7
      by_cases c8 : (t143 && (t144 == 5 && (t145 == 5))) = true
      · rw [if_pos c8] at H
        have c8b0 : (t143 && (t144 == 5 && (t145 == 5))) = true := c8
        clear c8
        by_cases c9 : t148 = 15
        · rw [if_pos c9] at H
          have c9b0 : (t148 == 15) = true := beq_iff_eq.mpr c9
          have c9b1 : (t148 != 15) = false := bne_eq_false_iff_eq.mpr c9
          clear c9
          by_cases c10 : t152 = 0
          · rw [if_pos c10] at H
            have c10b0 : (t152 == 0) = true := beq_iff_eq.mpr c10
            have c10b1 : (t152 != 0) = false := bne_eq_false_iff_eq.mpr c10
            clear c10
            obtain rfl := Option.some.inj H
            simp only [Option.some.injEq, Prod.mk.injEq] at H
            obtain ⟨rfl⟩ := H
            go_enter Try.func20, Try.ntmps20
            try go_wp2_with (first | ((with_reducible refine gate_dst (N := 1) rfl ?_); refine box_event ?hg (N := 1) ?hd (cs := #[.int .i64 0, .int .i64 0, .int .i64 0]) (t := 24) ?hr ?_; (case hd => rfl); (case hg => rfl); (case hr => first | (go_simp; done) | (go_simp; rfl)); intro gb138 hg w11 hbox hb; have n0_ := Aside0.mk (below_step (by repeat (first | (with_reducible first | exact HB.out | apply below_alloc | apply pw_below_drewN | apply below_drew1) | exact HB.out)) hb); have n1_ := Aside0.mk (hbox); have n2_ := Aside0.mk ((by rw [hg]; exact (below_size (by repeat (first | (with_reducible first | exact HB.out | apply below_alloc | apply pw_below_drewN | apply below_drew1) | exact HB.out))) : w.heap.size ≤ gb138)); have n3_ := Aside0.mk ((by rw [hg]; exact (below_size (by repeat (first | (with_reducible first | exact HB.out | apply below_alloc | apply pw_below_drewN | apply below_drew1) | exact HB.out))) : w.heap.size ≤ gb138)); clear HB; have HB := n0_; have BK138 := n1_; have GW138 := n2_; have GE138 := n3_; clear n0_ n1_ n2_ n3_; clear hb hbox hg; have hcz12_0 : w11.cell? ⟨gb138, 0, none⟩ = some (.int .i64 0) := (blk_cell BK138.out 0).trans rfl; have hcz12_1 : w11.cell? ⟨gb138, 1, none⟩ = some (.int .i64 0) := (blk_cell BK138.out 1).trans rfl; have hcz12_2 : w11.cell? ⟨gb138, 2, none⟩ = some (.int .i64 0) := (blk_cell BK138.out 2).trans rfl; have hfz12_0 := blk_frozen BK138.out 0; have hfz12_1 := blk_frozen BK138.out 1; have hfz12_2 := blk_frozen BK138.out 2) | ((with_reducible refine gate_dst (N := 2) rfl ?_); refine box_event ?hg (N := 2) ?hd (cs := #[.int .i64 0, .int .i64 0]) (t := 28) ?hr ?_; (case hd => rfl); (case hg => rfl); (case hr => first | (go_simp; done) | (go_simp; rfl)); intro gb139 hg w13 hbox hb; have n0_ := Aside0.mk (blk_below (g := gb138) (o := .cells #[.int .i64 100, .int .i64 80, .int .i64 10] 24 (0, 0)) (by (with_reducible repeat (first | refine blk_drewN ?_ _ | refine blk_drew ?_ | refine blk_alloc ?_ _)); refine blk_put (cs := #[.int .i64 100, .int .i64 80, .int .i64 0]) ?_ 2 _ rfl; (with_reducible repeat (first | refine blk_drewN ?_ _ | refine blk_drew ?_ | refine blk_alloc ?_ _)); refine blk_put (cs := #[.int .i64 100, .int .i64 0, .int .i64 0]) ?_ 1 _ rfl; (with_reducible repeat (first | refine blk_drewN ?_ _ | refine blk_drew ?_ | refine blk_alloc ?_ _)); refine blk_put (cs := #[.int .i64 0, .int .i64 0, .int .i64 0]) ?_ 0 _ rfl; (with_reducible repeat (first | refine blk_drewN ?_ _ | refine blk_drew ?_ | refine blk_alloc ?_ _)); exact BK138.out) hb); have n1_ := Aside0.mk (below_step (by repeat (first | (with_reducible first | exact HB.out | apply below_alloc | apply pw_below_drewN | apply below_drew1 | refine below_set ?_ GE138.out) | exact HB.out)) hb); have n2_ := Aside0.mk (hbox); have n3_ := Aside0.mk ((by rw [hg]; exact (below_size (by repeat (first | (with_reducible first | exact HB.out | apply below_alloc | apply pw_below_drewN | apply below_drew1 | refine below_set ?_ GE138.out) | exact HB.out))) : w.heap.size ≤ gb139)); have n4_ := Aside0.mk ((by rw [hg]; exact (below_size (by repeat (first | (with_reducible first | exact HB.out | apply below_alloc | apply pw_below_drewN | apply below_drew1 | refine below_set ?_ GE138.out) | exact HB.out))) : w.heap.size ≤ gb139)); have n5_ := Aside0.mk ((by rw [hg]; exact Nat.ne_of_lt (blk_lt (g := gb138) (o := .cells #[.int .i64 100, .int .i64 80, .int .i64 10] 24 (0, 0)) (by (with_reducible repeat (first | refine blk_drewN ?_ _ | refine blk_drew ?_ | refine blk_alloc ?_ _)); refine blk_put (cs := #[.int .i64 100, .int .i64 80, .int .i64 0]) ?_ 2 _ rfl; (with_reducible repeat (first | refine blk_drewN ?_ _ | refine blk_drew ?_ | refine blk_alloc ?_ _)); refine blk_put (cs := #[.int .i64 100, .int .i64 0, .int .i64 0]) ?_ 1 _ rfl; (with_reducible repeat (first | refine blk_drewN ?_ _ | refine blk_drew ?_ | refine blk_alloc ?_ _)); refine blk_put (cs := #[.int .i64 0, .int .i64 0, .int .i64 0]) ?_ 0 _ rfl; (with_reducible repeat (first | refine blk_drewN ?_ _ | refine blk_drew ?_ | refine blk_alloc ?_ _)); exact BK138.out)) : gb138 ≠ gb139)); have n6_ := Aside0.mk ((by rw [hg]; exact Nat.ne_of_gt (blk_lt (g := gb138) (o := .cells #[.int .i64 100, .int .i64 80, .int .i64 10] 24 (0, 0)) (by (with_reducible repeat (first | refine blk_drewN ?_ _ | refine blk_drew ?_ | refine blk_alloc ?_ _)); refine blk_put (cs := #[.int .i64 100, .int .i64 80, .int .i64 0]) ?_ 2 _ rfl; (with_reducible repeat (first | refine blk_drewN ?_ _ | refine blk_drew ?_ | refine blk_alloc ?_ _)); refine blk_put (cs := #[.int .i64 100, .int .i64 0, .int .i64 0]) ?_ 1 _ rfl; (with_reducible repeat (first | refine blk_drewN ?_ _ | refine blk_drew ?_ | refine blk_alloc ?_ _)); refine blk_put (cs := #[.int .i64 0, .int .i64 0, .int .i64 0]) ?_ 0 _ rfl; (with_reducible repeat (first | refine blk_drewN ?_ _ | refine blk_drew ?_ | refine blk_alloc ?_ _)); exact BK138.out)) : gb139 ≠ gb138)); clear BK138; clear HB; have BK138 := n0_; have HB := n1_; have BK139 := n2_; have GW139 := n3_; have GE139 := n4_; have NB138_139 := n5_; have NB139_138 := n6_; clear n0_ n1_ n2_ n3_ n4_ n5_ n6_; clear hb hbox hg; have hnb14 := NB139_138.out; have hnc14 := NB138_139.out; have hcz15_0 : w13.cell? ⟨gb139, 0, none⟩ = some (.int .i64 0) := (blk_cell BK139.out 0).trans rfl; have hcz15_1 : w13.cell? ⟨gb139, 1, none⟩ = some (.int .i64 0) := (blk_cell BK139.out 1).trans rfl; have hfz15_0 := blk_frozen BK139.out 0; have hfz15_1 := blk_frozen BK139.out 1))
            have n0_ : Aside0 (((w13.setCell ⟨gb139, 0, none⟩ (.int .i64 70)).setCell ⟨gb139, 1, none⟩ (.int .i64 70)).heap[gb138]? = some (.cells #[.int .i64 100, .int .i64 80, .int .i64 10] 24 (0, 0))) := ⟨by (with_reducible repeat (first | refine blk_drewN ?_ _ | refine blk_drew ?_ | refine blk_alloc ?_ _)); refine blk_far ?_ NB138_139.out _; (with_reducible repeat (first | refine blk_drewN ?_ _ | refine blk_drew ?_ | refine blk_alloc ?_ _)); refine blk_far ?_ NB138_139.out _; (with_reducible repeat (first | refine blk_drewN ?_ _ | refine blk_drew ?_ | refine blk_alloc ?_ _)); exact BK138.out⟩
            have n1_ : Aside0 (((w13.setCell ⟨gb139, 0, none⟩ (.int .i64 70)).setCell ⟨gb139, 1, none⟩ (.int .i64 70)).heap[gb139]? = some (.cells #[.int .i64 70, .int .i64 70] 28 (0, 0))) := ⟨by (with_reducible repeat (first | refine blk_drewN ?_ _ | refine blk_drew ?_ | refine blk_alloc ?_ _)); refine blk_put (cs := #[.int .i64 70, .int .i64 0]) ?_ 1 _ rfl; (with_reducible repeat (first | refine blk_drewN ?_ _ | refine blk_drew ?_ | refine blk_alloc ?_ _)); refine blk_put (cs := #[.int .i64 0, .int .i64 0]) ?_ 0 _ rfl; (with_reducible repeat (first | refine blk_drewN ?_ _ | refine blk_drew ?_ | refine blk_alloc ?_ _)); exact BK139.out⟩
            have n2_ : Aside0 (Below w.heap.size w ((w13.setCell ⟨gb139, 0, none⟩ (.int .i64 70)).setCell ⟨gb139, 1, none⟩ (.int .i64 70))) := ⟨by repeat (first | (with_reducible first | exact HB.out | apply below_alloc | apply pw_below_drewN | apply below_drew1 | refine below_set ?_ GE138.out | refine below_set ?_ GE139.out) | exact HB.out)⟩
            (try clear BK138)
            (try clear BK139)
            (try clear HB)
            generalize ((w13.setCell ⟨gb139, 0, none⟩ (.int .i64 70)).setCell ⟨gb139, 1, none⟩ (.int .i64 70)) = w16 at n0_ n1_ n2_ ⊢
            have BK138 := n0_
            have BK139 := n1_
            have HB := n2_
            clear n0_ n1_ n2_
            have n0_ := Aside0.mk (blk_drew BK138.out)
            have n1_ := Aside0.mk (blk_drew BK139.out)
            have n2_ := Aside0.mk (below_drew1 HB.out)
            clear BK138
            clear BK139
            clear HB
            have BK138 := n0_
            have BK139 := n1_
            have HB := n2_
            clear n0_ n1_ n2_
            refine start_ (n := 10) (S := fun w' => w'.cell? ⟨gb138, 0, none⟩ = some (.int .i64 100) ∧ w'.cell? ⟨gb138, 1, none⟩ = some (.int .i64 80) ∧ w'.cell? ⟨gb138, 2, none⟩ = some (.int .i64 10) ∧ w'.cell? ⟨gb139, 0, none⟩ = some (.int .i64 70) ∧ w'.cell? ⟨gb139, 1, none⟩ = some (.int .i64 70)) (ds := []) #[false, false, false, false, false, false, false, false, false, false] (by kernel_rfl) rfl rfl ⟨(blk_cell BK138.out 0).trans rfl, (blk_cell BK138.out 1).trans rfl, (blk_cell BK138.out 2).trans rfl, (blk_cell BK139.out 0).trans rfl, (blk_cell BK139.out 1).trans rfl⟩ (fun hHeld => ?_); refine with_tabW minecontrollaw17_awake.tab3 minecontrollaw17_awake.bits3 (fun HT_ HW_ => ?_)
            generalize w16.drew = w17 at BK138 BK139 HB hHeld ⊢
            refine take_ (i := 0) (N := some 11) (v := ?_) (a' := ?_) #[true, false, false, false, false, false, false, false, false, false] rfl rfl (take_ofW HT_.out HW_.out (by kernel_rfl)) (fun _ _ _ h => h) (Or.inl ⟨by rfl, ?_⟩) hHeld ?_ ?_
            rotate_left
            · rintro w' ⟨s0, s1, s2, s3, s4⟩
              go_simp
              with_reducible rfl
            rotate_left
            · simp only [Act.put, List.setIfInBounds_toArray, List.set_cons_zero, List.set_cons_succ, i64_w, i32_w]
              rfl
            refine take_ (i := 2) (N := some 13) (v := ?_) (a' := ?_) #[true, false, true, false, false, false, false, false, false, false] rfl rfl (take_ofW HT_.out HW_.out (by kernel_rfl)) (fun _ _ _ h => h) (Or.inl ⟨by rfl, ?_⟩) hHeld ?_ ?_
            rotate_left
            · rintro w' ⟨s0, s1, s2, s3, s4⟩
              go_simp
              with_reducible rfl
            rotate_left
            · simp only [Act.put, List.setIfInBounds_toArray, List.set_cons_zero, List.set_cons_succ, i64_w, i32_w]
              rfl
            refine join_ (σ := Nat) 2 #[true, true, true, true, true, true, true, true, false, false] (fun s_ => [(12, .agg #[.bool t140, .int .i64 t141, .int .i64 t142]), (14, .tuple #[.agg #[.bool t143, .int .i64 t144, .int .i64 t145], .int .i64 t146]), (3, .pointer (some ⟨s_, 0, none⟩)), (10, .tuple #[.agg #[.bool t143, .int .i64 t144, .int .i64 t145], .int .i64 t146]), (15, .agg #[.bool t143, .int .i64 t144, .int .i64 t145]), (16, .int .i64 t146)]) (fun s_ w' => (w'.cell? ⟨gb138, 0, none⟩ = some (.int .i64 100) ∧ w'.cell? ⟨gb138, 1, none⟩ = some (.int .i64 80) ∧ w'.cell? ⟨gb138, 2, none⟩ = some (.int .i64 10) ∧ w'.cell? ⟨gb139, 0, none⟩ = some (.int .i64 70) ∧ w'.cell? ⟨gb139, 1, none⟩ = some (.int .i64 70)) ∧ (w'.heap[gb138]? = some (.cells #[.int .i64 100, .int .i64 80, .int .i64 10] 24 (0, 0))) ∧ (w'.heap[gb139]? = some (.cells #[.int .i64 70, .int .i64 70] 28 (0, 0))) ∧ (w'.heap[s_]? = some (.cells #[.bool false, .int .i64 0, .int .i64 0] 26 (0, 0))) ∧ (w.heap.size ≤ s_) ∧ (w.heap.size ≤ s_) ∧ (gb138 ≠ s_) ∧ (s_ ≠ gb138) ∧ (gb139 ≠ s_) ∧ (s_ ≠ gb139) ∧ (Below w.heap.size w w')) ?_ ?_
            rotate_left
            · intro hCont
              refine two_ (i := 1) (j := 7) (Ni := some 12) (Nj := some 3) #[true, true, true, false, false, false, false, false, false, false] #[true, false, true, false, false, false, false, true, false, false] rfl rfl rfl rfl (two_of HT_.out (by kernel_rfl)) (by decide) (by decide) (fun K hK => ?_) (fun K hK => ?_)
              · skip
                refine goes_ Try.func14 (by kernel_rfl) rfl #[] (by rfl) rfl rfl (by (try simp only [List.map_toArray, List.map_cons, List.map_nil]); first | done | rfl | (simp only [List.length_drop, List.length_take]; rfl)) ?_
                with_reducible refine (level_Begin.calls  t140 t141 t142 _ A1.out).mono ?_
                rintro e w18 ⟨rfl, hb⟩
                refine ⟨_, rfl, ?_⟩
                have n0_ := Aside0.mk (blk_below (g := gb138) (o := .cells #[.int .i64 100, .int .i64 80, .int .i64 10] 24 (0, 0)) (by (with_reducible repeat (first | refine blk_drewN ?_ _ | refine blk_drew ?_ | refine blk_alloc ?_ _)); exact BK138.out) hb)
                have n1_ := Aside0.mk (blk_below (g := gb139) (o := .cells #[.int .i64 70, .int .i64 70] 28 (0, 0)) (by (with_reducible repeat (first | refine blk_drewN ?_ _ | refine blk_drew ?_ | refine blk_alloc ?_ _)); exact BK139.out) hb)
                have n2_ := Aside0.mk (below_step (by repeat (first | (with_reducible first | exact HB.out | apply below_alloc | apply pw_below_drewN | apply below_drew1 | refine below_set ?_ GE138.out | refine below_set ?_ GE139.out) | exact HB.out)) hb)
                clear BK138
                clear BK139
                clear HB
                have BK138 := n0_
                have BK139 := n1_
                have HB := n2_
                clear n0_ n1_ n2_
                (try clear hb)
                (try clear hb2)
                (try clear hk)
                (try clear hi)
                refine hK.out _ _ ⟨(blk_cell BK138.out 0).trans rfl, (blk_cell BK138.out 1).trans rfl, (blk_cell BK138.out 2).trans rfl, (blk_cell BK139.out 0).trans rfl, (blk_cell BK139.out 1).trans rfl⟩ (fun hHeld => ?_)
                clear hK K
                refine norm_ (a' := ?_) ?_ ?_
                rotate_left
                · show Act.put _ (some 12) _ = _
                  simp only [Act.put, List.setIfInBounds_toArray, List.set_cons_zero, List.set_cons_succ, i64_w, i32_w]
                  rfl
                refine two_ (i := 3) (j := 7) (Ni := some 14) (Nj := some 3) #[true, true, true, true, false, false, false, false, false, false] #[true, true, true, false, false, false, false, true, false, false] rfl rfl rfl rfl (two_of HT_.out (by kernel_rfl)) (by decide) (by decide) (fun K hK => ?_) (fun K hK => ?_)
                · skip
                  refine goes_ Try.func15 (by kernel_rfl) rfl #[.agg #[.int .i64 100, .int .i64 80, .int .i64 10], .agg #[.bool t140, .int .i64 t141, .int .i64 t142], .agg #[.int .i64 70, .int .i64 70], .int .i64 5] (by rfl) rfl rfl (by (try simp only [List.map_toArray, List.map_cons, List.map_nil]); first | done | rfl | (simp only [List.length_drop, List.length_take]; rfl)) ?_
                  with_reducible refine (level_Step.calls k 100 80 10 t140 t141 t142 70 70 5 t143 t144 t145 t146 _ A2.out).mono ?_
                  rintro e w19 ⟨rfl, hb⟩
                  refine ⟨_, rfl, ?_⟩
                  have n0_ := Aside0.mk (blk_below (g := gb138) (o := .cells #[.int .i64 100, .int .i64 80, .int .i64 10] 24 (0, 0)) (by (with_reducible repeat (first | refine blk_drewN ?_ _ | refine blk_drew ?_ | refine blk_alloc ?_ _)); exact BK138.out) hb)
                  have n1_ := Aside0.mk (blk_below (g := gb139) (o := .cells #[.int .i64 70, .int .i64 70] 28 (0, 0)) (by (with_reducible repeat (first | refine blk_drewN ?_ _ | refine blk_drew ?_ | refine blk_alloc ?_ _)); exact BK139.out) hb)
                  have n2_ := Aside0.mk (below_step (by repeat (first | (with_reducible first | exact HB.out | apply below_alloc | apply pw_below_drewN | apply below_drew1 | refine below_set ?_ GE138.out | refine below_set ?_ GE139.out) | exact HB.out)) hb)
                  clear BK138
                  clear BK139
                  clear HB
                  have BK138 := n0_
                  have BK139 := n1_
                  have HB := n2_
                  clear n0_ n1_ n2_
                  (try clear hb)
                  (try clear hb2)
                  (try clear hk)
                  (try clear hi)
                  refine hK.out _ _ ⟨(blk_cell BK138.out 0).trans rfl, (blk_cell BK138.out 1).trans rfl, (blk_cell BK138.out 2).trans rfl, (blk_cell BK139.out 0).trans rfl, (blk_cell BK139.out 1).trans rfl⟩ (fun hHeld => ?_)
                  clear hK K
                  refine norm_ (a' := ?_) ?_ ?_
                  rotate_left
                  · show Act.put _ (some 14) _ = _
                    simp only [Act.put, List.setIfInBounds_toArray, List.set_cons_zero, List.set_cons_succ, i64_w, i32_w]
                    rfl
                  refine pure_ (i := 4) (N := some 10) (v := ?_) (a' := ?_) #[true, true, true, true, true, false, false, false, false, false] rfl rfl (any_of HT_.out (by kernel_rfl)) (fun _ _ _ h => h) (Or.inl ⟨by rfl, ?_⟩) ?_ ?_
                  rotate_left
                  · intro w'
                    go_simp
                    with_reducible rfl
                  rotate_left
                  · simp only [Act.put, List.setIfInBounds_toArray, List.set_cons_zero, List.set_cons_succ, i64_w, i32_w]
                    rfl
                  refine pure_ (i := 5) (N := some 15) (v := ?_) (a' := ?_) #[true, true, true, true, true, true, false, false, false, false] rfl rfl (any_of HT_.out (by kernel_rfl)) (fun _ _ _ h => h) (Or.inl ⟨by rfl, ?_⟩) ?_ ?_
                  rotate_left
                  · intro w'
                    go_simp
                    with_reducible rfl
                  rotate_left
                  · simp only [Act.put, List.setIfInBounds_toArray, List.set_cons_zero, List.set_cons_succ, i64_w, i32_w]
                    rfl
                  refine pure_ (i := 6) (N := some 16) (v := ?_) (a' := ?_) #[true, true, true, true, true, true, true, false, false, false] rfl rfl (any_of HT_.out (by kernel_rfl)) (fun _ _ _ h => h) (Or.inl ⟨by rfl, ?_⟩) ?_ ?_
                  rotate_left
                  · intro w'
                    go_simp
                    with_reducible rfl
                  rotate_left
                  · simp only [Act.put, List.setIfInBounds_toArray, List.set_cons_zero, List.set_cons_succ, i64_w, i32_w]
                    rfl
                  refine one_ (i := 7) (N := some 3) #[true, true, true, true, true, true, true, true, false, false] rfl rfl (one_of HT_.out (by kernel_rfl)) (by decide) (fun K hK => ?_)
                  refine box_step ?hg (N := 3) ?hd (cs := #[.bool false, .int .i64 0, .int .i64 0]) (t := 26) ?hr ?_; (case hd => rfl); (case hg => rfl); (case hr => first | (go_simp; done) | (go_simp; rfl))
                  intro gb147 hg w20 hbox hb
                  have n0_ := Aside0.mk (blk_below (g := gb138) (o := .cells #[.int .i64 100, .int .i64 80, .int .i64 10] 24 (0, 0)) (by (with_reducible repeat (first | refine blk_drewN ?_ _ | refine blk_drew ?_ | refine blk_alloc ?_ _)); exact BK138.out) hb)
                  have n1_ := Aside0.mk (blk_below (g := gb139) (o := .cells #[.int .i64 70, .int .i64 70] 28 (0, 0)) (by (with_reducible repeat (first | refine blk_drewN ?_ _ | refine blk_drew ?_ | refine blk_alloc ?_ _)); exact BK139.out) hb)
                  have n2_ := Aside0.mk (below_step (by repeat (first | (with_reducible first | exact HB.out | apply below_alloc | apply pw_below_drewN | apply below_drew1 | refine below_set ?_ GE138.out | refine below_set ?_ GE139.out) | exact HB.out)) hb)
                  have n3_ := Aside0.mk (hbox)
                  have n4_ := Aside0.mk ((by rw [hg]; exact (below_size (by repeat (first | (with_reducible first | exact HB.out | apply below_alloc | apply pw_below_drewN | apply below_drew1 | refine below_set ?_ GE138.out | refine below_set ?_ GE139.out) | exact HB.out))) : w.heap.size ≤ gb147))
                  have n5_ := Aside0.mk ((by rw [hg]; exact (below_size (by repeat (first | (with_reducible first | exact HB.out | apply below_alloc | apply pw_below_drewN | apply below_drew1 | refine below_set ?_ GE138.out | refine below_set ?_ GE139.out) | exact HB.out))) : w.heap.size ≤ gb147))
                  have n6_ := Aside0.mk ((by rw [hg]; exact Nat.ne_of_lt (blk_lt (g := gb138) (o := .cells #[.int .i64 100, .int .i64 80, .int .i64 10] 24 (0, 0)) (by (with_reducible repeat (first | refine blk_drewN ?_ _ | refine blk_drew ?_ | refine blk_alloc ?_ _)); exact BK138.out)) : gb138 ≠ gb147))
                  have n7_ := Aside0.mk ((by rw [hg]; exact Nat.ne_of_gt (blk_lt (g := gb138) (o := .cells #[.int .i64 100, .int .i64 80, .int .i64 10] 24 (0, 0)) (by (with_reducible repeat (first | refine blk_drewN ?_ _ | refine blk_drew ?_ | refine blk_alloc ?_ _)); exact BK138.out)) : gb147 ≠ gb138))
                  have n8_ := Aside0.mk ((by rw [hg]; exact Nat.ne_of_lt (blk_lt (g := gb139) (o := .cells #[.int .i64 70, .int .i64 70] 28 (0, 0)) (by (with_reducible repeat (first | refine blk_drewN ?_ _ | refine blk_drew ?_ | refine blk_alloc ?_ _)); exact BK139.out)) : gb139 ≠ gb147))
                  have n9_ := Aside0.mk ((by rw [hg]; exact Nat.ne_of_gt (blk_lt (g := gb139) (o := .cells #[.int .i64 70, .int .i64 70] 28 (0, 0)) (by (with_reducible repeat (first | refine blk_drewN ?_ _ | refine blk_drew ?_ | refine blk_alloc ?_ _)); exact BK139.out)) : gb147 ≠ gb139))
                  clear BK138
                  clear BK139
                  clear HB
                  have BK138 := n0_
                  have BK139 := n1_
                  have HB := n2_
                  have BK147 := n3_
                  have GW147 := n4_
                  have GE147 := n5_
                  have NB138_147 := n6_
                  have NB147_138 := n7_
                  have NB139_147 := n8_
                  have NB147_139 := n9_
                  clear n0_ n1_ n2_ n3_ n4_ n5_ n6_ n7_ n8_ n9_
                  clear hb hbox hg
                  refine hK.out _ _ ⟨(blk_cell BK138.out 0).trans rfl, (blk_cell BK138.out 1).trans rfl, (blk_cell BK138.out 2).trans rfl, (blk_cell BK139.out 0).trans rfl, (blk_cell BK139.out 1).trans rfl⟩ (fun hHeld => ?_)
                  clear hK K
                  refine norm_ (a' := ?_) ?_ ?_
                  rotate_left
                  · show Act.put _ (some 3) _ = _
                    simp only [Act.put, List.setIfInBounds_toArray, List.set_cons_zero, List.set_cons_succ, i64_w, i32_w]
                    rfl
                  exact norm_ (by simp only [putAll, Act.put, List.setIfInBounds_toArray, List.set_cons_zero, List.set_cons_succ]) (hCont (gb147) _ ⟨hHeld, (by (with_reducible repeat (first | refine blk_drewN ?_ _ | refine blk_drew ?_ | refine blk_alloc ?_ _)); exact BK138.out), (by (with_reducible repeat (first | refine blk_drewN ?_ _ | refine blk_drew ?_ | refine blk_alloc ?_ _)); exact BK139.out), (by (with_reducible repeat (first | refine blk_drewN ?_ _ | refine blk_drew ?_ | refine blk_alloc ?_ _)); exact BK147.out), GW147.out, GE147.out, NB138_147.out, NB147_138.out, NB139_147.out, NB147_139.out, (by repeat (first | (with_reducible first | exact HB.out | apply below_alloc | apply pw_below_drewN | apply below_drew1 | refine below_set ?_ GE138.out | refine below_set ?_ GE139.out | refine below_set ?_ GE147.out) | exact HB.out))⟩)
                · skip
                  refine box_step ?hg (N := 3) ?hd (cs := #[.bool false, .int .i64 0, .int .i64 0]) (t := 26) ?hr ?_; (case hd => rfl); (case hg => rfl); (case hr => first | (go_simp; done) | (go_simp; rfl))
                  intro gb147 hg w19 hbox hb
                  have n0_ := Aside0.mk (blk_below (g := gb138) (o := .cells #[.int .i64 100, .int .i64 80, .int .i64 10] 24 (0, 0)) (by (with_reducible repeat (first | refine blk_drewN ?_ _ | refine blk_drew ?_ | refine blk_alloc ?_ _)); exact BK138.out) hb)
                  have n1_ := Aside0.mk (blk_below (g := gb139) (o := .cells #[.int .i64 70, .int .i64 70] 28 (0, 0)) (by (with_reducible repeat (first | refine blk_drewN ?_ _ | refine blk_drew ?_ | refine blk_alloc ?_ _)); exact BK139.out) hb)
                  have n2_ := Aside0.mk (below_step (by repeat (first | (with_reducible first | exact HB.out | apply below_alloc | apply pw_below_drewN | apply below_drew1 | refine below_set ?_ GE138.out | refine below_set ?_ GE139.out) | exact HB.out)) hb)
                  have n3_ := Aside0.mk (hbox)
                  have n4_ := Aside0.mk ((by rw [hg]; exact (below_size (by repeat (first | (with_reducible first | exact HB.out | apply below_alloc | apply pw_below_drewN | apply below_drew1 | refine below_set ?_ GE138.out | refine below_set ?_ GE139.out) | exact HB.out))) : w.heap.size ≤ gb147))
                  have n5_ := Aside0.mk ((by rw [hg]; exact (below_size (by repeat (first | (with_reducible first | exact HB.out | apply below_alloc | apply pw_below_drewN | apply below_drew1 | refine below_set ?_ GE138.out | refine below_set ?_ GE139.out) | exact HB.out))) : w.heap.size ≤ gb147))
                  have n6_ := Aside0.mk ((by rw [hg]; exact Nat.ne_of_lt (blk_lt (g := gb138) (o := .cells #[.int .i64 100, .int .i64 80, .int .i64 10] 24 (0, 0)) (by (with_reducible repeat (first | refine blk_drewN ?_ _ | refine blk_drew ?_ | refine blk_alloc ?_ _)); exact BK138.out)) : gb138 ≠ gb147))
                  have n7_ := Aside0.mk ((by rw [hg]; exact Nat.ne_of_gt (blk_lt (g := gb138) (o := .cells #[.int .i64 100, .int .i64 80, .int .i64 10] 24 (0, 0)) (by (with_reducible repeat (first | refine blk_drewN ?_ _ | refine blk_drew ?_ | refine blk_alloc ?_ _)); exact BK138.out)) : gb147 ≠ gb138))
                  have n8_ := Aside0.mk ((by rw [hg]; exact Nat.ne_of_lt (blk_lt (g := gb139) (o := .cells #[.int .i64 70, .int .i64 70] 28 (0, 0)) (by (with_reducible repeat (first | refine blk_drewN ?_ _ | refine blk_drew ?_ | refine blk_alloc ?_ _)); exact BK139.out)) : gb139 ≠ gb147))
                  have n9_ := Aside0.mk ((by rw [hg]; exact Nat.ne_of_gt (blk_lt (g := gb139) (o := .cells #[.int .i64 70, .int .i64 70] 28 (0, 0)) (by (with_reducible repeat (first | refine blk_drewN ?_ _ | refine blk_drew ?_ | refine blk_alloc ?_ _)); exact BK139.out)) : gb147 ≠ gb139))
                  clear BK138
                  clear BK139
                  clear HB
                  have BK138 := n0_
                  have BK139 := n1_
                  have HB := n2_
                  have BK147 := n3_
                  have GW147 := n4_
                  have GE147 := n5_
                  have NB138_147 := n6_
                  have NB147_138 := n7_
                  have NB139_147 := n8_
                  have NB147_139 := n9_
                  clear n0_ n1_ n2_ n3_ n4_ n5_ n6_ n7_ n8_ n9_
                  clear hb hbox hg
                  refine hK.out _ _ ⟨(blk_cell BK138.out 0).trans rfl, (blk_cell BK138.out 1).trans rfl, (blk_cell BK138.out 2).trans rfl, (blk_cell BK139.out 0).trans rfl, (blk_cell BK139.out 1).trans rfl⟩ (fun hHeld => ?_)
                  clear hK K
                  refine norm_ (a' := ?_) ?_ ?_
                  rotate_left
                  · show Act.put _ (some 3) _ = _
                    simp only [Act.put, List.setIfInBounds_toArray, List.set_cons_zero, List.set_cons_succ, i64_w, i32_w]
                    rfl
                  refine one_ (i := 3) (N := some 14) #[true, true, true, true, false, false, false, true, false, false] rfl rfl (one_of HT_.out (by kernel_rfl)) (by decide) (fun K hK => ?_)
                  refine goes_ Try.func15 (by kernel_rfl) rfl #[.agg #[.int .i64 100, .int .i64 80, .int .i64 10], .agg #[.bool t140, .int .i64 t141, .int .i64 t142], .agg #[.int .i64 70, .int .i64 70], .int .i64 5] (by rfl) rfl rfl (by (try simp only [List.map_toArray, List.map_cons, List.map_nil]); first | done | rfl | (simp only [List.length_drop, List.length_take]; rfl)) ?_
                  with_reducible refine (level_Step.calls k 100 80 10 t140 t141 t142 70 70 5 t143 t144 t145 t146 _ A2.out).mono ?_
                  rintro e w20 ⟨rfl, hb⟩
                  refine ⟨_, rfl, ?_⟩
                  have n0_ := Aside0.mk (blk_below (g := gb138) (o := .cells #[.int .i64 100, .int .i64 80, .int .i64 10] 24 (0, 0)) (by (with_reducible repeat (first | refine blk_drewN ?_ _ | refine blk_drew ?_ | refine blk_alloc ?_ _)); exact BK138.out) hb)
                  have n1_ := Aside0.mk (blk_below (g := gb139) (o := .cells #[.int .i64 70, .int .i64 70] 28 (0, 0)) (by (with_reducible repeat (first | refine blk_drewN ?_ _ | refine blk_drew ?_ | refine blk_alloc ?_ _)); exact BK139.out) hb)
                  have n2_ := Aside0.mk (blk_below (g := gb147) (o := .cells #[.bool false, .int .i64 0, .int .i64 0] 26 (0, 0)) (by (with_reducible repeat (first | refine blk_drewN ?_ _ | refine blk_drew ?_ | refine blk_alloc ?_ _)); exact BK147.out) hb)
                  have n3_ := Aside0.mk (below_step (by repeat (first | (with_reducible first | exact HB.out | apply below_alloc | apply pw_below_drewN | apply below_drew1 | refine below_set ?_ GE138.out | refine below_set ?_ GE139.out | refine below_set ?_ GE147.out) | exact HB.out)) hb)
                  clear BK138
                  clear BK139
                  clear BK147
                  clear HB
                  have BK138 := n0_
                  have BK139 := n1_
                  have BK147 := n2_
                  have HB := n3_
                  clear n0_ n1_ n2_ n3_
                  (try clear hb)
                  (try clear hb2)
                  (try clear hk)
                  (try clear hi)
                  refine hK.out _ _ ⟨(blk_cell BK138.out 0).trans rfl, (blk_cell BK138.out 1).trans rfl, (blk_cell BK138.out 2).trans rfl, (blk_cell BK139.out 0).trans rfl, (blk_cell BK139.out 1).trans rfl⟩ (fun hHeld => ?_)
                  clear hK K
                  refine norm_ (a' := ?_) ?_ ?_
                  rotate_left
                  · show Act.put _ (some 14) _ = _
                    simp only [Act.put, List.setIfInBounds_toArray, List.set_cons_zero, List.set_cons_succ, i64_w, i32_w]
                    rfl
                  refine pure_ (i := 4) (N := some 10) (v := ?_) (a' := ?_) #[true, true, true, true, true, false, false, true, false, false] rfl rfl (any_of HT_.out (by kernel_rfl)) (fun _ _ _ h => h) (Or.inl ⟨by rfl, ?_⟩) ?_ ?_
                  rotate_left
                  · intro w'
                    go_simp
                    with_reducible rfl
                  rotate_left
                  · simp only [Act.put, List.setIfInBounds_toArray, List.set_cons_zero, List.set_cons_succ, i64_w, i32_w]
                    rfl
                  refine pure_ (i := 5) (N := some 15) (v := ?_) (a' := ?_) #[true, true, true, true, true, true, false, true, false, false] rfl rfl (any_of HT_.out (by kernel_rfl)) (fun _ _ _ h => h) (Or.inl ⟨by rfl, ?_⟩) ?_ ?_
                  rotate_left
                  · intro w'
                    go_simp
                    with_reducible rfl
                  rotate_left
                  · simp only [Act.put, List.setIfInBounds_toArray, List.set_cons_zero, List.set_cons_succ, i64_w, i32_w]
                    rfl
                  refine pure_ (i := 6) (N := some 16) (v := ?_) (a' := ?_) #[true, true, true, true, true, true, true, true, false, false] rfl rfl (any_of HT_.out (by kernel_rfl)) (fun _ _ _ h => h) (Or.inl ⟨by rfl, ?_⟩) ?_ ?_
                  rotate_left
                  · intro w'
                    go_simp
                    with_reducible rfl
                  rotate_left
                  · simp only [Act.put, List.setIfInBounds_toArray, List.set_cons_zero, List.set_cons_succ, i64_w, i32_w]
                    rfl
                  exact norm_ (by simp only [putAll, Act.put, List.setIfInBounds_toArray, List.set_cons_zero, List.set_cons_succ]) (hCont (gb147) _ ⟨hHeld, (by (with_reducible repeat (first | refine blk_drewN ?_ _ | refine blk_drew ?_ | refine blk_alloc ?_ _)); exact BK138.out), (by (with_reducible repeat (first | refine blk_drewN ?_ _ | refine blk_drew ?_ | refine blk_alloc ?_ _)); exact BK139.out), (by (with_reducible repeat (first | refine blk_drewN ?_ _ | refine blk_drew ?_ | refine blk_alloc ?_ _)); exact BK147.out), GW147.out, GE147.out, NB138_147.out, NB147_138.out, NB139_147.out, NB147_139.out, (by repeat (first | (with_reducible first | exact HB.out | apply below_alloc | apply pw_below_drewN | apply below_drew1 | refine below_set ?_ GE138.out | refine below_set ?_ GE139.out | refine below_set ?_ GE147.out) | exact HB.out))⟩)
              · skip
                refine box_step ?hg (N := 3) ?hd (cs := #[.bool false, .int .i64 0, .int .i64 0]) (t := 26) ?hr ?_; (case hd => rfl); (case hg => rfl); (case hr => first | (go_simp; done) | (go_simp; rfl))
                intro gb147 hg w18 hbox hb
                have n0_ := Aside0.mk (blk_below (g := gb138) (o := .cells #[.int .i64 100, .int .i64 80, .int .i64 10] 24 (0, 0)) (by (with_reducible repeat (first | refine blk_drewN ?_ _ | refine blk_drew ?_ | refine blk_alloc ?_ _)); exact BK138.out) hb)
                have n1_ := Aside0.mk (blk_below (g := gb139) (o := .cells #[.int .i64 70, .int .i64 70] 28 (0, 0)) (by (with_reducible repeat (first | refine blk_drewN ?_ _ | refine blk_drew ?_ | refine blk_alloc ?_ _)); exact BK139.out) hb)
                have n2_ := Aside0.mk (below_step (by repeat (first | (with_reducible first | exact HB.out | apply below_alloc | apply pw_below_drewN | apply below_drew1 | refine below_set ?_ GE138.out | refine below_set ?_ GE139.out) | exact HB.out)) hb)
                have n3_ := Aside0.mk (hbox)
                have n4_ := Aside0.mk ((by rw [hg]; exact (below_size (by repeat (first | (with_reducible first | exact HB.out | apply below_alloc | apply pw_below_drewN | apply below_drew1 | refine below_set ?_ GE138.out | refine below_set ?_ GE139.out) | exact HB.out))) : w.heap.size ≤ gb147))
                have n5_ := Aside0.mk ((by rw [hg]; exact (below_size (by repeat (first | (with_reducible first | exact HB.out | apply below_alloc | apply pw_below_drewN | apply below_drew1 | refine below_set ?_ GE138.out | refine below_set ?_ GE139.out) | exact HB.out))) : w.heap.size ≤ gb147))
                have n6_ := Aside0.mk ((by rw [hg]; exact Nat.ne_of_lt (blk_lt (g := gb138) (o := .cells #[.int .i64 100, .int .i64 80, .int .i64 10] 24 (0, 0)) (by (with_reducible repeat (first | refine blk_drewN ?_ _ | refine blk_drew ?_ | refine blk_alloc ?_ _)); exact BK138.out)) : gb138 ≠ gb147))
                have n7_ := Aside0.mk ((by rw [hg]; exact Nat.ne_of_gt (blk_lt (g := gb138) (o := .cells #[.int .i64 100, .int .i64 80, .int .i64 10] 24 (0, 0)) (by (with_reducible repeat (first | refine blk_drewN ?_ _ | refine blk_drew ?_ | refine blk_alloc ?_ _)); exact BK138.out)) : gb147 ≠ gb138))
                have n8_ := Aside0.mk ((by rw [hg]; exact Nat.ne_of_lt (blk_lt (g := gb139) (o := .cells #[.int .i64 70, .int .i64 70] 28 (0, 0)) (by (with_reducible repeat (first | refine blk_drewN ?_ _ | refine blk_drew ?_ | refine blk_alloc ?_ _)); exact BK139.out)) : gb139 ≠ gb147))
                have n9_ := Aside0.mk ((by rw [hg]; exact Nat.ne_of_gt (blk_lt (g := gb139) (o := .cells #[.int .i64 70, .int .i64 70] 28 (0, 0)) (by (with_reducible repeat (first | refine blk_drewN ?_ _ | refine blk_drew ?_ | refine blk_alloc ?_ _)); exact BK139.out)) : gb147 ≠ gb139))
                clear BK138
                clear BK139
                clear HB
                have BK138 := n0_
                have BK139 := n1_
                have HB := n2_
                have BK147 := n3_
                have GW147 := n4_
                have GE147 := n5_
                have NB138_147 := n6_
                have NB147_138 := n7_
                have NB139_147 := n8_
                have NB147_139 := n9_
                clear n0_ n1_ n2_ n3_ n4_ n5_ n6_ n7_ n8_ n9_
                clear hb hbox hg
                refine hK.out _ _ ⟨(blk_cell BK138.out 0).trans rfl, (blk_cell BK138.out 1).trans rfl, (blk_cell BK138.out 2).trans rfl, (blk_cell BK139.out 0).trans rfl, (blk_cell BK139.out 1).trans rfl⟩ (fun hHeld => ?_)
                clear hK K
                refine norm_ (a' := ?_) ?_ ?_
                rotate_left
                · show Act.put _ (some 3) _ = _
                  simp only [Act.put, List.setIfInBounds_toArray, List.set_cons_zero, List.set_cons_succ, i64_w, i32_w]
                  rfl
                refine one_ (i := 1) (N := some 12) #[true, true, true, false, false, false, false, true, false, false] rfl rfl (one_of HT_.out (by kernel_rfl)) (by decide) (fun K hK => ?_)
                refine goes_ Try.func14 (by kernel_rfl) rfl #[] (by rfl) rfl rfl (by (try simp only [List.map_toArray, List.map_cons, List.map_nil]); first | done | rfl | (simp only [List.length_drop, List.length_take]; rfl)) ?_
                with_reducible refine (level_Begin.calls  t140 t141 t142 _ A1.out).mono ?_
                rintro e w19 ⟨rfl, hb⟩
                refine ⟨_, rfl, ?_⟩
                have n0_ := Aside0.mk (blk_below (g := gb138) (o := .cells #[.int .i64 100, .int .i64 80, .int .i64 10] 24 (0, 0)) (by (with_reducible repeat (first | refine blk_drewN ?_ _ | refine blk_drew ?_ | refine blk_alloc ?_ _)); exact BK138.out) hb)
                have n1_ := Aside0.mk (blk_below (g := gb139) (o := .cells #[.int .i64 70, .int .i64 70] 28 (0, 0)) (by (with_reducible repeat (first | refine blk_drewN ?_ _ | refine blk_drew ?_ | refine blk_alloc ?_ _)); exact BK139.out) hb)
                have n2_ := Aside0.mk (blk_below (g := gb147) (o := .cells #[.bool false, .int .i64 0, .int .i64 0] 26 (0, 0)) (by (with_reducible repeat (first | refine blk_drewN ?_ _ | refine blk_drew ?_ | refine blk_alloc ?_ _)); exact BK147.out) hb)
                have n3_ := Aside0.mk (below_step (by repeat (first | (with_reducible first | exact HB.out | apply below_alloc | apply pw_below_drewN | apply below_drew1 | refine below_set ?_ GE138.out | refine below_set ?_ GE139.out | refine below_set ?_ GE147.out) | exact HB.out)) hb)
                clear BK138
                clear BK139
                clear BK147
                clear HB
                have BK138 := n0_
                have BK139 := n1_
                have BK147 := n2_
                have HB := n3_
                clear n0_ n1_ n2_ n3_
                (try clear hb)
                (try clear hb2)
                (try clear hk)
                (try clear hi)
                refine hK.out _ _ ⟨(blk_cell BK138.out 0).trans rfl, (blk_cell BK138.out 1).trans rfl, (blk_cell BK138.out 2).trans rfl, (blk_cell BK139.out 0).trans rfl, (blk_cell BK139.out 1).trans rfl⟩ (fun hHeld => ?_)
                clear hK K
                refine norm_ (a' := ?_) ?_ ?_
                rotate_left
                · show Act.put _ (some 12) _ = _
                  simp only [Act.put, List.setIfInBounds_toArray, List.set_cons_zero, List.set_cons_succ, i64_w, i32_w]
                  rfl
                refine one_ (i := 3) (N := some 14) #[true, true, true, true, false, false, false, true, false, false] rfl rfl (one_of HT_.out (by kernel_rfl)) (by decide) (fun K hK => ?_)
                refine goes_ Try.func15 (by kernel_rfl) rfl #[.agg #[.int .i64 100, .int .i64 80, .int .i64 10], .agg #[.bool t140, .int .i64 t141, .int .i64 t142], .agg #[.int .i64 70, .int .i64 70], .int .i64 5] (by rfl) rfl rfl (by (try simp only [List.map_toArray, List.map_cons, List.map_nil]); first | done | rfl | (simp only [List.length_drop, List.length_take]; rfl)) ?_
                with_reducible refine (level_Step.calls k 100 80 10 t140 t141 t142 70 70 5 t143 t144 t145 t146 _ A2.out).mono ?_
                rintro e w20 ⟨rfl, hb⟩
                refine ⟨_, rfl, ?_⟩
                have n0_ := Aside0.mk (blk_below (g := gb138) (o := .cells #[.int .i64 100, .int .i64 80, .int .i64 10] 24 (0, 0)) (by (with_reducible repeat (first | refine blk_drewN ?_ _ | refine blk_drew ?_ | refine blk_alloc ?_ _)); exact BK138.out) hb)
                have n1_ := Aside0.mk (blk_below (g := gb139) (o := .cells #[.int .i64 70, .int .i64 70] 28 (0, 0)) (by (with_reducible repeat (first | refine blk_drewN ?_ _ | refine blk_drew ?_ | refine blk_alloc ?_ _)); exact BK139.out) hb)
                have n2_ := Aside0.mk (blk_below (g := gb147) (o := .cells #[.bool false, .int .i64 0, .int .i64 0] 26 (0, 0)) (by (with_reducible repeat (first | refine blk_drewN ?_ _ | refine blk_drew ?_ | refine blk_alloc ?_ _)); exact BK147.out) hb)
                have n3_ := Aside0.mk (below_step (by repeat (first | (with_reducible first | exact HB.out | apply below_alloc | apply pw_below_drewN | apply below_drew1 | refine below_set ?_ GE138.out | refine below_set ?_ GE139.out | refine below_set ?_ GE147.out) | exact HB.out)) hb)
                clear BK138
                clear BK139
                clear BK147
                clear HB
                have BK138 := n0_
                have BK139 := n1_
                have BK147 := n2_
                have HB := n3_
                clear n0_ n1_ n2_ n3_
                (try clear hb)
                (try clear hb2)
                (try clear hk)
                (try clear hi)
                refine hK.out _ _ ⟨(blk_cell BK138.out 0).trans rfl, (blk_cell BK138.out 1).trans rfl, (blk_cell BK138.out 2).trans rfl, (blk_cell BK139.out 0).trans rfl, (blk_cell BK139.out 1).trans rfl⟩ (fun hHeld => ?_)
                clear hK K
                refine norm_ (a' := ?_) ?_ ?_
                rotate_left
                · show Act.put _ (some 14) _ = _
                  simp only [Act.put, List.setIfInBounds_toArray, List.set_cons_zero, List.set_cons_succ, i64_w, i32_w]
                  rfl
                refine pure_ (i := 4) (N := some 10) (v := ?_) (a' := ?_) #[true, true, true, true, true, false, false, true, false, false] rfl rfl (any_of HT_.out (by kernel_rfl)) (fun _ _ _ h => h) (Or.inl ⟨by rfl, ?_⟩) ?_ ?_
                rotate_left
                · intro w'
                  go_simp
                  with_reducible rfl
                rotate_left
                · simp only [Act.put, List.setIfInBounds_toArray, List.set_cons_zero, List.set_cons_succ, i64_w, i32_w]
                  rfl
                refine pure_ (i := 5) (N := some 15) (v := ?_) (a' := ?_) #[true, true, true, true, true, true, false, true, false, false] rfl rfl (any_of HT_.out (by kernel_rfl)) (fun _ _ _ h => h) (Or.inl ⟨by rfl, ?_⟩) ?_ ?_
                rotate_left
                · intro w'
                  go_simp
                  with_reducible rfl
                rotate_left
                · simp only [Act.put, List.setIfInBounds_toArray, List.set_cons_zero, List.set_cons_succ, i64_w, i32_w]
                  rfl
                refine pure_ (i := 6) (N := some 16) (v := ?_) (a' := ?_) #[true, true, true, true, true, true, true, true, false, false] rfl rfl (any_of HT_.out (by kernel_rfl)) (fun _ _ _ h => h) (Or.inl ⟨by rfl, ?_⟩) ?_ ?_
                rotate_left
                · intro w'
                  go_simp
                  with_reducible rfl
                rotate_left
                · simp only [Act.put, List.setIfInBounds_toArray, List.set_cons_zero, List.set_cons_succ, i64_w, i32_w]
                  rfl
                exact norm_ (by simp only [putAll, Act.put, List.setIfInBounds_toArray, List.set_cons_zero, List.set_cons_succ]) (hCont (gb147) _ ⟨hHeld, (by (with_reducible repeat (first | refine blk_drewN ?_ _ | refine blk_drew ?_ | refine blk_alloc ?_ _)); exact BK138.out), (by (with_reducible repeat (first | refine blk_drewN ?_ _ | refine blk_drew ?_ | refine blk_alloc ?_ _)); exact BK139.out), (by (with_reducible repeat (first | refine blk_drewN ?_ _ | refine blk_drew ?_ | refine blk_alloc ?_ _)); exact BK147.out), GW147.out, GE147.out, NB138_147.out, NB147_138.out, NB139_147.out, NB147_139.out, (by repeat (first | (with_reducible first | exact HB.out | apply below_alloc | apply pw_below_drewN | apply below_drew1 | refine below_set ?_ GE138.out | refine below_set ?_ GE139.out | refine below_set ?_ GE147.out) | exact HB.out))⟩)
            rintro gb147 w21 ⟨hS_, h0_, h1_, h2_, h3_, h4_, h5_, h6_, h7_, h8_, h9_⟩
            have n0_ : Aside0 (w21.heap[gb138]? = some (.cells #[.int .i64 100, .int .i64 80, .int .i64 10] 24 (0, 0))) := ⟨h0_⟩
            have n1_ : Aside0 (w21.heap[gb139]? = some (.cells #[.int .i64 70, .int .i64 70] 28 (0, 0))) := ⟨h1_⟩
            have n2_ : Aside0 (w21.heap[gb147]? = some (.cells #[.bool false, .int .i64 0, .int .i64 0] 26 (0, 0))) := ⟨h2_⟩
            have n3_ : Aside0 (w.heap.size ≤ gb147) := ⟨h3_⟩
            have n4_ : Aside0 (w.heap.size ≤ gb147) := ⟨h4_⟩
            have n5_ : Aside0 (gb138 ≠ gb147) := ⟨h5_⟩
            have n6_ : Aside0 (gb147 ≠ gb138) := ⟨h6_⟩
            have n7_ : Aside0 (gb139 ≠ gb147) := ⟨h7_⟩
            have n8_ : Aside0 (gb147 ≠ gb139) := ⟨h8_⟩
            have n9_ : Aside0 (Below w.heap.size w w21) := ⟨h9_⟩
            clear BK138
            clear BK139
            clear HB
            clear h0_ h1_ h2_ h3_ h4_ h5_ h6_ h7_ h8_ h9_
            have BK138 := n0_
            have BK139 := n1_
            have BK147 := n2_
            have GW147 := n3_
            have GE147 := n4_
            have NB138_147 := n5_
            have NB147_138 := n6_
            have NB139_147 := n7_
            have NB147_139 := n8_
            have HB := n9_
            clear n0_ n1_ n2_ n3_ n4_ n5_ n6_ n7_ n8_ n9_
            have hHeld : w21.cell? ⟨gb138, 0, none⟩ = some (.int .i64 100) ∧ w21.cell? ⟨gb138, 1, none⟩ = some (.int .i64 80) ∧ w21.cell? ⟨gb138, 2, none⟩ = some (.int .i64 10) ∧ w21.cell? ⟨gb139, 0, none⟩ = some (.int .i64 70) ∧ w21.cell? ⟨gb139, 1, none⟩ = some (.int .i64 70) := hS_
            refine norm_ (a' := ?_) ?_ ?_
            rotate_left
            · simp only [putAll, Act.put, List.setIfInBounds_toArray, List.set_cons_zero, List.set_cons_succ]
              rfl
            refine one_ (i := 8) (N := none) #[true, true, true, true, true, true, true, true, true, false] rfl rfl (one_of HT_.out (by kernel_rfl)) (by decide) (fun K hK => ?_)
            have hs22 : w21.cell? ⟨gb147, 0, none⟩ = some (.bool false) := (blk_cell BK147.out 0).trans rfl
            have hfs22 := blk_frozen BK147.out 0
            have hns22_0 := NB138_147.out
            have hns22_1 := NB139_147.out
            have hms22_0 := NB147_138.out
            have hms22_1 := NB147_139.out
            have hs23 : w21.cell? ⟨gb147, 1, none⟩ = some (.int .i64 0) := (blk_cell BK147.out 1).trans rfl
            have hfs23 := blk_frozen BK147.out 1
            have hns23_0 := NB138_147.out
            have hns23_1 := NB139_147.out
            have hms23_0 := NB147_138.out
            have hms23_1 := NB147_139.out
            have hs24 : w21.cell? ⟨gb147, 2, none⟩ = some (.int .i64 0) := (blk_cell BK147.out 2).trans rfl
            have hfs24 := blk_frozen BK147.out 2
            have hns24_0 := NB138_147.out
            have hns24_1 := NB139_147.out
            have hms24_0 := NB147_138.out
            have hms24_1 := NB147_139.out
            refine skip_ (w1 := ?_) (by rfl) rfl ?_ ?_
            rotate_left
            · go_simp
              rfl
            refine hK.out _ _ ⟨((cell_far (p := ⟨gb147, _, none⟩) NB138_147.out _).trans (((cell_far (p := ⟨gb147, _, none⟩) NB138_147.out _).trans (((cell_far (p := ⟨gb147, _, none⟩) NB138_147.out _).trans (hHeld.1)))))), ((cell_far (p := ⟨gb147, _, none⟩) NB138_147.out _).trans (((cell_far (p := ⟨gb147, _, none⟩) NB138_147.out _).trans (((cell_far (p := ⟨gb147, _, none⟩) NB138_147.out _).trans (hHeld.2.1)))))), ((cell_far (p := ⟨gb147, _, none⟩) NB138_147.out _).trans (((cell_far (p := ⟨gb147, _, none⟩) NB138_147.out _).trans (((cell_far (p := ⟨gb147, _, none⟩) NB138_147.out _).trans (hHeld.2.2.1)))))), ((cell_far (p := ⟨gb147, _, none⟩) NB139_147.out _).trans (((cell_far (p := ⟨gb147, _, none⟩) NB139_147.out _).trans (((cell_far (p := ⟨gb147, _, none⟩) NB139_147.out _).trans (hHeld.2.2.2.1)))))), ((cell_far (p := ⟨gb147, _, none⟩) NB139_147.out _).trans (((cell_far (p := ⟨gb147, _, none⟩) NB139_147.out _).trans (((cell_far (p := ⟨gb147, _, none⟩) NB139_147.out _).trans (hHeld.2.2.2.2))))))⟩ (fun hHeld => ?_)
            clear hK K
            refine pure_ (i := 9) (N := some 4) (v := ?_) (a' := ?_) #[true, true, true, true, true, true, true, true, true, true] rfl rfl (any_of HT_.out (by kernel_rfl)) (fun _ _ _ h => h) (Or.inl ⟨by rfl, ?_⟩) ?_ ?_
            rotate_left
            · intro w'
              go_simp
              with_reducible rfl
            rotate_left
            · simp only [Act.put, List.setIfInBounds_toArray, List.set_cons_zero, List.set_cons_succ, i64_w, i32_w]
              rfl
            refine done_ (done_of HT_.out (by kernel_rfl)) ?_
            have hnb25 := NB138_147.out
            have hnc25 := NB147_138.out
            have hcz26_0 : w21.cell? ⟨gb138, 0, none⟩ = some (.int .i64 100) := (blk_cell BK138.out 0).trans rfl
            have hcz26_1 : w21.cell? ⟨gb138, 1, none⟩ = some (.int .i64 80) := (blk_cell BK138.out 1).trans rfl
            have hcz26_2 : w21.cell? ⟨gb138, 2, none⟩ = some (.int .i64 10) := (blk_cell BK138.out 2).trans rfl
            have hfz26_0 := blk_frozen BK138.out 0
            have hfz26_1 := blk_frozen BK138.out 1
            have hfz26_2 := blk_frozen BK138.out 2
            have hnb27 := NB147_139.out
            have hnc27 := NB139_147.out
            have hcz28_0 : w21.cell? ⟨gb147, 0, none⟩ = some (.bool false) := (blk_cell BK147.out 0).trans rfl
            have hcz28_1 : w21.cell? ⟨gb147, 1, none⟩ = some (.int .i64 0) := (blk_cell BK147.out 1).trans rfl
            have hcz28_2 : w21.cell? ⟨gb147, 2, none⟩ = some (.int .i64 0) := (blk_cell BK147.out 2).trans rfl
            have hfz28_0 := blk_frozen BK147.out 0
            have hfz28_1 := blk_frozen BK147.out 1
            have hfz28_2 := blk_frozen BK147.out 2
            try go_wp2_with (first | ((with_reducible refine gate_callee (f := 21) rfl ?_); refine goesL_ (some 19) rfl rfl Try.func21 (by kernel_rfl) rfl #[.agg #[.int .i64 100, .int .i64 80, .int .i64 10], .agg #[.bool t143, .int .i64 t144, .int .i64 t145]] rfl (by (try simp only [List.map_toArray, List.map_cons, List.map_nil]); first | done | rfl | (simp only [List.length_drop, List.length_take]; rfl)) ?_; (with_reducible refine (level_Next.calls 100 80 10 t143 t144 t145 t148 _ A3.out).mono ?_); rintro e w29 ⟨rfl, hb⟩; refine ⟨_, rfl, ?_⟩; have n0_ := Aside0.mk (blk_below (g := gb138) (o := .cells #[.int .i64 100, .int .i64 80, .int .i64 10] 24 (0, 0)) (by (with_reducible repeat (first | refine blk_drewN ?_ _ | refine blk_drew ?_ | refine blk_alloc ?_ _)); refine blk_far ?_ NB138_147.out _; (with_reducible repeat (first | refine blk_drewN ?_ _ | refine blk_drew ?_ | refine blk_alloc ?_ _)); refine blk_far ?_ NB138_147.out _; (with_reducible repeat (first | refine blk_drewN ?_ _ | refine blk_drew ?_ | refine blk_alloc ?_ _)); refine blk_far ?_ NB138_147.out _; (with_reducible repeat (first | refine blk_drewN ?_ _ | refine blk_drew ?_ | refine blk_alloc ?_ _)); exact BK138.out) hb); have n1_ := Aside0.mk (blk_below (g := gb139) (o := .cells #[.int .i64 70, .int .i64 70] 28 (0, 0)) (by (with_reducible repeat (first | refine blk_drewN ?_ _ | refine blk_drew ?_ | refine blk_alloc ?_ _)); refine blk_far ?_ NB139_147.out _; (with_reducible repeat (first | refine blk_drewN ?_ _ | refine blk_drew ?_ | refine blk_alloc ?_ _)); refine blk_far ?_ NB139_147.out _; (with_reducible repeat (first | refine blk_drewN ?_ _ | refine blk_drew ?_ | refine blk_alloc ?_ _)); refine blk_far ?_ NB139_147.out _; (with_reducible repeat (first | refine blk_drewN ?_ _ | refine blk_drew ?_ | refine blk_alloc ?_ _)); exact BK139.out) hb); have n2_ := Aside0.mk (blk_below (g := gb147) (o := .cells #[.bool t143, .int .i64 t144, .int .i64 t145] 26 (0, 0)) (by (with_reducible repeat (first | refine blk_drewN ?_ _ | refine blk_drew ?_ | refine blk_alloc ?_ _)); refine blk_put (cs := #[.bool t143, .int .i64 t144, .int .i64 0]) ?_ 2 _ rfl; (with_reducible repeat (first | refine blk_drewN ?_ _ | refine blk_drew ?_ | refine blk_alloc ?_ _)); refine blk_put (cs := #[.bool t143, .int .i64 0, .int .i64 0]) ?_ 1 _ rfl; (with_reducible repeat (first | refine blk_drewN ?_ _ | refine blk_drew ?_ | refine blk_alloc ?_ _)); refine blk_put (cs := #[.bool false, .int .i64 0, .int .i64 0]) ?_ 0 _ rfl; (with_reducible repeat (first | refine blk_drewN ?_ _ | refine blk_drew ?_ | refine blk_alloc ?_ _)); exact BK147.out) hb); have n3_ := Aside0.mk (below_step (by repeat (first | (with_reducible first | exact HB.out | apply below_alloc | apply pw_below_drewN | apply below_drew1 | refine below_set ?_ GE138.out | refine below_set ?_ GE139.out | refine below_set ?_ GE147.out) | exact HB.out)) hb); clear BK138; clear BK139; clear BK147; clear HB; have BK138 := n0_; have BK139 := n1_; have BK147 := n2_; have HB := n3_; clear n0_ n1_ n2_ n3_; (try clear hb); (try clear hb2); (try clear hk); (try clear hi); have hcz30_0 : w29.cell? ⟨gb138, 0, none⟩ = some (.int .i64 100) := (blk_cell BK138.out 0).trans rfl; have hcz30_1 : w29.cell? ⟨gb138, 1, none⟩ = some (.int .i64 80) := (blk_cell BK138.out 1).trans rfl; have hcz30_2 : w29.cell? ⟨gb138, 2, none⟩ = some (.int .i64 10) := (blk_cell BK138.out 2).trans rfl; have hfz30_0 := blk_frozen BK138.out 0; have hfz30_1 := blk_frozen BK138.out 1; have hfz30_2 := blk_frozen BK138.out 2; have hcz31_0 : w29.cell? ⟨gb147, 0, none⟩ = some (.bool t143) := (blk_cell BK147.out 0).trans rfl; have hcz31_1 : w29.cell? ⟨gb147, 1, none⟩ = some (.int .i64 t144) := (blk_cell BK147.out 1).trans rfl; have hcz31_2 : w29.cell? ⟨gb147, 2, none⟩ = some (.int .i64 t145) := (blk_cell BK147.out 2).trans rfl; have hfz31_0 := blk_frozen BK147.out 0; have hfz31_1 := blk_frozen BK147.out 1; have hfz31_2 := blk_frozen BK147.out 2; have hcz32_0 : w29.cell? ⟨gb139, 0, none⟩ = some (.int .i64 70) := (blk_cell BK139.out 0).trans rfl; have hcz32_1 : w29.cell? ⟨gb139, 1, none⟩ = some (.int .i64 70) := (blk_cell BK139.out 1).trans rfl; have hfz32_0 := blk_frozen BK139.out 0; have hfz32_1 := blk_frozen BK139.out 1) | ((with_reducible refine gate_callee (f := 15) rfl ?_); refine goesL_ (some 24) rfl rfl Try.func15 (by kernel_rfl) rfl #[.agg #[.int .i64 100, .int .i64 80, .int .i64 10], .agg #[.bool t143, .int .i64 t144, .int .i64 t145], .agg #[.int .i64 70, .int .i64 70], .int .i64 15] rfl (by (try simp only [List.map_toArray, List.map_cons, List.map_nil]); first | done | rfl | (simp only [List.length_drop, List.length_take]; rfl)) ?_; (with_reducible refine (level_Step.calls k 100 80 10 t143 t144 t145 70 70 15 t149 t150 t151 t152 _ A4.out).mono ?_); rintro e w33 ⟨rfl, hb⟩; refine ⟨_, rfl, ?_⟩; have n0_ := Aside0.mk (blk_below (g := gb138) (o := .cells #[.int .i64 100, .int .i64 80, .int .i64 10] 24 (0, 0)) (by (with_reducible repeat (first | refine blk_drewN ?_ _ | refine blk_drew ?_ | refine blk_alloc ?_ _)); exact BK138.out) hb); have n1_ := Aside0.mk (blk_below (g := gb139) (o := .cells #[.int .i64 70, .int .i64 70] 28 (0, 0)) (by (with_reducible repeat (first | refine blk_drewN ?_ _ | refine blk_drew ?_ | refine blk_alloc ?_ _)); exact BK139.out) hb); have n2_ := Aside0.mk (blk_below (g := gb147) (o := .cells #[.bool t143, .int .i64 t144, .int .i64 t145] 26 (0, 0)) (by (with_reducible repeat (first | refine blk_drewN ?_ _ | refine blk_drew ?_ | refine blk_alloc ?_ _)); exact BK147.out) hb); have n3_ := Aside0.mk (below_step (by repeat (first | (with_reducible first | exact HB.out | apply below_alloc | apply pw_below_drewN | apply below_drew1 | refine below_set ?_ GE138.out | refine below_set ?_ GE139.out | refine below_set ?_ GE147.out) | exact HB.out)) hb); clear BK138; clear BK139; clear BK147; clear HB; have BK138 := n0_; have BK139 := n1_; have BK147 := n2_; have HB := n3_; clear n0_ n1_ n2_ n3_; (try clear hb); (try clear hb2); (try clear hk); (try clear hi)) | ((with_reducible refine gate_dst (N := 6) rfl ?_); refine box_event ?hg (N := 6) ?hd (cs := #[.bool false, .int .i64 0, .int .i64 0]) (t := 26) ?hr ?_; (case hd => rfl); (case hg => rfl); (case hr => first | (go_simp; done) | (go_simp; rfl)); intro gb153 hg w34 hbox hb; have n0_ := Aside0.mk (blk_below (g := gb138) (o := .cells #[.int .i64 100, .int .i64 80, .int .i64 10] 24 (0, 0)) (by (with_reducible repeat (first | refine blk_drewN ?_ _ | refine blk_drew ?_ | refine blk_alloc ?_ _)); exact BK138.out) hb); have n1_ := Aside0.mk (blk_below (g := gb139) (o := .cells #[.int .i64 70, .int .i64 70] 28 (0, 0)) (by (with_reducible repeat (first | refine blk_drewN ?_ _ | refine blk_drew ?_ | refine blk_alloc ?_ _)); exact BK139.out) hb); have n2_ := Aside0.mk (blk_below (g := gb147) (o := .cells #[.bool t143, .int .i64 t144, .int .i64 t145] 26 (0, 0)) (by (with_reducible repeat (first | refine blk_drewN ?_ _ | refine blk_drew ?_ | refine blk_alloc ?_ _)); exact BK147.out) hb); have n3_ := Aside0.mk (below_step (by repeat (first | (with_reducible first | exact HB.out | apply below_alloc | apply pw_below_drewN | apply below_drew1 | refine below_set ?_ GE138.out | refine below_set ?_ GE139.out | refine below_set ?_ GE147.out) | exact HB.out)) hb); have n4_ := Aside0.mk (hbox); have n5_ := Aside0.mk ((by rw [hg]; exact (below_size (by repeat (first | (with_reducible first | exact HB.out | apply below_alloc | apply pw_below_drewN | apply below_drew1 | refine below_set ?_ GE138.out | refine below_set ?_ GE139.out | refine below_set ?_ GE147.out) | exact HB.out))) : w.heap.size ≤ gb153)); have n6_ := Aside0.mk ((by rw [hg]; exact (below_size (by repeat (first | (with_reducible first | exact HB.out | apply below_alloc | apply pw_below_drewN | apply below_drew1 | refine below_set ?_ GE138.out | refine below_set ?_ GE139.out | refine below_set ?_ GE147.out) | exact HB.out))) : w.heap.size ≤ gb153)); have n7_ := Aside0.mk ((by rw [hg]; exact Nat.ne_of_lt (blk_lt (g := gb138) (o := .cells #[.int .i64 100, .int .i64 80, .int .i64 10] 24 (0, 0)) (by (with_reducible repeat (first | refine blk_drewN ?_ _ | refine blk_drew ?_ | refine blk_alloc ?_ _)); exact BK138.out)) : gb138 ≠ gb153)); have n8_ := Aside0.mk ((by rw [hg]; exact Nat.ne_of_gt (blk_lt (g := gb138) (o := .cells #[.int .i64 100, .int .i64 80, .int .i64 10] 24 (0, 0)) (by (with_reducible repeat (first | refine blk_drewN ?_ _ | refine blk_drew ?_ | refine blk_alloc ?_ _)); exact BK138.out)) : gb153 ≠ gb138)); have n9_ := Aside0.mk ((by rw [hg]; exact Nat.ne_of_lt (blk_lt (g := gb139) (o := .cells #[.int .i64 70, .int .i64 70] 28 (0, 0)) (by (with_reducible repeat (first | refine blk_drewN ?_ _ | refine blk_drew ?_ | refine blk_alloc ?_ _)); exact BK139.out)) : gb139 ≠ gb153)); have n10_ := Aside0.mk ((by rw [hg]; exact Nat.ne_of_gt (blk_lt (g := gb139) (o := .cells #[.int .i64 70, .int .i64 70] 28 (0, 0)) (by (with_reducible repeat (first | refine blk_drewN ?_ _ | refine blk_drew ?_ | refine blk_alloc ?_ _)); exact BK139.out)) : gb153 ≠ gb139)); have n11_ := Aside0.mk ((by rw [hg]; exact Nat.ne_of_lt (blk_lt (g := gb147) (o := .cells #[.bool t143, .int .i64 t144, .int .i64 t145] 26 (0, 0)) (by (with_reducible repeat (first | refine blk_drewN ?_ _ | refine blk_drew ?_ | refine blk_alloc ?_ _)); exact BK147.out)) : gb147 ≠ gb153)); have n12_ := Aside0.mk ((by rw [hg]; exact Nat.ne_of_gt (blk_lt (g := gb147) (o := .cells #[.bool t143, .int .i64 t144, .int .i64 t145] 26 (0, 0)) (by (with_reducible repeat (first | refine blk_drewN ?_ _ | refine blk_drew ?_ | refine blk_alloc ?_ _)); exact BK147.out)) : gb153 ≠ gb147)); clear BK138; clear BK139; clear BK147; clear HB; have BK138 := n0_; have BK139 := n1_; have BK147 := n2_; have HB := n3_; have BK153 := n4_; have GW153 := n5_; have GE153 := n6_; have NB138_153 := n7_; have NB153_138 := n8_; have NB139_153 := n9_; have NB153_139 := n10_; have NB147_153 := n11_; have NB153_147 := n12_; clear n0_ n1_ n2_ n3_ n4_ n5_ n6_ n7_ n8_ n9_ n10_ n11_ n12_; clear hb hbox hg; have hnb35 := NB153_138.out; have hnc35 := NB138_153.out; have hnb36 := NB153_139.out; have hnc36 := NB139_153.out; have hnb37 := NB153_147.out; have hnc37 := NB147_153.out; have hcz38_0 : w34.cell? ⟨gb153, 0, none⟩ = some (.bool false) := (blk_cell BK153.out 0).trans rfl; have hcz38_1 : w34.cell? ⟨gb153, 1, none⟩ = some (.int .i64 0) := (blk_cell BK153.out 1).trans rfl; have hcz38_2 : w34.cell? ⟨gb153, 2, none⟩ = some (.int .i64 0) := (blk_cell BK153.out 2).trans rfl; have hfz38_0 := blk_frozen BK153.out 0; have hfz38_1 := blk_frozen BK153.out 1; have hfz38_2 := blk_frozen BK153.out 2; have hcz39_0 : w34.cell? ⟨gb138, 0, none⟩ = some (.int .i64 100) := (blk_cell BK138.out 0).trans rfl; have hcz39_1 : w34.cell? ⟨gb138, 1, none⟩ = some (.int .i64 80) := (blk_cell BK138.out 1).trans rfl; have hcz39_2 : w34.cell? ⟨gb138, 2, none⟩ = some (.int .i64 10) := (blk_cell BK138.out 2).trans rfl; have hfz39_0 := blk_frozen BK138.out 0; have hfz39_1 := blk_frozen BK138.out 1; have hfz39_2 := blk_frozen BK138.out 2) | ((with_reducible refine gate_callee (f := 17) rfl ?_); refine goesL_ (some 28) rfl rfl Try.func17 (by kernel_rfl) rfl #[.agg #[.int .i64 100, .int .i64 80, .int .i64 10]] rfl (by (try simp only [List.map_toArray, List.map_cons, List.map_nil]); first | done | rfl | (simp only [List.length_drop, List.length_take]; rfl)) ?_; (with_reducible refine (level_Check.calls 100 80 10 t154 _ A5.out).mono ?_); rintro e w40 ⟨rfl, hb⟩; refine ⟨_, rfl, ?_⟩; have n0_ := Aside0.mk (blk_below (g := gb138) (o := .cells #[.int .i64 100, .int .i64 80, .int .i64 10] 24 (0, 0)) (by (with_reducible repeat (first | refine blk_drewN ?_ _ | refine blk_drew ?_ | refine blk_alloc ?_ _)); refine blk_far ?_ NB138_153.out _; (with_reducible repeat (first | refine blk_drewN ?_ _ | refine blk_drew ?_ | refine blk_alloc ?_ _)); refine blk_far ?_ NB138_153.out _; (with_reducible repeat (first | refine blk_drewN ?_ _ | refine blk_drew ?_ | refine blk_alloc ?_ _)); refine blk_far ?_ NB138_153.out _; (with_reducible repeat (first | refine blk_drewN ?_ _ | refine blk_drew ?_ | refine blk_alloc ?_ _)); exact BK138.out) hb); have n1_ := Aside0.mk (blk_below (g := gb139) (o := .cells #[.int .i64 70, .int .i64 70] 28 (0, 0)) (by (with_reducible repeat (first | refine blk_drewN ?_ _ | refine blk_drew ?_ | refine blk_alloc ?_ _)); refine blk_far ?_ NB139_153.out _; (with_reducible repeat (first | refine blk_drewN ?_ _ | refine blk_drew ?_ | refine blk_alloc ?_ _)); refine blk_far ?_ NB139_153.out _; (with_reducible repeat (first | refine blk_drewN ?_ _ | refine blk_drew ?_ | refine blk_alloc ?_ _)); refine blk_far ?_ NB139_153.out _; (with_reducible repeat (first | refine blk_drewN ?_ _ | refine blk_drew ?_ | refine blk_alloc ?_ _)); exact BK139.out) hb); have n2_ := Aside0.mk (blk_below (g := gb147) (o := .cells #[.bool t143, .int .i64 t144, .int .i64 t145] 26 (0, 0)) (by (with_reducible repeat (first | refine blk_drewN ?_ _ | refine blk_drew ?_ | refine blk_alloc ?_ _)); refine blk_far ?_ NB147_153.out _; (with_reducible repeat (first | refine blk_drewN ?_ _ | refine blk_drew ?_ | refine blk_alloc ?_ _)); refine blk_far ?_ NB147_153.out _; (with_reducible repeat (first | refine blk_drewN ?_ _ | refine blk_drew ?_ | refine blk_alloc ?_ _)); refine blk_far ?_ NB147_153.out _; (with_reducible repeat (first | refine blk_drewN ?_ _ | refine blk_drew ?_ | refine blk_alloc ?_ _)); exact BK147.out) hb); have n3_ := Aside0.mk (blk_below (g := gb153) (o := .cells #[.bool t149, .int .i64 t150, .int .i64 t151] 26 (0, 0)) (by (with_reducible repeat (first | refine blk_drewN ?_ _ | refine blk_drew ?_ | refine blk_alloc ?_ _)); refine blk_put (cs := #[.bool t149, .int .i64 t150, .int .i64 0]) ?_ 2 _ rfl; (with_reducible repeat (first | refine blk_drewN ?_ _ | refine blk_drew ?_ | refine blk_alloc ?_ _)); refine blk_put (cs := #[.bool t149, .int .i64 0, .int .i64 0]) ?_ 1 _ rfl; (with_reducible repeat (first | refine blk_drewN ?_ _ | refine blk_drew ?_ | refine blk_alloc ?_ _)); refine blk_put (cs := #[.bool false, .int .i64 0, .int .i64 0]) ?_ 0 _ rfl; (with_reducible repeat (first | refine blk_drewN ?_ _ | refine blk_drew ?_ | refine blk_alloc ?_ _)); exact BK153.out) hb); have n4_ := Aside0.mk (below_step (by repeat (first | (with_reducible first | exact HB.out | apply below_alloc | apply pw_below_drewN | apply below_drew1 | refine below_set ?_ GE138.out | refine below_set ?_ GE139.out | refine below_set ?_ GE147.out | refine below_set ?_ GE153.out) | exact HB.out)) hb); clear BK138; clear BK139; clear BK147; clear BK153; clear HB; have BK138 := n0_; have BK139 := n1_; have BK147 := n2_; have BK153 := n3_; have HB := n4_; clear n0_ n1_ n2_ n3_ n4_; (try clear hb); (try clear hb2); (try clear hk); (try clear hi); have hcz41_0 : w40.cell? ⟨gb147, 0, none⟩ = some (.bool t143) := (blk_cell BK147.out 0).trans rfl; have hcz41_1 : w40.cell? ⟨gb147, 1, none⟩ = some (.int .i64 t144) := (blk_cell BK147.out 1).trans rfl; have hcz41_2 : w40.cell? ⟨gb147, 2, none⟩ = some (.int .i64 t145) := (blk_cell BK147.out 2).trans rfl; have hfz41_0 := blk_frozen BK147.out 0; have hfz41_1 := blk_frozen BK147.out 1; have hfz41_2 := blk_frozen BK147.out 2; have hcz42_0 : w40.cell? ⟨gb153, 0, none⟩ = some (.bool t149) := (blk_cell BK153.out 0).trans rfl; have hcz42_1 : w40.cell? ⟨gb153, 1, none⟩ = some (.int .i64 t150) := (blk_cell BK153.out 1).trans rfl; have hcz42_2 : w40.cell? ⟨gb153, 2, none⟩ = some (.int .i64 t151) := (blk_cell BK153.out 2).trans rfl; have hfz42_0 := blk_frozen BK153.out 0; have hfz42_1 := blk_frozen BK153.out 1; have hfz42_2 := blk_frozen BK153.out 2))
            go_ret
            exact ⟨by first | rfl | (simp [errW_none, errW_some] <;> rfl) | (simp [*, errW_none, errW_some] <;> rfl), by repeat (first | (with_reducible first | exact HB.out | apply below_alloc | apply pw_below_drewN | apply below_drew1 | refine below_set ?_ GE138.out | refine below_set ?_ GE139.out | refine below_set ?_ GE147.out | refine below_set ?_ GE153.out) | exact HB.out)⟩
          · rw [if_neg c10] at H
            have c10b0 : (t152 == 0) = false := beq_eq_false_iff_ne.mpr c10
            have c10b1 : (t152 != 0) = true := bne_iff_ne.mpr c10
            obtain rfl := Option.some.inj H
            exact absurd hr_.out (by decide)
        · rw [if_neg c9] at H
          have c9b0 : (t148 == 15) = false := beq_eq_false_iff_ne.mpr c9
          have c9b1 : (t148 != 15) = true := bne_iff_ne.mpr c9
          obtain rfl := Option.some.inj H
          exact absurd hr_.out (by decide)
      · rw [if_neg c8] at H
        have c8b0 : (t143 && (t144 == 5 && (t145 == 5))) = false := by simpa using c8
        clear c8
        obtain rfl := Option.some.inj H
        exact absurd hr_.out (by decide)
    · rw [if_neg c7] at H
      have c7b0 : (t146 == 0) = false := beq_eq_false_iff_ne.mpr c7
      have c7b1 : (t146 != 0) = true := bne_iff_ne.mpr c7
      obtain rfl := Option.some.inj H
      exact absurd hr_.out (by decide)
  · rw [if_neg c6] at H
    have c6b0 : (t154 == 0) = false := beq_eq_false_iff_ne.mpr c6
    have c6b1 : (t154 != 0) = true := bne_iff_ne.mpr c6
    obtain rfl := Option.some.inj H
    exact absurd hr_.out (by decide)

set_option maxRecDepth 100000 in
theorem minecontrollaw17_awake.only : ∀ k r, minecontrollaw17_awake.f k = some r → r = true := by
  intro k r h
  have h1 : minecontrollaw17_awake.f 60 = some true := by decide +kernel
  have h2 := more_rounds minecontrollaw17_awake.mono k 60 r h
  have h3 := more_rounds minecontrollaw17_awake.mono 60 k true h1
  rw [Nat.add_comm] at h3
  rw [h3] at h2
  exact (Option.some.inj h2).symm
theorem minecontrollaw17_awake.calls (k : Nat) (r : Bool) (w : World) (h : minecontrollaw17_awake.f k  = some r) :
    Calls Try.prog 20 #[] w fun e w' => e = .returned (.bool r) ∧ Below w.heap.size w w' := minecontrollaw17_awake.calls1 k r w (.mk (minecontrollaw17_awake.only k r h)) h

end Go.Proofs.Ythdeooggfdfoiaa.PLev
