/- Functions of the given program as Lean functions, and proofs that its calls come to what these say. Written by a program of this seat (wip/mkprint.py); Lean checks it all. -/
import Derived.Test.YthdeooggfdfoiaaPLevx0
import Derived.Test.YthdeooggfdfoiaaPLevx2
import Derived.Test.YthdeooggfdfoiaaPLevx3
import Derived.Test.YthdeooggfdfoiaaPLevx5
import Derived.Test.YthdeooggfdfoiaaPLevx8
namespace Go.Proofs.Ythdeooggfdfoiaa.PLev
open Go.RowKit Go.Proofs.YthdeooggfdfoiaaW.PrintWords Go.Proofs.YthdeooggfdfoiaaW.PrintLast Go.Proofs.YthdeooggfdfoiaaW.PrintMore
attribute [local go_sem] max2_int min2_int max_two min_two max_three min_three max_four min_four   -- for this text's walks alone
set_option linter.unusedVariables false
set_option linter.unusedSimpArgs false

/-! ### minecontrollaw17_LevelWider: function 7 -/
mutual
def minecontrollaw17_LevelWider.l0 : Nat → List Int → Int → List (S48) → Int → Int → Int → Int → Int → Bool → Int → Int → Bool → Int → Int → Option (Bool)
  | 0, _, _, _, _, _, _, _, _, _, _, _, _, _, _ => none
  | k + 1, x1, x9, x25, x26, x27, x328000, x328001, x328002, x335000, x335001, x335002, x336000, x336001, x336002 => if x27 < x26 then (if 0 ≤ x27 then (if x27 < (x25.length : Int) then (if x27 < (x1.length : Int) then (minecontrollaw17_LevelWider.j1 k x1 (wrap64 (x9 + ((rd_T48 x25 x27).f0))) (wrap64 (rd x1 x27)) x25 x26 x27 x328000 x328001 x328002 x335000 x335001 x335002 x336000 x336001 x336002 ((rd_T48 x25 x27).f0) ((rd_T48 x25 x27).f1) ((rd_T48 x25 x27).f2)) else (minecontrollaw17_LevelWider.j1 k x1 (wrap64 (x9 + ((rd_T48 x25 x27).f0))) 0 x25 x26 x27 x328000 x328001 x328002 x335000 x335001 x335002 x336000 x336001 x336002 ((rd_T48 x25 x27).f0) ((rd_T48 x25 x27).f1) ((rd_T48 x25 x27).f2))) else (none)) else (none)) else ((minecontrollaw17_awake.f k).bind fun t340 => (some t340))
def minecontrollaw17_LevelWider.j1 : Nat → List Int → Int → Int → List (S48) → Int → Int → Int → Int → Int → Bool → Int → Int → Bool → Int → Int → Int → Int → Int → Option (Bool)
  | 0, _, _, _, _, _, _, _, _, _, _, _, _, _, _, _, _, _, _ => none
  | k + 1, x1, x9, x12, x25, x26, x27, x328000, x328001, x328002, x335000, x335001, x335002, x336000, x336001, x336002, x343000, x343001, x343002 => (level_Step.f k x328000 x328001 x328002 x335000 x335001 x335002 x343001 x343002 x9).bind fun bt344 => ((level_Step.f k x328000 x328001 x328002 x336000 x336001 x336002 (wrap64 (x343001 - x12)) (wrap64 (x343002 + x12)) x9).bind fun bt349 => (if bt344.2.2.2 = 0 then (if bt349.2.2.2 = 0 then (if bt344.1 = true then (if bt349.1 = true then (minecontrollaw17_LevelWider.l0 k x1 x9 x25 x26 (wrap64 (x27 + 1)) x328000 x328001 x328002 bt344.1 bt344.2.1 bt344.2.2.1 bt349.1 bt349.2.1 bt349.2.2.1) else (some false)) else (minecontrollaw17_LevelWider.l0 k x1 x9 x25 x26 (wrap64 (x27 + 1)) x328000 x328001 x328002 bt344.1 bt344.2.1 bt344.2.2.1 bt349.1 bt349.2.1 bt349.2.2.1)) else (some false)) else (some false)))
end
def minecontrollaw17_LevelWider.f (k : Nat) (l0 : List Int) (l1 : List Int) : Option (Bool) := (minecontroldraw_New.f l0).bind fun bt320 => ((minecontroldraw_Codes_Level.f k bt320.1 bt320.2).bind fun bt323 => ((level_Begin.f).bind fun bt328 => ((level_Begin.f).bind fun bt331 => ((minecontrollaw17_story.f k bt320.1 bt323.2.2.2 bt323.1 bt323.2.1 bt323.2.2.1).bind fun bt336 => (minecontrollaw17_LevelWider.l0 k l1 0 bt336.1 (bt336.1.length : Int) 0 bt323.1 bt323.2.1 bt323.2.2.1 bt328.1 bt328.2.1 bt328.2.2 bt331.1 bt331.2.1 bt331.2.2)))))
theorem minecontrollaw17_LevelWider.mono_l : ∀ k, (∀ y0 y1 y2 y3 y4 y5 y6 y7 y8 y9 y10 y11 y12 y13, LeO (minecontrollaw17_LevelWider.l0 k y0 y1 y2 y3 y4 y5 y6 y7 y8 y9 y10 y11 y12 y13) (minecontrollaw17_LevelWider.l0 (k + 1) y0 y1 y2 y3 y4 y5 y6 y7 y8 y9 y10 y11 y12 y13)) ∧ (∀ y0 y1 y2 y3 y4 y5 y6 y7 y8 y9 y10 y11 y12 y13 y14 y15 y16 y17, LeO (minecontrollaw17_LevelWider.j1 k y0 y1 y2 y3 y4 y5 y6 y7 y8 y9 y10 y11 y12 y13 y14 y15 y16 y17) (minecontrollaw17_LevelWider.j1 (k + 1) y0 y1 y2 y3 y4 y5 y6 y7 y8 y9 y10 y11 y12 y13 y14 y15 y16 y17))
  | 0 => ⟨fun _ _ _ _ _ _ _ _ _ _ _ _ _ _ r h => by simp [minecontrollaw17_LevelWider.l0] at h, fun _ _ _ _ _ _ _ _ _ _ _ _ _ _ _ _ _ _ r h => by simp [minecontrollaw17_LevelWider.j1] at h⟩
  | k + 1 => by
    obtain ⟨ih0, ih1⟩ := minecontrollaw17_LevelWider.mono_l k
    refine ⟨?_, ?_⟩
    · intro y0 y1 y2 y3 y4 y5 y6 y7 y8 y9 y10 y11 y12 y13
      unfold minecontrollaw17_LevelWider.l0
      repeat' first
      | (with_reducible exact ih0 _ _ _ _ _ _ _ _ _ _ _ _ _ _)
      | (with_reducible exact ih1 _ _ _ _ _ _ _ _ _ _ _ _ _ _ _ _ _ _)
      | (with_reducible exact level_Step.mono _ _ _ _ _ _ _ _ _ _)
      | (with_reducible exact minecontroldraw_Codes_Level.mono _ _ _)
      | (with_reducible exact minecontrollaw17_awake.mono _)
      | (with_reducible exact minecontrollaw17_story.mono _ _ _ _ _ _)
      | (with_reducible exact LeO.refl _)
      | (with_reducible exact LeO.none _)
      | (with_reducible refine LeO.ite ?_ ?_)
      | (with_reducible refine LeO.bind ?_ (fun _ => ?_))
      | exact ih0 _ _ _ _ _ _ _ _ _ _ _ _ _ _
      | exact ih1 _ _ _ _ _ _ _ _ _ _ _ _ _ _ _ _ _ _
      | exact level_Step.mono _ _ _ _ _ _ _ _ _ _
      | exact minecontroldraw_Codes_Level.mono _ _ _
      | exact minecontrollaw17_awake.mono _
      | exact minecontrollaw17_story.mono _ _ _ _ _ _
      | exact LeO.none _
      | refine LeO.ite ?_ ?_
      | refine LeO.bind ?_ (fun _ => ?_)
    · intro y0 y1 y2 y3 y4 y5 y6 y7 y8 y9 y10 y11 y12 y13 y14 y15 y16 y17
      unfold minecontrollaw17_LevelWider.j1
      repeat' first
      | (with_reducible exact ih0 _ _ _ _ _ _ _ _ _ _ _ _ _ _)
      | (with_reducible exact ih1 _ _ _ _ _ _ _ _ _ _ _ _ _ _ _ _ _ _)
      | (with_reducible exact level_Step.mono _ _ _ _ _ _ _ _ _ _)
      | (with_reducible exact minecontroldraw_Codes_Level.mono _ _ _)
      | (with_reducible exact minecontrollaw17_awake.mono _)
      | (with_reducible exact minecontrollaw17_story.mono _ _ _ _ _ _)
      | (with_reducible exact LeO.refl _)
      | (with_reducible exact LeO.none _)
      | (with_reducible refine LeO.ite ?_ ?_)
      | (with_reducible refine LeO.bind ?_ (fun _ => ?_))
      | exact ih0 _ _ _ _ _ _ _ _ _ _ _ _ _ _
      | exact ih1 _ _ _ _ _ _ _ _ _ _ _ _ _ _ _ _ _ _
      | exact level_Step.mono _ _ _ _ _ _ _ _ _ _
      | exact minecontroldraw_Codes_Level.mono _ _ _
      | exact minecontrollaw17_awake.mono _
      | exact minecontrollaw17_story.mono _ _ _ _ _ _
      | exact LeO.none _
      | refine LeO.ite ?_ ?_
      | refine LeO.bind ?_ (fun _ => ?_)
theorem minecontrollaw17_LevelWider.mono : ∀ a0 a1 k, LeO (minecontrollaw17_LevelWider.f k a0 a1) (minecontrollaw17_LevelWider.f (k + 1) a0 a1) := by
  intro a0 a1 k
  obtain ⟨ih0, ih1⟩ := minecontrollaw17_LevelWider.mono_l k
  unfold minecontrollaw17_LevelWider.f
  repeat' first
      | (with_reducible exact ih0 _ _ _ _ _ _ _ _ _ _ _ _ _ _)
      | (with_reducible exact ih1 _ _ _ _ _ _ _ _ _ _ _ _ _ _ _ _ _ _)
      | (with_reducible exact level_Step.mono _ _ _ _ _ _ _ _ _ _)
      | (with_reducible exact minecontroldraw_Codes_Level.mono _ _ _)
      | (with_reducible exact minecontrollaw17_awake.mono _)
      | (with_reducible exact minecontrollaw17_story.mono _ _ _ _ _ _)
      | (with_reducible exact LeO.refl _)
      | (with_reducible exact LeO.none _)
      | (with_reducible refine LeO.ite ?_ ?_)
      | (with_reducible refine LeO.bind ?_ (fun _ => ?_))
      | exact ih0 _ _ _ _ _ _ _ _ _ _ _ _ _ _
      | exact ih1 _ _ _ _ _ _ _ _ _ _ _ _ _ _ _ _ _ _
      | exact level_Step.mono _ _ _ _ _ _ _ _ _ _
      | exact minecontroldraw_Codes_Level.mono _ _ _
      | exact minecontrollaw17_awake.mono _
      | exact minecontrollaw17_story.mono _ _ _ _ _ _
      | exact LeO.none _
      | refine LeO.ite ?_ ?_
      | refine LeO.bind ?_ (fun _ => ?_)
set_option maxHeartbeats 8000000 in
set_option maxRecDepth 100000 in
theorem minecontrollaw17_LevelWider.calls1 (k : Nat) (A0 : Option Addr) (c0 : Nat) (l0 : List Int) (A1 : Option Addr) (c1 : Nat) (l1 : List Int) (r : Bool) (w : World) (hr0 : Kd.C (Kd.int .u8) w A0 l0.length l0) (hc0 : l0.length ≤ c0) (hr1 : Kd.C (Kd.int .u8) w A1 l1.length l1) (hc1 : l1.length ≤ c1) (hr_ : Aside0 (r = true)) (h : minecontrollaw17_LevelWider.f k l0 l1 = some r) :
    Calls Try.prog 7 #[.slice A0 l0.length c0, .slice A1 l1.length c1] w fun e w' => e = .returned (.bool r) ∧ Below w.heap.size w w' := by
  have hu24 := Try.underlying24
  have hu26 := Try.underlying26
  have hu48 := Try.underlying48
  have hu28 := Try.underlying28
  have HR0 := Aside0.mk hr0
  have HC0 := Aside0.mk hc0
  clear hr0 hc0
  have HR1 := Aside0.mk hr1
  have HC1 := Aside0.mk hc1
  clear hr1 hc1
  have HB := Aside0.mk (Below.refl w.heap.size w)
  have H : ((minecontroldraw_New.f l0).bind fun bt320 => ((minecontroldraw_Codes_Level.f k bt320.1 bt320.2).bind fun bt323 => ((level_Begin.f).bind fun bt328 => ((level_Begin.f).bind fun bt331 => ((minecontrollaw17_story.f k bt320.1 bt323.2.2.2 bt323.1 bt323.2.1 bt323.2.2.1).bind fun bt336 => (minecontrollaw17_LevelWider.l0 k l1 0 bt336.1 (bt336.1.length : Int) 0 bt323.1 bt323.2.1 bt323.2.2.1 bt328.1 bt328.2.1 bt328.2.2 bt331.1 bt331.2.1 bt331.2.2)))))) = some r := h
  clear h
  replace H := Option.bind_eq_some_iff.mp H
  obtain ⟨⟨t320, t321⟩, A30, H⟩ := H
  replace H : ((minecontroldraw_Codes_Level.f k t320 t321).bind fun bt323 => ((level_Begin.f).bind fun bt328 => ((level_Begin.f).bind fun bt331 => ((minecontrollaw17_story.f k t320 bt323.2.2.2 bt323.1 bt323.2.1 bt323.2.2.1).bind fun bt336 => (minecontrollaw17_LevelWider.l0 k l1 0 bt336.1 (bt336.1.length : Int) 0 bt323.1 bt323.2.1 bt323.2.2.1 bt328.1 bt328.2.1 bt328.2.2 bt331.1 bt331.2.1 bt331.2.2))))) = some r := H
  have A3 := Aside0.mk A30
  clear A30
  replace H := Option.bind_eq_some_iff.mp H
  obtain ⟨⟨t323, t324, t325, t326⟩, A40, H⟩ := H
  replace H : ((level_Begin.f).bind fun bt328 => ((level_Begin.f).bind fun bt331 => ((minecontrollaw17_story.f k t320 t326 t323 t324 t325).bind fun bt336 => (minecontrollaw17_LevelWider.l0 k l1 0 bt336.1 (bt336.1.length : Int) 0 t323 t324 t325 bt328.1 bt328.2.1 bt328.2.2 bt331.1 bt331.2.1 bt331.2.2)))) = some r := H
  have A4 := Aside0.mk A40
  clear A40
  replace H := Option.bind_eq_some_iff.mp H
  obtain ⟨⟨t328, t329, t330⟩, A50, H⟩ := H
  replace H : ((level_Begin.f).bind fun bt331 => ((minecontrollaw17_story.f k t320 t326 t323 t324 t325).bind fun bt336 => (minecontrollaw17_LevelWider.l0 k l1 0 bt336.1 (bt336.1.length : Int) 0 t323 t324 t325 t328 t329 t330 bt331.1 bt331.2.1 bt331.2.2))) = some r := H
  have A5 := Aside0.mk A50
  clear A50
  replace H := Option.bind_eq_some_iff.mp H
  obtain ⟨⟨t331, t332, t333⟩, A60, H⟩ := H
  replace H : ((minecontrollaw17_story.f k t320 t326 t323 t324 t325).bind fun bt336 => (minecontrollaw17_LevelWider.l0 k l1 0 bt336.1 (bt336.1.length : Int) 0 t323 t324 t325 t328 t329 t330 t331 t332 t333)) = some r := H
  have A6 := Aside0.mk A60
  clear A60
  replace H := Option.bind_eq_some_iff.mp H
  obtain ⟨⟨t336, t339⟩, A70, H⟩ := H
  replace H : (minecontrollaw17_LevelWider.l0 k l1 0 t336 (t336.length : Int) 0 t323 t324 t325 t328 t329 t330 t331 t332 t333) = some r := H
  have A7 := Aside0.mk A70
  clear A70
  have H' := Aside0.mk H
  clear H
  go_enter Try.func7, Try.ntmps7
  go_wp2_with (first | ((with_reducible refine gate_callee (f := 9) rfl ?_); refine goesL_ (some 18) rfl rfl Try.func9 (by kernel_rfl) rfl #[.slice A0 l0.length c0] rfl (by (try simp only [List.map_toArray, List.map_cons, List.map_nil]); first | done | rfl | (simp only [List.length_drop, List.length_take]; rfl)) ?_; (with_reducible refine (minecontroldraw_New.calls _ _ l0 t320 t321 w _ ?side1 ?side2 ?side3 A3.out).mono ?_); (case side1 => repeat (first | (with_reducible first | exact HB.out | apply below_alloc | apply pw_below_drewN | apply below_drew1) | exact HB.out)); (case side2 => exact HR0.out); (case side3 => exact HC0.out); rintro e w8 ⟨g322, rfl, hi, hb, hb2⟩; refine ⟨_, rfl, ?_⟩; have n0_ := Aside0.mk (hb); have n1_ := Aside0.mk (hi); clear HB; have HB := n0_; have HI322 := n1_; clear n0_ n1_; (try clear hb); (try clear hb2); (try clear hk); (try clear hi)) | ((with_reducible refine gate_callee (f := 10) rfl ?_); refine goesL_ (some 20) rfl rfl Try.func10 (by kernel_rfl) rfl #[.pointer (some ⟨g322, 0, none⟩)] rfl (by (try simp only [List.map_toArray, List.map_cons, List.map_nil]); first | done | rfl | (simp only [List.length_drop, List.length_take]; rfl)) ?_; (with_reducible refine (minecontroldraw_Codes_Level.calls k g322 t320 t321 t323 t324 t325 t326 w _ ?side1 ?side2 A4.out).mono ?_); (case side1 => repeat (first | (with_reducible first | exact HI322.out | apply IsS53.alloc | apply IsS53.drewN | apply IsS53.drew | apply IsS53.set_1) | exact HI322.out)); (case side2 => repeat (first | (with_reducible first | exact HB.out | apply below_alloc | apply pw_below_drewN | apply below_drew1 | refine below_set ?_ (IsS53.ge HI322.out)) | exact HB.out)); rintro e w9 ⟨rfl, hi, hb, hk⟩; refine ⟨_, rfl, ?_⟩; have n0_ := Aside0.mk (hb); have n1_ := Aside0.mk (hi); clear HB; clear HI322; have HB := n0_; have HI322 := n1_; clear n0_ n1_; (try clear hb); (try clear hb2); (try clear hk); (try clear hi)) | ((with_reducible refine gate_dst (N := 6) rfl ?_); refine box_event ?hg (N := 6) ?hd (cs := #[.int .i64 0, .int .i64 0, .int .i64 0]) (t := 24) ?hr ?_; (case hd => rfl); (case hg => rfl); (case hr => first | (go_simp; done) | (go_simp; rfl)); intro gb327 hg w10 hbox hb; have n0_ := Aside0.mk (IsS53.below (by repeat (first | (with_reducible first | exact HI322.out | apply IsS53.alloc | apply IsS53.drewN | apply IsS53.drew | apply IsS53.set_1) | exact HI322.out)) hb); have n1_ := Aside0.mk (below_step (by repeat (first | (with_reducible first | exact HB.out | apply below_alloc | apply pw_below_drewN | apply below_drew1 | refine below_set ?_ (IsS53.ge HI322.out)) | exact HB.out)) hb); have n2_ := Aside0.mk (hbox); have n3_ := Aside0.mk ((by rw [hg]; exact (below_size (by repeat (first | (with_reducible first | exact HB.out | apply below_alloc | apply pw_below_drewN | apply below_drew1 | refine below_set ?_ (IsS53.ge HI322.out)) | exact HB.out))) : w.heap.size ≤ gb327)); have n4_ := Aside0.mk ((by rw [hg]; exact (below_size (by repeat (first | (with_reducible first | exact HB.out | apply below_alloc | apply pw_below_drewN | apply below_drew1 | refine below_set ?_ (IsS53.ge HI322.out)) | exact HB.out))) : w.heap.size ≤ gb327)); have n5_ := Aside0.mk ((by rw [hg]; exact Nat.ne_of_lt (IsS53.lt (show IsS53 w _ g322 t320 t326 from by repeat (first | (with_reducible first | exact HI322.out | apply IsS53.alloc | apply IsS53.drewN | apply IsS53.drew | apply IsS53.set_1) | exact HI322.out))) : g322 ≠ gb327)); have n6_ := Aside0.mk ((by rw [hg]; exact Nat.ne_of_gt (IsS53.lt (show IsS53 w _ g322 t320 t326 from by repeat (first | (with_reducible first | exact HI322.out | apply IsS53.alloc | apply IsS53.drewN | apply IsS53.drew | apply IsS53.set_1) | exact HI322.out))) : gb327 ≠ g322)); clear HI322; clear HB; have HI322 := n0_; have HB := n1_; have BK327 := n2_; have GW327 := n3_; have GE327 := n4_; have NB322_327 := n5_; have NB327_322 := n6_; clear n0_ n1_ n2_ n3_ n4_ n5_ n6_; clear hb hbox hg; have hnb11 := NB327_322.out; have hnc11 := NB322_327.out; have hcz12_0 : w10.cell? ⟨gb327, 0, none⟩ = some (.int .i64 0) := (blk_cell BK327.out 0).trans rfl; have hcz12_1 : w10.cell? ⟨gb327, 1, none⟩ = some (.int .i64 0) := (blk_cell BK327.out 1).trans rfl; have hcz12_2 : w10.cell? ⟨gb327, 2, none⟩ = some (.int .i64 0) := (blk_cell BK327.out 2).trans rfl; have hfz12_0 := blk_frozen BK327.out 0; have hfz12_1 := blk_frozen BK327.out 1; have hfz12_2 := blk_frozen BK327.out 2) | ((with_reducible refine gate_callee (f := 14) rfl ?_); refine goesL_ (some 21) rfl rfl Try.func14 (by kernel_rfl) rfl #[] rfl (by (try simp only [List.map_toArray, List.map_cons, List.map_nil]); first | done | rfl | (simp only [List.length_drop, List.length_take]; rfl)) ?_; (with_reducible refine (level_Begin.calls  t328 t329 t330 _ A5.out).mono ?_); rintro e w13 ⟨rfl, hb⟩; refine ⟨_, rfl, ?_⟩; have n0_ := Aside0.mk (IsS53.below (show IsS53 w _ g322 t320 t326 from by repeat (first | (with_reducible first | exact HI322.out | apply IsS53.alloc | apply IsS53.drewN | apply IsS53.drew | apply IsS53.set_1 | refine IsS53.far ?_ NB322_327.out _) | exact HI322.out)) hb); have n1_ := Aside0.mk (blk_below (g := gb327) (o := .cells #[.int .i64 t323, .int .i64 t324, .int .i64 t325] 24 (0, 0)) (by (with_reducible repeat (first | refine blk_drewN ?_ _ | refine blk_drew ?_ | refine blk_alloc ?_ _)); refine blk_put (cs := #[.int .i64 t323, .int .i64 t324, .int .i64 0]) ?_ 2 _ rfl; (with_reducible repeat (first | refine blk_drewN ?_ _ | refine blk_drew ?_ | refine blk_alloc ?_ _)); refine blk_put (cs := #[.int .i64 t323, .int .i64 0, .int .i64 0]) ?_ 1 _ rfl; (with_reducible repeat (first | refine blk_drewN ?_ _ | refine blk_drew ?_ | refine blk_alloc ?_ _)); refine blk_put (cs := #[.int .i64 0, .int .i64 0, .int .i64 0]) ?_ 0 _ rfl; (with_reducible repeat (first | refine blk_drewN ?_ _ | refine blk_drew ?_ | refine blk_alloc ?_ _)); exact BK327.out) hb); have n2_ := Aside0.mk (below_step (by repeat (first | (with_reducible first | exact HB.out | apply below_alloc | apply pw_below_drewN | apply below_drew1 | refine below_set ?_ (IsS53.ge HI322.out) | refine below_set ?_ GE327.out) | exact HB.out)) hb); clear HI322; clear BK327; clear HB; have HI322 := n0_; have BK327 := n1_; have HB := n2_; clear n0_ n1_ n2_; (try clear hb); (try clear hb2); (try clear hk); (try clear hi)) | ((with_reducible refine gate_callee (f := 14) rfl ?_); refine goesL_ (some 22) rfl rfl Try.func14 (by kernel_rfl) rfl #[] rfl (by (try simp only [List.map_toArray, List.map_cons, List.map_nil]); first | done | rfl | (simp only [List.length_drop, List.length_take]; rfl)) ?_; (with_reducible refine (level_Begin.calls  t331 t332 t333 _ A6.out).mono ?_); rintro e w14 ⟨rfl, hb⟩; refine ⟨_, rfl, ?_⟩; have n0_ := Aside0.mk (IsS53.below (by repeat (first | (with_reducible first | exact HI322.out | apply IsS53.alloc | apply IsS53.drewN | apply IsS53.drew | apply IsS53.set_1 | refine IsS53.far ?_ NB322_327.out _) | exact HI322.out)) hb); have n1_ := Aside0.mk (blk_below (g := gb327) (o := .cells #[.int .i64 t323, .int .i64 t324, .int .i64 t325] 24 (0, 0)) (by (with_reducible repeat (first | refine blk_drewN ?_ _ | refine blk_drew ?_ | refine blk_alloc ?_ _)); exact BK327.out) hb); have n2_ := Aside0.mk (below_step (by repeat (first | (with_reducible first | exact HB.out | apply below_alloc | apply pw_below_drewN | apply below_drew1 | refine below_set ?_ (IsS53.ge HI322.out) | refine below_set ?_ GE327.out) | exact HB.out)) hb); clear HI322; clear BK327; clear HB; have HI322 := n0_; have BK327 := n1_; have HB := n2_; clear n0_ n1_ n2_; (try clear hb); (try clear hb2); (try clear hk); (try clear hi)) | ((with_reducible refine gate_dst (N := 7) rfl ?_); refine box_event ?hg (N := 7) ?hd (cs := #[.bool false, .int .i64 0, .int .i64 0]) (t := 26) ?hr ?_; (case hd => rfl); (case hg => rfl); (case hr => first | (go_simp; done) | (go_simp; rfl)); intro gb334 hg w15 hbox hb; have n0_ := Aside0.mk (IsS53.below (by repeat (first | (with_reducible first | exact HI322.out | apply IsS53.alloc | apply IsS53.drewN | apply IsS53.drew | apply IsS53.set_1 | refine IsS53.far ?_ NB322_327.out _) | exact HI322.out)) hb); have n1_ := Aside0.mk (blk_below (g := gb327) (o := .cells #[.int .i64 t323, .int .i64 t324, .int .i64 t325] 24 (0, 0)) (by (with_reducible repeat (first | refine blk_drewN ?_ _ | refine blk_drew ?_ | refine blk_alloc ?_ _)); exact BK327.out) hb); have n2_ := Aside0.mk (below_step (by repeat (first | (with_reducible first | exact HB.out | apply below_alloc | apply pw_below_drewN | apply below_drew1 | refine below_set ?_ (IsS53.ge HI322.out) | refine below_set ?_ GE327.out) | exact HB.out)) hb); have n3_ := Aside0.mk (hbox); have n4_ := Aside0.mk ((by rw [hg]; exact (below_size (by repeat (first | (with_reducible first | exact HB.out | apply below_alloc | apply pw_below_drewN | apply below_drew1 | refine below_set ?_ (IsS53.ge HI322.out) | refine below_set ?_ GE327.out) | exact HB.out))) : w.heap.size ≤ gb334)); have n5_ := Aside0.mk ((by rw [hg]; exact (below_size (by repeat (first | (with_reducible first | exact HB.out | apply below_alloc | apply pw_below_drewN | apply below_drew1 | refine below_set ?_ (IsS53.ge HI322.out) | refine below_set ?_ GE327.out) | exact HB.out))) : w.heap.size ≤ gb334)); have n6_ := Aside0.mk ((by rw [hg]; exact Nat.ne_of_lt (blk_lt (g := gb327) (o := .cells #[.int .i64 t323, .int .i64 t324, .int .i64 t325] 24 (0, 0)) (by (with_reducible repeat (first | refine blk_drewN ?_ _ | refine blk_drew ?_ | refine blk_alloc ?_ _)); exact BK327.out)) : gb327 ≠ gb334)); have n7_ := Aside0.mk ((by rw [hg]; exact Nat.ne_of_gt (blk_lt (g := gb327) (o := .cells #[.int .i64 t323, .int .i64 t324, .int .i64 t325] 24 (0, 0)) (by (with_reducible repeat (first | refine blk_drewN ?_ _ | refine blk_drew ?_ | refine blk_alloc ?_ _)); exact BK327.out)) : gb334 ≠ gb327)); have n8_ := Aside0.mk ((by rw [hg]; exact Nat.ne_of_lt (IsS53.lt (show IsS53 w _ g322 t320 t326 from by repeat (first | (with_reducible first | exact HI322.out | apply IsS53.alloc | apply IsS53.drewN | apply IsS53.drew | apply IsS53.set_1 | refine IsS53.far ?_ NB322_327.out _) | exact HI322.out))) : g322 ≠ gb334)); have n9_ := Aside0.mk ((by rw [hg]; exact Nat.ne_of_gt (IsS53.lt (show IsS53 w _ g322 t320 t326 from by repeat (first | (with_reducible first | exact HI322.out | apply IsS53.alloc | apply IsS53.drewN | apply IsS53.drew | apply IsS53.set_1 | refine IsS53.far ?_ NB322_327.out _) | exact HI322.out))) : gb334 ≠ g322)); clear HI322; clear BK327; clear HB; have HI322 := n0_; have BK327 := n1_; have HB := n2_; have BK334 := n3_; have GW334 := n4_; have GE334 := n5_; have NB327_334 := n6_; have NB334_327 := n7_; have NB322_334 := n8_; have NB334_322 := n9_; clear n0_ n1_ n2_ n3_ n4_ n5_ n6_ n7_ n8_ n9_; clear hb hbox hg) | ((with_reducible refine gate_dst (N := 8) rfl ?_); refine box_event ?hg (N := 8) ?hd (cs := #[.bool false, .int .i64 0, .int .i64 0]) (t := 26) ?hr ?_; (case hd => rfl); (case hg => rfl); (case hr => first | (go_simp; done) | (go_simp; rfl)); intro gb335 hg w16 hbox hb; have n0_ := Aside0.mk (IsS53.below (by repeat (first | (with_reducible first | exact HI322.out | apply IsS53.alloc | apply IsS53.drewN | apply IsS53.drew | apply IsS53.set_1 | refine IsS53.far ?_ NB322_327.out _ | refine IsS53.far ?_ NB322_334.out _) | exact HI322.out)) hb); have n1_ := Aside0.mk (blk_below (g := gb327) (o := .cells #[.int .i64 t323, .int .i64 t324, .int .i64 t325] 24 (0, 0)) (by (with_reducible repeat (first | refine blk_drewN ?_ _ | refine blk_drew ?_ | refine blk_alloc ?_ _)); exact BK327.out) hb); have n2_ := Aside0.mk (blk_below (g := gb334) (o := .cells #[.bool false, .int .i64 0, .int .i64 0] 26 (0, 0)) (by (with_reducible repeat (first | refine blk_drewN ?_ _ | refine blk_drew ?_ | refine blk_alloc ?_ _)); exact BK334.out) hb); have n3_ := Aside0.mk (below_step (by repeat (first | (with_reducible first | exact HB.out | apply below_alloc | apply pw_below_drewN | apply below_drew1 | refine below_set ?_ (IsS53.ge HI322.out) | refine below_set ?_ GE327.out | refine below_set ?_ GE334.out) | exact HB.out)) hb); have n4_ := Aside0.mk (hbox); have n5_ := Aside0.mk ((by rw [hg]; exact (below_size (by repeat (first | (with_reducible first | exact HB.out | apply below_alloc | apply pw_below_drewN | apply below_drew1 | refine below_set ?_ (IsS53.ge HI322.out) | refine below_set ?_ GE327.out | refine below_set ?_ GE334.out) | exact HB.out))) : w.heap.size ≤ gb335)); have n6_ := Aside0.mk ((by rw [hg]; exact (below_size (by repeat (first | (with_reducible first | exact HB.out | apply below_alloc | apply pw_below_drewN | apply below_drew1 | refine below_set ?_ (IsS53.ge HI322.out) | refine below_set ?_ GE327.out | refine below_set ?_ GE334.out) | exact HB.out))) : w.heap.size ≤ gb335)); have n7_ := Aside0.mk ((by rw [hg]; exact Nat.ne_of_lt (blk_lt (g := gb327) (o := .cells #[.int .i64 t323, .int .i64 t324, .int .i64 t325] 24 (0, 0)) (by (with_reducible repeat (first | refine blk_drewN ?_ _ | refine blk_drew ?_ | refine blk_alloc ?_ _)); exact BK327.out)) : gb327 ≠ gb335)); have n8_ := Aside0.mk ((by rw [hg]; exact Nat.ne_of_gt (blk_lt (g := gb327) (o := .cells #[.int .i64 t323, .int .i64 t324, .int .i64 t325] 24 (0, 0)) (by (with_reducible repeat (first | refine blk_drewN ?_ _ | refine blk_drew ?_ | refine blk_alloc ?_ _)); exact BK327.out)) : gb335 ≠ gb327)); have n9_ := Aside0.mk ((by rw [hg]; exact Nat.ne_of_lt (blk_lt (g := gb334) (o := .cells #[.bool false, .int .i64 0, .int .i64 0] 26 (0, 0)) (by (with_reducible repeat (first | refine blk_drewN ?_ _ | refine blk_drew ?_ | refine blk_alloc ?_ _)); exact BK334.out)) : gb334 ≠ gb335)); have n10_ := Aside0.mk ((by rw [hg]; exact Nat.ne_of_gt (blk_lt (g := gb334) (o := .cells #[.bool false, .int .i64 0, .int .i64 0] 26 (0, 0)) (by (with_reducible repeat (first | refine blk_drewN ?_ _ | refine blk_drew ?_ | refine blk_alloc ?_ _)); exact BK334.out)) : gb335 ≠ gb334)); have n11_ := Aside0.mk ((by rw [hg]; exact Nat.ne_of_lt (IsS53.lt (show IsS53 w _ g322 t320 t326 from by repeat (first | (with_reducible first | exact HI322.out | apply IsS53.alloc | apply IsS53.drewN | apply IsS53.drew | apply IsS53.set_1 | refine IsS53.far ?_ NB322_327.out _ | refine IsS53.far ?_ NB322_334.out _) | exact HI322.out))) : g322 ≠ gb335)); have n12_ := Aside0.mk ((by rw [hg]; exact Nat.ne_of_gt (IsS53.lt (show IsS53 w _ g322 t320 t326 from by repeat (first | (with_reducible first | exact HI322.out | apply IsS53.alloc | apply IsS53.drewN | apply IsS53.drew | apply IsS53.set_1 | refine IsS53.far ?_ NB322_327.out _ | refine IsS53.far ?_ NB322_334.out _) | exact HI322.out))) : gb335 ≠ g322)); clear HI322; clear BK327; clear BK334; clear HB; have HI322 := n0_; have BK327 := n1_; have BK334 := n2_; have HB := n3_; have BK335 := n4_; have GW335 := n5_; have GE335 := n6_; have NB327_335 := n7_; have NB335_327 := n8_; have NB334_335 := n9_; have NB335_334 := n10_; have NB322_335 := n11_; have NB335_322 := n12_; clear n0_ n1_ n2_ n3_ n4_ n5_ n6_ n7_ n8_ n9_ n10_ n11_ n12_; clear hb hbox hg; have hnb17 := NB334_327.out; have hnc17 := NB327_334.out; have hnb18 := NB334_335.out; have hnc18 := NB335_334.out; have hnb19 := NB334_322.out; have hnc19 := NB322_334.out; have hcz20_0 : w16.cell? ⟨gb334, 0, none⟩ = some (.bool false) := (blk_cell BK334.out 0).trans rfl; have hcz20_1 : w16.cell? ⟨gb334, 1, none⟩ = some (.int .i64 0) := (blk_cell BK334.out 1).trans rfl; have hcz20_2 : w16.cell? ⟨gb334, 2, none⟩ = some (.int .i64 0) := (blk_cell BK334.out 2).trans rfl; have hfz20_0 := blk_frozen BK334.out 0; have hfz20_1 := blk_frozen BK334.out 1; have hfz20_2 := blk_frozen BK334.out 2; have hnb21 := NB335_327.out; have hnc21 := NB327_335.out; have hnb22 := NB335_322.out; have hnc22 := NB322_335.out; have hcz23_0 : w16.cell? ⟨gb335, 0, none⟩ = some (.bool false) := (blk_cell BK335.out 0).trans rfl; have hcz23_1 : w16.cell? ⟨gb335, 1, none⟩ = some (.int .i64 0) := (blk_cell BK335.out 1).trans rfl; have hcz23_2 : w16.cell? ⟨gb335, 2, none⟩ = some (.int .i64 0) := (blk_cell BK335.out 2).trans rfl; have hfz23_0 := blk_frozen BK335.out 0; have hfz23_1 := blk_frozen BK335.out 1; have hfz23_2 := blk_frozen BK335.out 2; have hcz24_0 : w16.cell? ⟨gb327, 0, none⟩ = some (.int .i64 t323) := (blk_cell BK327.out 0).trans rfl; have hcz24_1 : w16.cell? ⟨gb327, 1, none⟩ = some (.int .i64 t324) := (blk_cell BK327.out 1).trans rfl; have hcz24_2 : w16.cell? ⟨gb327, 2, none⟩ = some (.int .i64 t325) := (blk_cell BK327.out 2).trans rfl; have hfz24_0 := blk_frozen BK327.out 0; have hfz24_1 := blk_frozen BK327.out 1; have hfz24_2 := blk_frozen BK327.out 2) | ((with_reducible refine gate_callee (f := 23) rfl ?_); refine goesL_ (some 25) rfl rfl Try.func23 (by kernel_rfl) rfl #[.pointer (some ⟨g322, 0, none⟩), .agg #[.int .i64 t323, .int .i64 t324, .int .i64 t325]] rfl (by (try simp only [List.map_toArray, List.map_cons, List.map_nil]); first | done | rfl | (simp only [List.length_drop, List.length_take]; rfl)) ?_; (with_reducible refine (minecontrollaw17_story.calls k g322 t320 t326 t323 t324 t325 t336 t339 w _ ?side1 ?side2 A7.out).mono ?_); (case side1 => repeat (first | (with_reducible first | exact HI322.out | apply IsS53.alloc | apply IsS53.drewN | apply IsS53.drew | apply IsS53.set_1 | refine IsS53.far ?_ NB322_327.out _ | refine IsS53.far ?_ NB322_334.out _ | refine IsS53.far ?_ NB322_335.out _) | exact HI322.out)); (case side2 => repeat (first | (with_reducible first | exact HB.out | apply below_alloc | apply pw_below_drewN | apply below_drew1 | refine below_set ?_ (IsS53.ge HI322.out) | refine below_set ?_ GE327.out | refine below_set ?_ GE334.out | refine below_set ?_ GE335.out) | exact HB.out)); rintro e w25 ⟨v337, rfl, ho0, hi, hb, hk⟩; refine ⟨_, rfl, ?_⟩; have n0_ := Aside0.mk (KeepBut.blk hk (g' := gb327) (o := .cells #[.int .i64 t323, .int .i64 t324, .int .i64 t325] 24 (0, 0)) (by (with_reducible repeat (first | refine blk_drewN ?_ _ | refine blk_drew ?_ | refine blk_alloc ?_ _)); refine blk_far ?_ NB327_335.out _; (with_reducible repeat (first | refine blk_drewN ?_ _ | refine blk_drew ?_ | refine blk_alloc ?_ _)); refine blk_far ?_ NB327_335.out _; (with_reducible repeat (first | refine blk_drewN ?_ _ | refine blk_drew ?_ | refine blk_alloc ?_ _)); refine blk_far ?_ NB327_335.out _; (with_reducible repeat (first | refine blk_drewN ?_ _ | refine blk_drew ?_ | refine blk_alloc ?_ _)); refine blk_far ?_ NB327_334.out _; (with_reducible repeat (first | refine blk_drewN ?_ _ | refine blk_drew ?_ | refine blk_alloc ?_ _)); refine blk_far ?_ NB327_334.out _; (with_reducible repeat (first | refine blk_drewN ?_ _ | refine blk_drew ?_ | refine blk_alloc ?_ _)); refine blk_far ?_ NB327_334.out _; (with_reducible repeat (first | refine blk_drewN ?_ _ | refine blk_drew ?_ | refine blk_alloc ?_ _)); exact BK327.out) NB327_322.out (by simp)); have n1_ := Aside0.mk (KeepBut.blk hk (g' := gb334) (o := .cells #[.bool t328, .int .i64 t329, .int .i64 t330] 26 (0, 0)) (by (with_reducible repeat (first | refine blk_drewN ?_ _ | refine blk_drew ?_ | refine blk_alloc ?_ _)); refine blk_far ?_ NB334_335.out _; (with_reducible repeat (first | refine blk_drewN ?_ _ | refine blk_drew ?_ | refine blk_alloc ?_ _)); refine blk_far ?_ NB334_335.out _; (with_reducible repeat (first | refine blk_drewN ?_ _ | refine blk_drew ?_ | refine blk_alloc ?_ _)); refine blk_far ?_ NB334_335.out _; (with_reducible repeat (first | refine blk_drewN ?_ _ | refine blk_drew ?_ | refine blk_alloc ?_ _)); refine blk_put (cs := #[.bool t328, .int .i64 t329, .int .i64 0]) ?_ 2 _ rfl; (with_reducible repeat (first | refine blk_drewN ?_ _ | refine blk_drew ?_ | refine blk_alloc ?_ _)); refine blk_put (cs := #[.bool t328, .int .i64 0, .int .i64 0]) ?_ 1 _ rfl; (with_reducible repeat (first | refine blk_drewN ?_ _ | refine blk_drew ?_ | refine blk_alloc ?_ _)); refine blk_put (cs := #[.bool false, .int .i64 0, .int .i64 0]) ?_ 0 _ rfl; (with_reducible repeat (first | refine blk_drewN ?_ _ | refine blk_drew ?_ | refine blk_alloc ?_ _)); exact BK334.out) NB334_322.out (by simp)); have n2_ := Aside0.mk (KeepBut.blk hk (g' := gb335) (o := .cells #[.bool t331, .int .i64 t332, .int .i64 t333] 26 (0, 0)) (by (with_reducible repeat (first | refine blk_drewN ?_ _ | refine blk_drew ?_ | refine blk_alloc ?_ _)); refine blk_put (cs := #[.bool t331, .int .i64 t332, .int .i64 0]) ?_ 2 _ rfl; (with_reducible repeat (first | refine blk_drewN ?_ _ | refine blk_drew ?_ | refine blk_alloc ?_ _)); refine blk_put (cs := #[.bool t331, .int .i64 0, .int .i64 0]) ?_ 1 _ rfl; (with_reducible repeat (first | refine blk_drewN ?_ _ | refine blk_drew ?_ | refine blk_alloc ?_ _)); refine blk_put (cs := #[.bool false, .int .i64 0, .int .i64 0]) ?_ 0 _ rfl; (with_reducible repeat (first | refine blk_drewN ?_ _ | refine blk_drew ?_ | refine blk_alloc ?_ _)); refine blk_far ?_ NB335_334.out _; (with_reducible repeat (first | refine blk_drewN ?_ _ | refine blk_drew ?_ | refine blk_alloc ?_ _)); refine blk_far ?_ NB335_334.out _; (with_reducible repeat (first | refine blk_drewN ?_ _ | refine blk_drew ?_ | refine blk_alloc ?_ _)); refine blk_far ?_ NB335_334.out _; (with_reducible repeat (first | refine blk_drewN ?_ _ | refine blk_drew ?_ | refine blk_alloc ?_ _)); exact BK335.out) NB335_322.out (by simp)); have n3_ := Aside0.mk (Kd.R_lower ho0 (below_size (by repeat (first | (with_reducible first | exact HB.out | apply below_alloc | apply pw_below_drewN | apply below_drew1 | refine below_set ?_ (IsS53.ge HI322.out) | refine below_set ?_ GE327.out | refine below_set ?_ GE334.out | refine below_set ?_ GE335.out) | exact HB.out)))); have n4_ := Aside0.mk (hb); have n5_ := Aside0.mk (hi); clear BK327; clear BK334; clear BK335; clear HB; clear HI322; have BK327 := n0_; have BK334 := n1_; have BK335 := n2_; have HO338 := n3_; have HB := n4_; have HI322 := n5_; clear n0_ n1_ n2_ n3_ n4_ n5_; (try clear hb); (try clear hb2); (try clear hk); (try clear hi); (try clear ho0); obtain ⟨Ao26, co26, eo26⟩ := Kd.R_slice HO338.out; subst eo26))
  go_loopg [9, 27] k (fun kq v9 v27 w' => ∃ (x9_1 : Int) (x27_1 : Int) (x335000_1 : Bool) (x335001_1 : Int) (x335002_1 : Int) (x336000_1 : Bool) (x336001_1 : Int) (x336002_1 : Int), v9 = .int .i64 x9_1 ∧ v27 = .int .i64 x27_1 ∧ Aside0 (minecontrollaw17_LevelWider.l0 kq l1 x9_1 t336 (t336.length : Int) x27_1 t323 t324 t325 x335000_1 x335001_1 x335002_1 x336000_1 x336001_1 x336002_1 = some r) ∧ Aside0 (kq ≤ k) ∧ Aside0 (Kd.R k48 48 w' w.heap.size (fun _ => True) (.slice Ao26 t336.length co26) t336) ∧ Aside0 (w'.heap[gb327]? = some (.cells #[.int .i64 t323, .int .i64 t324, .int .i64 t325] 24 (0, 0))) ∧ Aside0 (w'.heap[gb334]? = some (.cells #[.bool x335000_1, .int .i64 x335001_1, .int .i64 x335002_1] 26 (0, 0))) ∧ Aside0 (w'.heap[gb335]? = some (.cells #[.bool x336000_1, .int .i64 x336001_1, .int .i64 x336002_1] 26 (0, 0))) ∧ Aside0 (Below w.heap.size w w'))
  case atStart => exact ⟨(0), (0), (t328), (t329), (t330), (t331), (t332), (t333), (by first | rfl | (simp; done) | (simp [*]; done)), (by first | rfl | (simp; done) | (simp [*]; done)), H', ⟨Nat.le_refl _⟩, ⟨by (with_reducible repeat (first | apply Kd.R_alloc | apply Kd.R_drewN | apply Kd.R_drew)); exact HO338.out⟩, ⟨by (with_reducible repeat (first | refine blk_drewN ?_ _ | refine blk_drew ?_ | refine blk_alloc ?_ _)); exact BK327.out⟩, ⟨by (with_reducible repeat (first | refine blk_drewN ?_ _ | refine blk_drew ?_ | refine blk_alloc ?_ _)); exact BK334.out⟩, ⟨by (with_reducible repeat (first | refine blk_drewN ?_ _ | refine blk_drew ?_ | refine blk_alloc ?_ _)); exact BK335.out⟩, ⟨by repeat (first | (with_reducible first | exact HB.out | apply below_alloc | apply pw_below_drewN | apply below_drew1 | refine below_set ?_ (IsS53.ge HI322.out) | refine below_set ?_ GE327.out | refine below_set ?_ GE334.out | refine below_set ?_ GE335.out) | exact HB.out)⟩⟩
  case round =>
    clear H'
    try clear c1
    try clear c2
    try clear p2
    try clear c7
    try clear c9
    try clear c10
    try clear c11
    try clear c14
    try clear c17
    try clear c18
    try clear c19
    try clear c21
    try clear c22
    try clear c23
    try clear hcz12_0
    try clear hcz12_1
    try clear hcz12_2
    try clear hcz20_0
    try clear hcz20_1
    try clear hcz20_2
    try clear hcz23_0
    try clear hcz23_1
    try clear hcz23_2
    try clear hcz24_0
    try clear hcz24_1
    try clear hcz24_2
    try clear hfz12_0
    try clear hfz12_1
    try clear hfz12_2
    try clear hfz20_0
    try clear hfz20_1
    try clear hfz20_2
    try clear hfz23_0
    try clear hfz23_1
    try clear hfz23_2
    try clear hfz24_0
    try clear hfz24_1
    try clear hfz24_2
    obtain ⟨x9_1, x27_1, x335000_1, x335001_1, x335002_1, x336000_1, x336001_1, x336002_1, rfl, rfl, HA, HK1, HO_25, BK327, BK334, BK335, HB⟩ := hrel
    cases gk with
    | zero => exact absurd HA.out (by simp [minecontrollaw17_LevelWider.l0])
    | succ k1 =>
      have H := HA.out
      clear HA
      simp only [minecontrollaw17_LevelWider.l0] at H
      by_cases c27 : x27_1 < (t336.length : Int)
      · rw [if_pos c27] at H
        have c27b0 : decide (x27_1 < (t336.length : Int)) = true := decide_eq_true c27
        clear c27
        by_cases c28 : 0 ≤ x27_1
        · rw [if_pos c28] at H
          have c28b0 : decide (0 ≤ x27_1) = true := decide_eq_true c28
          clear c28
          by_cases c29 : x27_1 < (t336.length : Int)
          · rw [if_pos c29] at H
            have c29b0 : decide (x27_1 < (t336.length : Int)) = true := decide_eq_true c29
            clear c29
            have HC30 := Aside0.mk H
            clear H
            have p341 : 0 ≤ (x27_1 : Int) := of_decide_eq_true (by first | (with_reducible assumption) | assumption)
            have q341 : x27_1 < (t336.length : Int) := of_decide_eq_true (by first | (with_reducible assumption) | assumption)
            obtain ⟨ad341, e341, hx341_0, hx341_1, hx341_2⟩ := at_T48 (Kd.R_reads' HO_25.out).2.2 x27_1 p341 q341
            cases e341
            replace p341 := eq_true p341
            replace q341 := eq_true q341
            go_upto_if 39 with (first | ((with_reducible refine gate_dst (N := 11) rfl ?_); refine box_event ?hg (N := 11) ?hd (cs := #[.int .i64 0, .int .i64 0, .int .i64 0]) (t := 48) ?hr ?_; (case hd => rfl); (case hg => rfl); (case hr => first | (go_simp; done) | (go_simp; rfl)); intro gb342 hg w31 hbox hb; have n0_ := Aside0.mk (Kd.R_below (Kd.R_elderB (by (with_reducible repeat (first | apply Kd.R_alloc | apply Kd.R_drewN | apply Kd.R_drew)); exact HO_25.out) gb342 (Nat.le_of_eq hg.symm)) hb); have n1_ := Aside0.mk (blk_below (g := gb327) (o := .cells #[.int .i64 t323, .int .i64 t324, .int .i64 t325] 24 (0, 0)) (by (with_reducible repeat (first | refine blk_drewN ?_ _ | refine blk_drew ?_ | refine blk_alloc ?_ _)); exact BK327.out) hb); have n2_ := Aside0.mk (blk_below (g := gb334) (o := .cells #[.bool x335000_1, .int .i64 x335001_1, .int .i64 x335002_1] 26 (0, 0)) (by (with_reducible repeat (first | refine blk_drewN ?_ _ | refine blk_drew ?_ | refine blk_alloc ?_ _)); exact BK334.out) hb); have n3_ := Aside0.mk (blk_below (g := gb335) (o := .cells #[.bool x336000_1, .int .i64 x336001_1, .int .i64 x336002_1] 26 (0, 0)) (by (with_reducible repeat (first | refine blk_drewN ?_ _ | refine blk_drew ?_ | refine blk_alloc ?_ _)); exact BK335.out) hb); have n4_ := Aside0.mk (below_step (by repeat (first | (with_reducible first | exact HB.out | apply below_alloc | apply pw_below_drewN | apply below_drew1 | refine below_set ?_ GE327.out | refine below_set ?_ GE334.out | refine below_set ?_ GE335.out) | exact HB.out)) hb); have n5_ := Aside0.mk (hbox); have n6_ := Aside0.mk ((by rw [hg]; exact (below_size (by repeat (first | (with_reducible first | exact HB.out | apply below_alloc | apply pw_below_drewN | apply below_drew1 | refine below_set ?_ GE327.out | refine below_set ?_ GE334.out | refine below_set ?_ GE335.out) | exact HB.out))) : w.heap.size ≤ gb342)); have n7_ := Aside0.mk ((by rw [hg]; exact (below_size (by repeat (first | (with_reducible first | exact HB.out | apply below_alloc | apply pw_below_drewN | apply below_drew1 | refine below_set ?_ GE327.out | refine below_set ?_ GE334.out | refine below_set ?_ GE335.out) | exact HB.out))) : w.heap.size ≤ gb342)); have n8_ := Aside0.mk ((by rw [hg]; exact Nat.ne_of_lt (blk_lt (g := gb327) (o := .cells #[.int .i64 t323, .int .i64 t324, .int .i64 t325] 24 (0, 0)) (by (with_reducible repeat (first | refine blk_drewN ?_ _ | refine blk_drew ?_ | refine blk_alloc ?_ _)); exact BK327.out)) : gb327 ≠ gb342)); have n9_ := Aside0.mk ((by rw [hg]; exact Nat.ne_of_gt (blk_lt (g := gb327) (o := .cells #[.int .i64 t323, .int .i64 t324, .int .i64 t325] 24 (0, 0)) (by (with_reducible repeat (first | refine blk_drewN ?_ _ | refine blk_drew ?_ | refine blk_alloc ?_ _)); exact BK327.out)) : gb342 ≠ gb327)); have n10_ := Aside0.mk ((by rw [hg]; exact Nat.ne_of_lt (blk_lt (g := gb334) (o := .cells #[.bool x335000_1, .int .i64 x335001_1, .int .i64 x335002_1] 26 (0, 0)) (by (with_reducible repeat (first | refine blk_drewN ?_ _ | refine blk_drew ?_ | refine blk_alloc ?_ _)); exact BK334.out)) : gb334 ≠ gb342)); have n11_ := Aside0.mk ((by rw [hg]; exact Nat.ne_of_gt (blk_lt (g := gb334) (o := .cells #[.bool x335000_1, .int .i64 x335001_1, .int .i64 x335002_1] 26 (0, 0)) (by (with_reducible repeat (first | refine blk_drewN ?_ _ | refine blk_drew ?_ | refine blk_alloc ?_ _)); exact BK334.out)) : gb342 ≠ gb334)); have n12_ := Aside0.mk ((by rw [hg]; exact Nat.ne_of_lt (blk_lt (g := gb335) (o := .cells #[.bool x336000_1, .int .i64 x336001_1, .int .i64 x336002_1] 26 (0, 0)) (by (with_reducible repeat (first | refine blk_drewN ?_ _ | refine blk_drew ?_ | refine blk_alloc ?_ _)); exact BK335.out)) : gb335 ≠ gb342)); have n13_ := Aside0.mk ((by rw [hg]; exact Nat.ne_of_gt (blk_lt (g := gb335) (o := .cells #[.bool x336000_1, .int .i64 x336001_1, .int .i64 x336002_1] 26 (0, 0)) (by (with_reducible repeat (first | refine blk_drewN ?_ _ | refine blk_drew ?_ | refine blk_alloc ?_ _)); exact BK335.out)) : gb342 ≠ gb335)); clear HO_25; clear BK327; clear BK334; clear BK335; clear HB; have HO_25 := n0_; have BK327 := n1_; have BK334 := n2_; have BK335 := n3_; have HB := n4_; have BK342 := n5_; have GW342 := n6_; have GE342 := n7_; have NB327_342 := n8_; have NB342_327 := n9_; have NB334_342 := n10_; have NB342_334 := n11_; have NB335_342 := n12_; have NB342_335 := n13_; clear n0_ n1_ n2_ n3_ n4_ n5_ n6_ n7_ n8_ n9_ n10_ n11_ n12_ n13_; clear hb hbox hg; have hnb32 := NB342_327.out; have hnc32 := NB327_342.out; have hnb33 := NB342_334.out; have hnc33 := NB334_342.out; have hnb34 := NB342_335.out; have hnc34 := NB335_342.out; have hcz35_0 : w31.cell? ⟨gb342, 0, none⟩ = some (.int .i64 0) := (blk_cell BK342.out 0).trans rfl; have hcz35_1 : w31.cell? ⟨gb342, 1, none⟩ = some (.int .i64 0) := (blk_cell BK342.out 1).trans rfl; have hcz35_2 : w31.cell? ⟨gb342, 2, none⟩ = some (.int .i64 0) := (blk_cell BK342.out 2).trans rfl; have hfz35_0 := blk_frozen BK342.out 0; have hfz35_1 := blk_frozen BK342.out 1; have hfz35_2 := blk_frozen BK342.out 2))
            (try simp only [Act.put, List.setIfInBounds_toArray, List.set_cons_zero, List.set_cons_succ])
            go_cut [12] (fun v12 wc => ∃ (kq : Nat) (x12_29 : Int), v12 = .int .i64 x12_29 ∧ Aside0 (minecontrollaw17_LevelWider.j1 kq l1 (wrap64 (x9_1 + ((rd_T48 t336 x27_1).f0))) x12_29 t336 (t336.length : Int) x27_1 t323 t324 t325 x335000_1 x335001_1 x335002_1 x336000_1 x336001_1 x336002_1 ((rd_T48 t336 x27_1).f0) ((rd_T48 t336 x27_1).f1) ((rd_T48 t336 x27_1).f2) = some r) ∧ Aside0 (kq ≤ k1) ∧ Aside0 (Kd.R k48 48 wc w.heap.size (fun k_ => k_ ≠ gb342) (.slice (some ad341) t336.length co26) t336) ∧ Aside0 (wc.heap[gb327]? = some (.cells #[.int .i64 t323, .int .i64 t324, .int .i64 t325] 24 (0, 0))) ∧ Aside0 (wc.heap[gb334]? = some (.cells #[.bool x335000_1, .int .i64 x335001_1, .int .i64 x335002_1] 26 (0, 0))) ∧ Aside0 (wc.heap[gb335]? = some (.cells #[.bool x336000_1, .int .i64 x336001_1, .int .i64 x336002_1] 26 (0, 0))) ∧ Aside0 (wc.heap[gb342]? = some (.cells #[.int .i64 ((rd_T48 t336 x27_1).f0), .int .i64 ((rd_T48 t336 x27_1).f1), .int .i64 ((rd_T48 t336 x27_1).f2)] 48 (0, 0))) ∧ Aside0 (Below w.heap.size w wc))
            case first =>
              have H := HC30.out
              clear HC30
              by_cases c36 : x27_1 < (l1.length : Int)
              · rw [if_pos c36] at H
                have c36b0 : decide (x27_1 < (l1.length : Int)) = true := decide_eq_true c36
                clear c36
                (first | rw [c36b0] | (simp only [i64_w, i32_w]; rw [c36b0]) | skip)
                have H' := Aside0.mk H
                clear H
                have p343 : 0 ≤ (x27_1 : Int) := of_decide_eq_true (by first | (with_reducible assumption) | assumption)
                have q343 : x27_1 < (l1.length : Int) := of_decide_eq_true (by first | (with_reducible assumption) | assumption)
                obtain ⟨ad343, e343, hx343_0⟩ := Kd.at_int HR1.out x27_1 p343 q343
                cases e343
                have hn343_0 : ad343.block ≠ gb342 := Nat.ne_of_lt (Nat.lt_of_lt_of_le (by have := World.block_lt_of_cell? _ _ hx343_0; first | rwa [add_block] at this | exact this) GW342.out)
                have hn343_1 : ad343.block ≠ gb342 := Nat.ne_of_lt (Nat.lt_of_lt_of_le (by have := World.block_lt_of_cell? _ _ hx343_0; first | rwa [add_block] at this | exact this) GW342.out)
                have hn343_2 : ad343.block ≠ gb342 := Nat.ne_of_lt (Nat.lt_of_lt_of_le (by have := World.block_lt_of_cell? _ _ hx343_0; first | rwa [add_block] at this | exact this) GW342.out)
                replace hx343_0 := (HB.out.cell (World.block_lt_of_cell? w _ hx343_0)).trans hx343_0
                replace hx343_0 := (cell_far (p := ⟨gb342, 0, none⟩) (by first | (rw [add_block]; exact hn343_0) | (show (Addr.add _ _).block ≠ _; rw [add_block]; exact hn343_0) | exact hn343_0) (.int .i64 ((rd_T48 t336 x27_1).f0))).trans hx343_0
                replace hx343_0 := (cell_far (p := ⟨gb342, 1, none⟩) (by first | (rw [add_block]; exact hn343_1) | (show (Addr.add _ _).block ≠ _; rw [add_block]; exact hn343_1) | exact hn343_1) (.int .i64 ((rd_T48 t336 x27_1).f1))).trans hx343_0
                replace hx343_0 := (cell_far (p := ⟨gb342, 2, none⟩) (by first | (rw [add_block]; exact hn343_2) | (show (Addr.add _ _).block ≠ _; rw [add_block]; exact hn343_2) | exact hn343_2) (.int .i64 ((rd_T48 t336 x27_1).f2))).trans hx343_0
                clear hn343_0
                clear hn343_1
                clear hn343_2
                replace p343 := eq_true p343
                replace q343 := eq_true q343
                go_wp2
                go_meet
                case rel => exact ⟨_, (wrap64 (rd l1 x27_1)), (by first | rfl | (simp; done) | (simp [*]; done)), H', ⟨by have := HK1.out; first | omega | exact Nat.le_refl _⟩, ⟨by (with_reducible repeat (first | apply Kd.R_alloc | apply Kd.R_drewN | apply Kd.R_drew)); exact Kd.R_mono (Kd.R_far (p := ⟨gb342, 2, none⟩) (Kd.R_far (p := ⟨gb342, 1, none⟩) (Kd.R_far (p := ⟨gb342, 0, none⟩) (Kd.R_mono HO_25.out (fun k_ hk => (⟨hk, hk.2⟩ : _ ∧ k_ ≠ gb342))) (fun _ hk => hk.2) (.int .i64 ((rd_T48 t336 x27_1).f0))) (fun _ hk => hk.2) (.int .i64 ((rd_T48 t336 x27_1).f1))) (fun _ hk => hk.2) (.int .i64 ((rd_T48 t336 x27_1).f2))) (fun _ hk => hk.1.2)⟩, ⟨by (with_reducible repeat (first | refine blk_drewN ?_ _ | refine blk_drew ?_ | refine blk_alloc ?_ _)); refine blk_far ?_ NB327_342.out _; (with_reducible repeat (first | refine blk_drewN ?_ _ | refine blk_drew ?_ | refine blk_alloc ?_ _)); refine blk_far ?_ NB327_342.out _; (with_reducible repeat (first | refine blk_drewN ?_ _ | refine blk_drew ?_ | refine blk_alloc ?_ _)); refine blk_far ?_ NB327_342.out _; (with_reducible repeat (first | refine blk_drewN ?_ _ | refine blk_drew ?_ | refine blk_alloc ?_ _)); exact BK327.out⟩, ⟨by (with_reducible repeat (first | refine blk_drewN ?_ _ | refine blk_drew ?_ | refine blk_alloc ?_ _)); refine blk_far ?_ NB334_342.out _; (with_reducible repeat (first | refine blk_drewN ?_ _ | refine blk_drew ?_ | refine blk_alloc ?_ _)); refine blk_far ?_ NB334_342.out _; (with_reducible repeat (first | refine blk_drewN ?_ _ | refine blk_drew ?_ | refine blk_alloc ?_ _)); refine blk_far ?_ NB334_342.out _; (with_reducible repeat (first | refine blk_drewN ?_ _ | refine blk_drew ?_ | refine blk_alloc ?_ _)); exact BK334.out⟩, ⟨by (with_reducible repeat (first | refine blk_drewN ?_ _ | refine blk_drew ?_ | refine blk_alloc ?_ _)); refine blk_far ?_ NB335_342.out _; (with_reducible repeat (first | refine blk_drewN ?_ _ | refine blk_drew ?_ | refine blk_alloc ?_ _)); refine blk_far ?_ NB335_342.out _; (with_reducible repeat (first | refine blk_drewN ?_ _ | refine blk_drew ?_ | refine blk_alloc ?_ _)); refine blk_far ?_ NB335_342.out _; (with_reducible repeat (first | refine blk_drewN ?_ _ | refine blk_drew ?_ | refine blk_alloc ?_ _)); exact BK335.out⟩, ⟨by (with_reducible repeat (first | refine blk_drewN ?_ _ | refine blk_drew ?_ | refine blk_alloc ?_ _)); refine blk_put (cs := #[.int .i64 ((rd_T48 t336 x27_1).f0), .int .i64 ((rd_T48 t336 x27_1).f1), .int .i64 0]) ?_ 2 _ rfl; (with_reducible repeat (first | refine blk_drewN ?_ _ | refine blk_drew ?_ | refine blk_alloc ?_ _)); refine blk_put (cs := #[.int .i64 ((rd_T48 t336 x27_1).f0), .int .i64 0, .int .i64 0]) ?_ 1 _ rfl; (with_reducible repeat (first | refine blk_drewN ?_ _ | refine blk_drew ?_ | refine blk_alloc ?_ _)); refine blk_put (cs := #[.int .i64 0, .int .i64 0, .int .i64 0]) ?_ 0 _ rfl; (with_reducible repeat (first | refine blk_drewN ?_ _ | refine blk_drew ?_ | refine blk_alloc ?_ _)); exact BK342.out⟩, ⟨by repeat (first | (with_reducible first | exact HB.out | apply below_alloc | apply pw_below_drewN | apply below_drew1 | refine below_set ?_ GE327.out | refine below_set ?_ GE334.out | refine below_set ?_ GE335.out | refine below_set ?_ GE342.out) | exact HB.out)⟩⟩
              · rw [if_neg c36] at H
                have c36b0 : decide (x27_1 < (l1.length : Int)) = false := decide_eq_false c36
                clear c36
                (first | rw [c36b0] | (simp only [i64_w, i32_w]; rw [c36b0]) | skip)
                have H' := Aside0.mk H
                clear H
                go_wp2
                go_meet
                case rel => exact ⟨_, (0), (by first | rfl | (simp; done) | (simp [*]; done)), H', ⟨by have := HK1.out; first | omega | exact Nat.le_refl _⟩, ⟨by (with_reducible repeat (first | apply Kd.R_alloc | apply Kd.R_drewN | apply Kd.R_drew)); exact Kd.R_mono (Kd.R_far (p := ⟨gb342, 2, none⟩) (Kd.R_far (p := ⟨gb342, 1, none⟩) (Kd.R_far (p := ⟨gb342, 0, none⟩) (Kd.R_mono HO_25.out (fun k_ hk => (⟨hk, hk.2⟩ : _ ∧ k_ ≠ gb342))) (fun _ hk => hk.2) (.int .i64 ((rd_T48 t336 x27_1).f0))) (fun _ hk => hk.2) (.int .i64 ((rd_T48 t336 x27_1).f1))) (fun _ hk => hk.2) (.int .i64 ((rd_T48 t336 x27_1).f2))) (fun _ hk => hk.1.2)⟩, ⟨by (with_reducible repeat (first | refine blk_drewN ?_ _ | refine blk_drew ?_ | refine blk_alloc ?_ _)); refine blk_far ?_ NB327_342.out _; (with_reducible repeat (first | refine blk_drewN ?_ _ | refine blk_drew ?_ | refine blk_alloc ?_ _)); refine blk_far ?_ NB327_342.out _; (with_reducible repeat (first | refine blk_drewN ?_ _ | refine blk_drew ?_ | refine blk_alloc ?_ _)); refine blk_far ?_ NB327_342.out _; (with_reducible repeat (first | refine blk_drewN ?_ _ | refine blk_drew ?_ | refine blk_alloc ?_ _)); exact BK327.out⟩, ⟨by (with_reducible repeat (first | refine blk_drewN ?_ _ | refine blk_drew ?_ | refine blk_alloc ?_ _)); refine blk_far ?_ NB334_342.out _; (with_reducible repeat (first | refine blk_drewN ?_ _ | refine blk_drew ?_ | refine blk_alloc ?_ _)); refine blk_far ?_ NB334_342.out _; (with_reducible repeat (first | refine blk_drewN ?_ _ | refine blk_drew ?_ | refine blk_alloc ?_ _)); refine blk_far ?_ NB334_342.out _; (with_reducible repeat (first | refine blk_drewN ?_ _ | refine blk_drew ?_ | refine blk_alloc ?_ _)); exact BK334.out⟩, ⟨by (with_reducible repeat (first | refine blk_drewN ?_ _ | refine blk_drew ?_ | refine blk_alloc ?_ _)); refine blk_far ?_ NB335_342.out _; (with_reducible repeat (first | refine blk_drewN ?_ _ | refine blk_drew ?_ | refine blk_alloc ?_ _)); refine blk_far ?_ NB335_342.out _; (with_reducible repeat (first | refine blk_drewN ?_ _ | refine blk_drew ?_ | refine blk_alloc ?_ _)); refine blk_far ?_ NB335_342.out _; (with_reducible repeat (first | refine blk_drewN ?_ _ | refine blk_drew ?_ | refine blk_alloc ?_ _)); exact BK335.out⟩, ⟨by (with_reducible repeat (first | refine blk_drewN ?_ _ | refine blk_drew ?_ | refine blk_alloc ?_ _)); refine blk_put (cs := #[.int .i64 ((rd_T48 t336 x27_1).f0), .int .i64 ((rd_T48 t336 x27_1).f1), .int .i64 0]) ?_ 2 _ rfl; (with_reducible repeat (first | refine blk_drewN ?_ _ | refine blk_drew ?_ | refine blk_alloc ?_ _)); refine blk_put (cs := #[.int .i64 ((rd_T48 t336 x27_1).f0), .int .i64 0, .int .i64 0]) ?_ 1 _ rfl; (with_reducible repeat (first | refine blk_drewN ?_ _ | refine blk_drew ?_ | refine blk_alloc ?_ _)); refine blk_put (cs := #[.int .i64 0, .int .i64 0, .int .i64 0]) ?_ 0 _ rfl; (with_reducible repeat (first | refine blk_drewN ?_ _ | refine blk_drew ?_ | refine blk_alloc ?_ _)); exact BK342.out⟩, ⟨by repeat (first | (with_reducible first | exact HB.out | apply below_alloc | apply pw_below_drewN | apply below_drew1 | refine below_set ?_ GE327.out | refine below_set ?_ GE334.out | refine below_set ?_ GE335.out | refine below_set ?_ GE342.out) | exact HB.out)⟩⟩
            case rest =>
              clear HC30
              try clear c1
              try clear c2
              try clear p2
              try clear c3
              try clear p3
              try clear q3
              try clear hx3
              try clear p6
              try clear c7
              try clear c9
              try clear c10
              try clear c11
              try clear c14
              try clear c17
              try clear c18
              try clear c19
              try clear c21
              try clear c22
              try clear c23
              try clear c27
              try clear c27b0
              try clear c28
              try clear c28b0
              try clear c29
              try clear c29b0
              try clear c32
              try clear c33
              try clear c34
              try clear p34
              try clear q34
              try clear hx34
              try clear c36
              try clear c36b0
              try clear hcz12_0
              try clear hcz12_1
              try clear hcz12_2
              try clear hcz20_0
              try clear hcz20_1
              try clear hcz20_2
              try clear hcz23_0
              try clear hcz23_1
              try clear hcz23_2
              try clear hcz24_0
              try clear hcz24_1
              try clear hcz24_2
              try clear hcz35_0
              try clear hcz35_1
              try clear hcz35_2
              try clear hfz12_0
              try clear hfz12_1
              try clear hfz12_2
              try clear hfz20_0
              try clear hfz20_1
              try clear hfz20_2
              try clear hfz23_0
              try clear hfz23_1
              try clear hfz23_2
              try clear hfz24_0
              try clear hfz24_1
              try clear hfz24_2
              try clear hfz35_0
              try clear hfz35_1
              try clear hfz35_2
              try clear hx341_0
              try clear hx341_1
              try clear hx341_2
              try clear hx343_0
              try clear p2
              try clear p341
              try clear p343
              try clear q341
              try clear q343
              obtain ⟨kq, x12_29, rfl, HA, HJ29, HO_25, BK327, BK334, BK335, BK342, HB⟩ := hcut
              cases kq with
              | zero => exact absurd HA.out (by simp [minecontrollaw17_LevelWider.j1])
              | succ kj29 =>
                have H := HA.out
                clear HA
                simp only [minecontrollaw17_LevelWider.j1] at H
                replace H := Option.bind_eq_some_iff.mp H
                obtain ⟨⟨t344, t345, t346, t347⟩, A370, H⟩ := H
                replace H : ((level_Step.f kj29 t323 t324 t325 x336000_1 x336001_1 x336002_1 (wrap64 (((rd_T48 t336 x27_1).f1) - x12_29)) (wrap64 (((rd_T48 t336 x27_1).f2) + x12_29)) (wrap64 (x9_1 + ((rd_T48 t336 x27_1).f0)))).bind fun bt349 => (if t347 = 0 then (if bt349.2.2.2 = 0 then (if t344 = true then (if bt349.1 = true then (minecontrollaw17_LevelWider.l0 kj29 l1 (wrap64 (x9_1 + ((rd_T48 t336 x27_1).f0))) t336 (t336.length : Int) (wrap64 (x27_1 + 1)) t323 t324 t325 t344 t345 t346 bt349.1 bt349.2.1 bt349.2.2.1) else (some false)) else (minecontrollaw17_LevelWider.l0 kj29 l1 (wrap64 (x9_1 + ((rd_T48 t336 x27_1).f0))) t336 (t336.length : Int) (wrap64 (x27_1 + 1)) t323 t324 t325 t344 t345 t346 bt349.1 bt349.2.1 bt349.2.2.1)) else (some false)) else (some false))) = some r := H
                have A37 := Aside0.mk A370
                clear A370
                replace H := Option.bind_eq_some_iff.mp H
                obtain ⟨⟨t349, t350, t351, t352⟩, A380, H⟩ := H
                replace H : (if t347 = 0 then (if t352 = 0 then (if t344 = true then (if t349 = true then (minecontrollaw17_LevelWider.l0 kj29 l1 (wrap64 (x9_1 + ((rd_T48 t336 x27_1).f0))) t336 (t336.length : Int) (wrap64 (x27_1 + 1)) t323 t324 t325 t344 t345 t346 t349 t350 t351) else (some false)) else (minecontrollaw17_LevelWider.l0 kj29 l1 (wrap64 (x9_1 + ((rd_T48 t336 x27_1).f0))) t336 (t336.length : Int) (wrap64 (x27_1 + 1)) t323 t324 t325 t344 t345 t346 t349 t350 t351)) else (some false)) else (some false)) = some r := H
                have A38 := Aside0.mk A380
                clear A380
                by_cases c39 : t347 = 0
                · rw [if_pos c39] at H
                  have c39b0 : (t347 == 0) = true := beq_iff_eq.mpr c39
                  have c39b1 : (t347 != 0) = false := bne_eq_false_iff_eq.mpr c39
                  clear c39
                  by_cases c40 : t352 = 0
                  · rw [if_pos c40] at H
                    have c40b0 : (t352 == 0) = true := beq_iff_eq.mpr c40
                    have c40b1 : (t352 != 0) = false := bne_eq_false_iff_eq.mpr c40
                    clear c40
                    by_cases c41 : t344 = true
                    · subst c41
                      have H1 : (if t349 = true then (minecontrollaw17_LevelWider.l0 kj29 l1 (wrap64 (x9_1 + ((rd_T48 t336 x27_1).f0))) t336 (t336.length : Int) (wrap64 (x27_1 + 1)) t323 t324 t325 true t345 t346 t349 t350 t351) else (some false)) = some r := by rw [if_pos rfl] at H; exact H
                      clear H
                      have H := H1
                      clear H1
                      by_cases c42 : t349 = true
                      · subst c42
                        have H1 : (minecontrollaw17_LevelWider.l0 kj29 l1 (wrap64 (x9_1 + ((rd_T48 t336 x27_1).f0))) t336 (t336.length : Int) (wrap64 (x27_1 + 1)) t323 t324 t325 true t345 t346 true t350 t351) = some r := by rw [if_pos rfl] at H; exact H
                        clear H
                        have H := H1
                        clear H1
                        have H' := Aside0.mk H
                        clear H
                        have hnb43 := NB327_334.out
                        have hnc43 := NB334_327.out
                        have hnb44 := NB327_335.out
                        have hnc44 := NB335_327.out
                        have hnb45 := NB327_342.out
                        have hnc45 := NB342_327.out
                        have hcz46_0 : wc.cell? ⟨gb327, 0, none⟩ = some (.int .i64 t323) := (blk_cell BK327.out 0).trans rfl
                        have hcz46_1 : wc.cell? ⟨gb327, 1, none⟩ = some (.int .i64 t324) := (blk_cell BK327.out 1).trans rfl
                        have hcz46_2 : wc.cell? ⟨gb327, 2, none⟩ = some (.int .i64 t325) := (blk_cell BK327.out 2).trans rfl
                        have hfz46_0 := blk_frozen BK327.out 0
                        have hfz46_1 := blk_frozen BK327.out 1
                        have hfz46_2 := blk_frozen BK327.out 2
                        have hnb47 := NB334_335.out
                        have hnc47 := NB335_334.out
                        have hnb48 := NB334_342.out
                        have hnc48 := NB342_334.out
                        have hcz49_0 : wc.cell? ⟨gb334, 0, none⟩ = some (.bool x335000_1) := (blk_cell BK334.out 0).trans rfl
                        have hcz49_1 : wc.cell? ⟨gb334, 1, none⟩ = some (.int .i64 x335001_1) := (blk_cell BK334.out 1).trans rfl
                        have hcz49_2 : wc.cell? ⟨gb334, 2, none⟩ = some (.int .i64 x335002_1) := (blk_cell BK334.out 2).trans rfl
                        have hfz49_0 := blk_frozen BK334.out 0
                        have hfz49_1 := blk_frozen BK334.out 1
                        have hfz49_2 := blk_frozen BK334.out 2
                        have hnb50 := NB342_335.out
                        have hnc50 := NB335_342.out
                        have hcz51_0 : wc.cell? ⟨gb342, 0, none⟩ = some (.int .i64 ((rd_T48 t336 x27_1).f0)) := (blk_cell BK342.out 0).trans rfl
                        have hcz51_1 : wc.cell? ⟨gb342, 1, none⟩ = some (.int .i64 ((rd_T48 t336 x27_1).f1)) := (blk_cell BK342.out 1).trans rfl
                        have hcz51_2 : wc.cell? ⟨gb342, 2, none⟩ = some (.int .i64 ((rd_T48 t336 x27_1).f2)) := (blk_cell BK342.out 2).trans rfl
                        have hfz51_0 := blk_frozen BK342.out 0
                        have hfz51_1 := blk_frozen BK342.out 1
                        have hfz51_2 := blk_frozen BK342.out 2
                        try go_wp2_with (first | ((with_reducible refine gate_callee (f := 15) rfl ?_); refine goesL_ (some 54) rfl rfl Try.func15 (by kernel_rfl) rfl #[.agg #[.int .i64 t323, .int .i64 t324, .int .i64 t325], .agg #[.bool x335000_1, .int .i64 x335001_1, .int .i64 x335002_1], .agg #[.int .i64 ((rd_T48 t336 x27_1).f1), .int .i64 ((rd_T48 t336 x27_1).f2)], .int .i64 (wrap64 (x9_1 + ((rd_T48 t336 x27_1).f0)))] rfl (by (try simp only [List.map_toArray, List.map_cons, List.map_nil]); first | done | rfl | (simp only [List.length_drop, List.length_take]; rfl)) ?_; (with_reducible refine (level_Step.calls kj29 t323 t324 t325 x335000_1 x335001_1 x335002_1 ((rd_T48 t336 x27_1).f1) ((rd_T48 t336 x27_1).f2) (wrap64 (x9_1 + ((rd_T48 t336 x27_1).f0))) true t345 t346 t347 _ A37.out).mono ?_); rintro e w52 ⟨rfl, hb⟩; refine ⟨_, rfl, ?_⟩; have n0_ := Aside0.mk (Kd.R_below (by (with_reducible repeat (first | apply Kd.R_alloc | apply Kd.R_drewN | apply Kd.R_drew)); exact HO_25.out) hb); have n1_ := Aside0.mk (blk_below (g := gb327) (o := .cells #[.int .i64 t323, .int .i64 t324, .int .i64 t325] 24 (0, 0)) (by (with_reducible repeat (first | refine blk_drewN ?_ _ | refine blk_drew ?_ | refine blk_alloc ?_ _)); exact BK327.out) hb); have n2_ := Aside0.mk (blk_below (g := gb334) (o := .cells #[.bool x335000_1, .int .i64 x335001_1, .int .i64 x335002_1] 26 (0, 0)) (by (with_reducible repeat (first | refine blk_drewN ?_ _ | refine blk_drew ?_ | refine blk_alloc ?_ _)); exact BK334.out) hb); have n3_ := Aside0.mk (blk_below (g := gb335) (o := .cells #[.bool x336000_1, .int .i64 x336001_1, .int .i64 x336002_1] 26 (0, 0)) (by (with_reducible repeat (first | refine blk_drewN ?_ _ | refine blk_drew ?_ | refine blk_alloc ?_ _)); exact BK335.out) hb); have n4_ := Aside0.mk (blk_below (g := gb342) (o := .cells #[.int .i64 ((rd_T48 t336 x27_1).f0), .int .i64 ((rd_T48 t336 x27_1).f1), .int .i64 ((rd_T48 t336 x27_1).f2)] 48 (0, 0)) (by (with_reducible repeat (first | refine blk_drewN ?_ _ | refine blk_drew ?_ | refine blk_alloc ?_ _)); exact BK342.out) hb); have n5_ := Aside0.mk (below_step (by repeat (first | (with_reducible first | exact HB.out | apply below_alloc | apply pw_below_drewN | apply below_drew1 | refine below_set ?_ GE327.out | refine below_set ?_ GE334.out | refine below_set ?_ GE335.out | refine below_set ?_ GE342.out) | exact HB.out)) hb); clear HO_25; clear BK327; clear BK334; clear BK335; clear BK342; clear HB; have HO_25 := n0_; have BK327 := n1_; have BK334 := n2_; have BK335 := n3_; have BK342 := n4_; have HB := n5_; clear n0_ n1_ n2_ n3_ n4_ n5_; (try clear hb); (try clear hb2); (try clear hk); (try clear hi)) | ((with_reducible refine gate_dst (N := 13) rfl ?_); refine box_event ?hg (N := 13) ?hd (cs := #[.bool false, .int .i64 0, .int .i64 0]) (t := 26) ?hr ?_; (case hd => rfl); (case hg => rfl); (case hr => first | (go_simp; done) | (go_simp; rfl)); intro gb348 hg w53 hbox hb; have n0_ := Aside0.mk (Kd.R_below (by (with_reducible repeat (first | apply Kd.R_alloc | apply Kd.R_drewN | apply Kd.R_drew)); exact HO_25.out) hb); have n1_ := Aside0.mk (blk_below (g := gb327) (o := .cells #[.int .i64 t323, .int .i64 t324, .int .i64 t325] 24 (0, 0)) (by (with_reducible repeat (first | refine blk_drewN ?_ _ | refine blk_drew ?_ | refine blk_alloc ?_ _)); exact BK327.out) hb); have n2_ := Aside0.mk (blk_below (g := gb334) (o := .cells #[.bool x335000_1, .int .i64 x335001_1, .int .i64 x335002_1] 26 (0, 0)) (by (with_reducible repeat (first | refine blk_drewN ?_ _ | refine blk_drew ?_ | refine blk_alloc ?_ _)); exact BK334.out) hb); have n3_ := Aside0.mk (blk_below (g := gb335) (o := .cells #[.bool x336000_1, .int .i64 x336001_1, .int .i64 x336002_1] 26 (0, 0)) (by (with_reducible repeat (first | refine blk_drewN ?_ _ | refine blk_drew ?_ | refine blk_alloc ?_ _)); exact BK335.out) hb); have n4_ := Aside0.mk (blk_below (g := gb342) (o := .cells #[.int .i64 ((rd_T48 t336 x27_1).f0), .int .i64 ((rd_T48 t336 x27_1).f1), .int .i64 ((rd_T48 t336 x27_1).f2)] 48 (0, 0)) (by (with_reducible repeat (first | refine blk_drewN ?_ _ | refine blk_drew ?_ | refine blk_alloc ?_ _)); exact BK342.out) hb); have n5_ := Aside0.mk (below_step (by repeat (first | (with_reducible first | exact HB.out | apply below_alloc | apply pw_below_drewN | apply below_drew1 | refine below_set ?_ GE327.out | refine below_set ?_ GE334.out | refine below_set ?_ GE335.out | refine below_set ?_ GE342.out) | exact HB.out)) hb); have n6_ := Aside0.mk (hbox); have n7_ := Aside0.mk ((by rw [hg]; exact (below_size (by repeat (first | (with_reducible first | exact HB.out | apply below_alloc | apply pw_below_drewN | apply below_drew1 | refine below_set ?_ GE327.out | refine below_set ?_ GE334.out | refine below_set ?_ GE335.out | refine below_set ?_ GE342.out) | exact HB.out))) : w.heap.size ≤ gb348)); have n8_ := Aside0.mk ((by rw [hg]; exact (below_size (by repeat (first | (with_reducible first | exact HB.out | apply below_alloc | apply pw_below_drewN | apply below_drew1 | refine below_set ?_ GE327.out | refine below_set ?_ GE334.out | refine below_set ?_ GE335.out | refine below_set ?_ GE342.out) | exact HB.out))) : w.heap.size ≤ gb348)); have n9_ := Aside0.mk ((by rw [hg]; exact Nat.ne_of_lt (blk_lt (g := gb327) (o := .cells #[.int .i64 t323, .int .i64 t324, .int .i64 t325] 24 (0, 0)) (by (with_reducible repeat (first | refine blk_drewN ?_ _ | refine blk_drew ?_ | refine blk_alloc ?_ _)); exact BK327.out)) : gb327 ≠ gb348)); have n10_ := Aside0.mk ((by rw [hg]; exact Nat.ne_of_gt (blk_lt (g := gb327) (o := .cells #[.int .i64 t323, .int .i64 t324, .int .i64 t325] 24 (0, 0)) (by (with_reducible repeat (first | refine blk_drewN ?_ _ | refine blk_drew ?_ | refine blk_alloc ?_ _)); exact BK327.out)) : gb348 ≠ gb327)); have n11_ := Aside0.mk ((by rw [hg]; exact Nat.ne_of_lt (blk_lt (g := gb334) (o := .cells #[.bool x335000_1, .int .i64 x335001_1, .int .i64 x335002_1] 26 (0, 0)) (by (with_reducible repeat (first | refine blk_drewN ?_ _ | refine blk_drew ?_ | refine blk_alloc ?_ _)); exact BK334.out)) : gb334 ≠ gb348)); have n12_ := Aside0.mk ((by rw [hg]; exact Nat.ne_of_gt (blk_lt (g := gb334) (o := .cells #[.bool x335000_1, .int .i64 x335001_1, .int .i64 x335002_1] 26 (0, 0)) (by (with_reducible repeat (first | refine blk_drewN ?_ _ | refine blk_drew ?_ | refine blk_alloc ?_ _)); exact BK334.out)) : gb348 ≠ gb334)); have n13_ := Aside0.mk ((by rw [hg]; exact Nat.ne_of_lt (blk_lt (g := gb335) (o := .cells #[.bool x336000_1, .int .i64 x336001_1, .int .i64 x336002_1] 26 (0, 0)) (by (with_reducible repeat (first | refine blk_drewN ?_ _ | refine blk_drew ?_ | refine blk_alloc ?_ _)); exact BK335.out)) : gb335 ≠ gb348)); have n14_ := Aside0.mk ((by rw [hg]; exact Nat.ne_of_gt (blk_lt (g := gb335) (o := .cells #[.bool x336000_1, .int .i64 x336001_1, .int .i64 x336002_1] 26 (0, 0)) (by (with_reducible repeat (first | refine blk_drewN ?_ _ | refine blk_drew ?_ | refine blk_alloc ?_ _)); exact BK335.out)) : gb348 ≠ gb335)); have n15_ := Aside0.mk ((by rw [hg]; exact Nat.ne_of_lt (blk_lt (g := gb342) (o := .cells #[.int .i64 ((rd_T48 t336 x27_1).f0), .int .i64 ((rd_T48 t336 x27_1).f1), .int .i64 ((rd_T48 t336 x27_1).f2)] 48 (0, 0)) (by (with_reducible repeat (first | refine blk_drewN ?_ _ | refine blk_drew ?_ | refine blk_alloc ?_ _)); exact BK342.out)) : gb342 ≠ gb348)); have n16_ := Aside0.mk ((by rw [hg]; exact Nat.ne_of_gt (blk_lt (g := gb342) (o := .cells #[.int .i64 ((rd_T48 t336 x27_1).f0), .int .i64 ((rd_T48 t336 x27_1).f1), .int .i64 ((rd_T48 t336 x27_1).f2)] 48 (0, 0)) (by (with_reducible repeat (first | refine blk_drewN ?_ _ | refine blk_drew ?_ | refine blk_alloc ?_ _)); exact BK342.out)) : gb348 ≠ gb342)); clear HO_25; clear BK327; clear BK334; clear BK335; clear BK342; clear HB; have HO_25 := n0_; have BK327 := n1_; have BK334 := n2_; have BK335 := n3_; have BK342 := n4_; have HB := n5_; have BK348 := n6_; have GW348 := n7_; have GE348 := n8_; have NB327_348 := n9_; have NB348_327 := n10_; have NB334_348 := n11_; have NB348_334 := n12_; have NB335_348 := n13_; have NB348_335 := n14_; have NB342_348 := n15_; have NB348_342 := n16_; clear n0_ n1_ n2_ n3_ n4_ n5_ n6_ n7_ n8_ n9_ n10_ n11_ n12_ n13_ n14_ n15_ n16_; clear hb hbox hg; have hnb54 := NB348_327.out; have hnc54 := NB327_348.out; have hnb55 := NB348_334.out; have hnc55 := NB334_348.out; have hnb56 := NB348_335.out; have hnc56 := NB335_348.out; have hnb57 := NB348_342.out; have hnc57 := NB342_348.out; have hcz58_0 : w53.cell? ⟨gb348, 0, none⟩ = some (.bool false) := (blk_cell BK348.out 0).trans rfl; have hcz58_1 : w53.cell? ⟨gb348, 1, none⟩ = some (.int .i64 0) := (blk_cell BK348.out 1).trans rfl; have hcz58_2 : w53.cell? ⟨gb348, 2, none⟩ = some (.int .i64 0) := (blk_cell BK348.out 2).trans rfl; have hfz58_0 := blk_frozen BK348.out 0; have hfz58_1 := blk_frozen BK348.out 1; have hfz58_2 := blk_frozen BK348.out 2; have hcz59_0 : w53.cell? ⟨gb327, 0, none⟩ = some (.int .i64 t323) := (blk_cell BK327.out 0).trans rfl; have hcz59_1 : w53.cell? ⟨gb327, 1, none⟩ = some (.int .i64 t324) := (blk_cell BK327.out 1).trans rfl; have hcz59_2 : w53.cell? ⟨gb327, 2, none⟩ = some (.int .i64 t325) := (blk_cell BK327.out 2).trans rfl; have hfz59_0 := blk_frozen BK327.out 0; have hfz59_1 := blk_frozen BK327.out 1; have hfz59_2 := blk_frozen BK327.out 2; have hcz60_0 : w53.cell? ⟨gb335, 0, none⟩ = some (.bool x336000_1) := (blk_cell BK335.out 0).trans rfl; have hcz60_1 : w53.cell? ⟨gb335, 1, none⟩ = some (.int .i64 x336001_1) := (blk_cell BK335.out 1).trans rfl; have hcz60_2 : w53.cell? ⟨gb335, 2, none⟩ = some (.int .i64 x336002_1) := (blk_cell BK335.out 2).trans rfl; have hfz60_0 := blk_frozen BK335.out 0; have hfz60_1 := blk_frozen BK335.out 1; have hfz60_2 := blk_frozen BK335.out 2; have hcz61_0 : w53.cell? ⟨gb342, 0, none⟩ = some (.int .i64 ((rd_T48 t336 x27_1).f0)) := (blk_cell BK342.out 0).trans rfl; have hcz61_1 : w53.cell? ⟨gb342, 1, none⟩ = some (.int .i64 ((rd_T48 t336 x27_1).f1)) := (blk_cell BK342.out 1).trans rfl; have hcz61_2 : w53.cell? ⟨gb342, 2, none⟩ = some (.int .i64 ((rd_T48 t336 x27_1).f2)) := (blk_cell BK342.out 2).trans rfl; have hfz61_0 := blk_frozen BK342.out 0; have hfz61_1 := blk_frozen BK342.out 1; have hfz61_2 := blk_frozen BK342.out 2) | ((with_reducible refine gate_callee (f := 15) rfl ?_); refine goesL_ (some 70) rfl rfl Try.func15 (by kernel_rfl) rfl #[.agg #[.int .i64 t323, .int .i64 t324, .int .i64 t325], .agg #[.bool x336000_1, .int .i64 x336001_1, .int .i64 x336002_1], .agg #[.int .i64 (wrap64 (((rd_T48 t336 x27_1).f1) - x12_29)), .int .i64 (wrap64 (((rd_T48 t336 x27_1).f2) + x12_29))], .int .i64 (wrap64 (x9_1 + ((rd_T48 t336 x27_1).f0)))] rfl (by (try simp only [List.map_toArray, List.map_cons, List.map_nil]); first | done | rfl | (simp only [List.length_drop, List.length_take]; rfl)) ?_; (with_reducible refine (level_Step.calls kj29 t323 t324 t325 x336000_1 x336001_1 x336002_1 (wrap64 (((rd_T48 t336 x27_1).f1) - x12_29)) (wrap64 (((rd_T48 t336 x27_1).f2) + x12_29)) (wrap64 (x9_1 + ((rd_T48 t336 x27_1).f0))) true t350 t351 t352 _ A38.out).mono ?_); rintro e w62 ⟨rfl, hb⟩; refine ⟨_, rfl, ?_⟩; have n0_ := Aside0.mk (Kd.R_below (by (with_reducible repeat (first | apply Kd.R_alloc | apply Kd.R_drewN | apply Kd.R_drew)); exact (Kd.R_mono (Kd.R_far (p := ⟨gb348, 2, none⟩) (Kd.R_far (p := ⟨gb348, 1, none⟩) (Kd.R_far (p := ⟨gb348, 0, none⟩) (Kd.R_types HO_25.out BK348.out (by decide)) (fun _ hk => hk.2) (.bool true)) (fun _ hk => hk.2) (.int .i64 t345)) (fun _ hk => hk.2) (.int .i64 t346)) (fun _ h_ => h_.1))) hb); have n1_ := Aside0.mk (blk_below (g := gb327) (o := .cells #[.int .i64 t323, .int .i64 t324, .int .i64 t325] 24 (0, 0)) (by (with_reducible repeat (first | refine blk_drewN ?_ _ | refine blk_drew ?_ | refine blk_alloc ?_ _)); refine blk_far ?_ NB327_348.out _; (with_reducible repeat (first | refine blk_drewN ?_ _ | refine blk_drew ?_ | refine blk_alloc ?_ _)); refine blk_far ?_ NB327_348.out _; (with_reducible repeat (first | refine blk_drewN ?_ _ | refine blk_drew ?_ | refine blk_alloc ?_ _)); refine blk_far ?_ NB327_348.out _; (with_reducible repeat (first | refine blk_drewN ?_ _ | refine blk_drew ?_ | refine blk_alloc ?_ _)); exact BK327.out) hb); have n2_ := Aside0.mk (blk_below (g := gb334) (o := .cells #[.bool x335000_1, .int .i64 x335001_1, .int .i64 x335002_1] 26 (0, 0)) (by (with_reducible repeat (first | refine blk_drewN ?_ _ | refine blk_drew ?_ | refine blk_alloc ?_ _)); refine blk_far ?_ NB334_348.out _; (with_reducible repeat (first | refine blk_drewN ?_ _ | refine blk_drew ?_ | refine blk_alloc ?_ _)); refine blk_far ?_ NB334_348.out _; (with_reducible repeat (first | refine blk_drewN ?_ _ | refine blk_drew ?_ | refine blk_alloc ?_ _)); refine blk_far ?_ NB334_348.out _; (with_reducible repeat (first | refine blk_drewN ?_ _ | refine blk_drew ?_ | refine blk_alloc ?_ _)); exact BK334.out) hb); have n3_ := Aside0.mk (blk_below (g := gb335) (o := .cells #[.bool x336000_1, .int .i64 x336001_1, .int .i64 x336002_1] 26 (0, 0)) (by (with_reducible repeat (first | refine blk_drewN ?_ _ | refine blk_drew ?_ | refine blk_alloc ?_ _)); refine blk_far ?_ NB335_348.out _; (with_reducible repeat (first | refine blk_drewN ?_ _ | refine blk_drew ?_ | refine blk_alloc ?_ _)); refine blk_far ?_ NB335_348.out _; (with_reducible repeat (first | refine blk_drewN ?_ _ | refine blk_drew ?_ | refine blk_alloc ?_ _)); refine blk_far ?_ NB335_348.out _; (with_reducible repeat (first | refine blk_drewN ?_ _ | refine blk_drew ?_ | refine blk_alloc ?_ _)); exact BK335.out) hb); have n4_ := Aside0.mk (blk_below (g := gb342) (o := .cells #[.int .i64 ((rd_T48 t336 x27_1).f0), .int .i64 ((rd_T48 t336 x27_1).f1), .int .i64 ((rd_T48 t336 x27_1).f2)] 48 (0, 0)) (by (with_reducible repeat (first | refine blk_drewN ?_ _ | refine blk_drew ?_ | refine blk_alloc ?_ _)); refine blk_far ?_ NB342_348.out _; (with_reducible repeat (first | refine blk_drewN ?_ _ | refine blk_drew ?_ | refine blk_alloc ?_ _)); refine blk_far ?_ NB342_348.out _; (with_reducible repeat (first | refine blk_drewN ?_ _ | refine blk_drew ?_ | refine blk_alloc ?_ _)); refine blk_far ?_ NB342_348.out _; (with_reducible repeat (first | refine blk_drewN ?_ _ | refine blk_drew ?_ | refine blk_alloc ?_ _)); exact BK342.out) hb); have n5_ := Aside0.mk (blk_below (g := gb348) (o := .cells #[.bool true, .int .i64 t345, .int .i64 t346] 26 (0, 0)) (by (with_reducible repeat (first | refine blk_drewN ?_ _ | refine blk_drew ?_ | refine blk_alloc ?_ _)); refine blk_put (cs := #[.bool true, .int .i64 t345, .int .i64 0]) ?_ 2 _ rfl; (with_reducible repeat (first | refine blk_drewN ?_ _ | refine blk_drew ?_ | refine blk_alloc ?_ _)); refine blk_put (cs := #[.bool true, .int .i64 0, .int .i64 0]) ?_ 1 _ rfl; (with_reducible repeat (first | refine blk_drewN ?_ _ | refine blk_drew ?_ | refine blk_alloc ?_ _)); refine blk_put (cs := #[.bool false, .int .i64 0, .int .i64 0]) ?_ 0 _ rfl; (with_reducible repeat (first | refine blk_drewN ?_ _ | refine blk_drew ?_ | refine blk_alloc ?_ _)); exact BK348.out) hb); have n6_ := Aside0.mk (below_step (by repeat (first | (with_reducible first | exact HB.out | apply below_alloc | apply pw_below_drewN | apply below_drew1 | refine below_set ?_ GE327.out | refine below_set ?_ GE334.out | refine below_set ?_ GE335.out | refine below_set ?_ GE342.out | refine below_set ?_ GE348.out) | exact HB.out)) hb); clear HO_25; clear BK327; clear BK334; clear BK335; clear BK342; clear BK348; clear HB; have HO_25 := n0_; have BK327 := n1_; have BK334 := n2_; have BK335 := n3_; have BK342 := n4_; have BK348 := n5_; have HB := n6_; clear n0_ n1_ n2_ n3_ n4_ n5_ n6_; (try clear hb); (try clear hb2); (try clear hk); (try clear hi)) | ((with_reducible refine gate_dst (N := 15) rfl ?_); refine box_event ?hg (N := 15) ?hd (cs := #[.bool false, .int .i64 0, .int .i64 0]) (t := 26) ?hr ?_; (case hd => rfl); (case hg => rfl); (case hr => first | (go_simp; done) | (go_simp; rfl)); intro gb353 hg w63 hbox hb; have n0_ := Aside0.mk (Kd.R_below (by (with_reducible repeat (first | apply Kd.R_alloc | apply Kd.R_drewN | apply Kd.R_drew)); exact HO_25.out) hb); have n1_ := Aside0.mk (blk_below (g := gb327) (o := .cells #[.int .i64 t323, .int .i64 t324, .int .i64 t325] 24 (0, 0)) (by (with_reducible repeat (first | refine blk_drewN ?_ _ | refine blk_drew ?_ | refine blk_alloc ?_ _)); exact BK327.out) hb); have n2_ := Aside0.mk (blk_below (g := gb334) (o := .cells #[.bool x335000_1, .int .i64 x335001_1, .int .i64 x335002_1] 26 (0, 0)) (by (with_reducible repeat (first | refine blk_drewN ?_ _ | refine blk_drew ?_ | refine blk_alloc ?_ _)); exact BK334.out) hb); have n3_ := Aside0.mk (blk_below (g := gb335) (o := .cells #[.bool x336000_1, .int .i64 x336001_1, .int .i64 x336002_1] 26 (0, 0)) (by (with_reducible repeat (first | refine blk_drewN ?_ _ | refine blk_drew ?_ | refine blk_alloc ?_ _)); exact BK335.out) hb); have n4_ := Aside0.mk (blk_below (g := gb342) (o := .cells #[.int .i64 ((rd_T48 t336 x27_1).f0), .int .i64 ((rd_T48 t336 x27_1).f1), .int .i64 ((rd_T48 t336 x27_1).f2)] 48 (0, 0)) (by (with_reducible repeat (first | refine blk_drewN ?_ _ | refine blk_drew ?_ | refine blk_alloc ?_ _)); exact BK342.out) hb); have n5_ := Aside0.mk (blk_below (g := gb348) (o := .cells #[.bool true, .int .i64 t345, .int .i64 t346] 26 (0, 0)) (by (with_reducible repeat (first | refine blk_drewN ?_ _ | refine blk_drew ?_ | refine blk_alloc ?_ _)); exact BK348.out) hb); have n6_ := Aside0.mk (below_step (by repeat (first | (with_reducible first | exact HB.out | apply below_alloc | apply pw_below_drewN | apply below_drew1 | refine below_set ?_ GE327.out | refine below_set ?_ GE334.out | refine below_set ?_ GE335.out | refine below_set ?_ GE342.out | refine below_set ?_ GE348.out) | exact HB.out)) hb); have n7_ := Aside0.mk (hbox); have n8_ := Aside0.mk ((by rw [hg]; exact (below_size (by repeat (first | (with_reducible first | exact HB.out | apply below_alloc | apply pw_below_drewN | apply below_drew1 | refine below_set ?_ GE327.out | refine below_set ?_ GE334.out | refine below_set ?_ GE335.out | refine below_set ?_ GE342.out | refine below_set ?_ GE348.out) | exact HB.out))) : w.heap.size ≤ gb353)); have n9_ := Aside0.mk ((by rw [hg]; exact (below_size (by repeat (first | (with_reducible first | exact HB.out | apply below_alloc | apply pw_below_drewN | apply below_drew1 | refine below_set ?_ GE327.out | refine below_set ?_ GE334.out | refine below_set ?_ GE335.out | refine below_set ?_ GE342.out | refine below_set ?_ GE348.out) | exact HB.out))) : w.heap.size ≤ gb353)); have n10_ := Aside0.mk ((by rw [hg]; exact Nat.ne_of_lt (blk_lt (g := gb327) (o := .cells #[.int .i64 t323, .int .i64 t324, .int .i64 t325] 24 (0, 0)) (by (with_reducible repeat (first | refine blk_drewN ?_ _ | refine blk_drew ?_ | refine blk_alloc ?_ _)); exact BK327.out)) : gb327 ≠ gb353)); have n11_ := Aside0.mk ((by rw [hg]; exact Nat.ne_of_gt (blk_lt (g := gb327) (o := .cells #[.int .i64 t323, .int .i64 t324, .int .i64 t325] 24 (0, 0)) (by (with_reducible repeat (first | refine blk_drewN ?_ _ | refine blk_drew ?_ | refine blk_alloc ?_ _)); exact BK327.out)) : gb353 ≠ gb327)); have n12_ := Aside0.mk ((by rw [hg]; exact Nat.ne_of_lt (blk_lt (g := gb334) (o := .cells #[.bool x335000_1, .int .i64 x335001_1, .int .i64 x335002_1] 26 (0, 0)) (by (with_reducible repeat (first | refine blk_drewN ?_ _ | refine blk_drew ?_ | refine blk_alloc ?_ _)); exact BK334.out)) : gb334 ≠ gb353)); have n13_ := Aside0.mk ((by rw [hg]; exact Nat.ne_of_gt (blk_lt (g := gb334) (o := .cells #[.bool x335000_1, .int .i64 x335001_1, .int .i64 x335002_1] 26 (0, 0)) (by (with_reducible repeat (first | refine blk_drewN ?_ _ | refine blk_drew ?_ | refine blk_alloc ?_ _)); exact BK334.out)) : gb353 ≠ gb334)); have n14_ := Aside0.mk ((by rw [hg]; exact Nat.ne_of_lt (blk_lt (g := gb335) (o := .cells #[.bool x336000_1, .int .i64 x336001_1, .int .i64 x336002_1] 26 (0, 0)) (by (with_reducible repeat (first | refine blk_drewN ?_ _ | refine blk_drew ?_ | refine blk_alloc ?_ _)); exact BK335.out)) : gb335 ≠ gb353)); have n15_ := Aside0.mk ((by rw [hg]; exact Nat.ne_of_gt (blk_lt (g := gb335) (o := .cells #[.bool x336000_1, .int .i64 x336001_1, .int .i64 x336002_1] 26 (0, 0)) (by (with_reducible repeat (first | refine blk_drewN ?_ _ | refine blk_drew ?_ | refine blk_alloc ?_ _)); exact BK335.out)) : gb353 ≠ gb335)); have n16_ := Aside0.mk ((by rw [hg]; exact Nat.ne_of_lt (blk_lt (g := gb342) (o := .cells #[.int .i64 ((rd_T48 t336 x27_1).f0), .int .i64 ((rd_T48 t336 x27_1).f1), .int .i64 ((rd_T48 t336 x27_1).f2)] 48 (0, 0)) (by (with_reducible repeat (first | refine blk_drewN ?_ _ | refine blk_drew ?_ | refine blk_alloc ?_ _)); exact BK342.out)) : gb342 ≠ gb353)); have n17_ := Aside0.mk ((by rw [hg]; exact Nat.ne_of_gt (blk_lt (g := gb342) (o := .cells #[.int .i64 ((rd_T48 t336 x27_1).f0), .int .i64 ((rd_T48 t336 x27_1).f1), .int .i64 ((rd_T48 t336 x27_1).f2)] 48 (0, 0)) (by (with_reducible repeat (first | refine blk_drewN ?_ _ | refine blk_drew ?_ | refine blk_alloc ?_ _)); exact BK342.out)) : gb353 ≠ gb342)); have n18_ := Aside0.mk ((by rw [hg]; exact Nat.ne_of_lt (blk_lt (g := gb348) (o := .cells #[.bool true, .int .i64 t345, .int .i64 t346] 26 (0, 0)) (by (with_reducible repeat (first | refine blk_drewN ?_ _ | refine blk_drew ?_ | refine blk_alloc ?_ _)); exact BK348.out)) : gb348 ≠ gb353)); have n19_ := Aside0.mk ((by rw [hg]; exact Nat.ne_of_gt (blk_lt (g := gb348) (o := .cells #[.bool true, .int .i64 t345, .int .i64 t346] 26 (0, 0)) (by (with_reducible repeat (first | refine blk_drewN ?_ _ | refine blk_drew ?_ | refine blk_alloc ?_ _)); exact BK348.out)) : gb353 ≠ gb348)); clear HO_25; clear BK327; clear BK334; clear BK335; clear BK342; clear BK348; clear HB; have HO_25 := n0_; have BK327 := n1_; have BK334 := n2_; have BK335 := n3_; have BK342 := n4_; have BK348 := n5_; have HB := n6_; have BK353 := n7_; have GW353 := n8_; have GE353 := n9_; have NB327_353 := n10_; have NB353_327 := n11_; have NB334_353 := n12_; have NB353_334 := n13_; have NB335_353 := n14_; have NB353_335 := n15_; have NB342_353 := n16_; have NB353_342 := n17_; have NB348_353 := n18_; have NB353_348 := n19_; clear n0_ n1_ n2_ n3_ n4_ n5_ n6_ n7_ n8_ n9_ n10_ n11_ n12_ n13_ n14_ n15_ n16_ n17_ n18_ n19_; clear hb hbox hg; have hnb64 := NB353_327.out; have hnc64 := NB327_353.out; have hnb65 := NB353_334.out; have hnc65 := NB334_353.out; have hnb66 := NB353_335.out; have hnc66 := NB335_353.out; have hnb67 := NB353_342.out; have hnc67 := NB342_353.out; have hnb68 := NB353_348.out; have hnc68 := NB348_353.out; have hcz69_0 : w63.cell? ⟨gb353, 0, none⟩ = some (.bool false) := (blk_cell BK353.out 0).trans rfl; have hcz69_1 : w63.cell? ⟨gb353, 1, none⟩ = some (.int .i64 0) := (blk_cell BK353.out 1).trans rfl; have hcz69_2 : w63.cell? ⟨gb353, 2, none⟩ = some (.int .i64 0) := (blk_cell BK353.out 2).trans rfl; have hfz69_0 := blk_frozen BK353.out 0; have hfz69_1 := blk_frozen BK353.out 1; have hfz69_2 := blk_frozen BK353.out 2; have hcz70_0 : w63.cell? ⟨gb348, 0, none⟩ = some (.bool true) := (blk_cell BK348.out 0).trans rfl; have hcz70_1 : w63.cell? ⟨gb348, 1, none⟩ = some (.int .i64 t345) := (blk_cell BK348.out 1).trans rfl; have hcz70_2 : w63.cell? ⟨gb348, 2, none⟩ = some (.int .i64 t346) := (blk_cell BK348.out 2).trans rfl; have hfz70_0 := blk_frozen BK348.out 0; have hfz70_1 := blk_frozen BK348.out 1; have hfz70_2 := blk_frozen BK348.out 2))
                        have n0_ : Aside0 (Kd.R k48 48 (((w63.setCell ⟨gb353, 0, none⟩ (.bool true)).setCell ⟨gb353, 1, none⟩ (.int .i64 t350)).setCell ⟨gb353, 2, none⟩ (.int .i64 t351)) w.heap.size (fun k_ => k_ ≠ gb342) (.slice (some ad341) t336.length co26) t336) := ⟨by (with_reducible repeat (first | apply Kd.R_alloc | apply Kd.R_drewN | apply Kd.R_drew)); exact Kd.R_mono (Kd.R_far (p := ⟨gb353, 2, none⟩) (Kd.R_far (p := ⟨gb353, 1, none⟩) (Kd.R_far (p := ⟨gb353, 0, none⟩) (Kd.R_types HO_25.out BK353.out (by decide)) (fun _ hk => hk.2) (.bool true)) (fun _ hk => hk.2) (.int .i64 t350)) (fun _ hk => hk.2) (.int .i64 t351)) (fun _ hk => hk.1)⟩
                        have n1_ : Aside0 ((((w63.setCell ⟨gb353, 0, none⟩ (.bool true)).setCell ⟨gb353, 1, none⟩ (.int .i64 t350)).setCell ⟨gb353, 2, none⟩ (.int .i64 t351)).heap[gb327]? = some (.cells #[.int .i64 t323, .int .i64 t324, .int .i64 t325] 24 (0, 0))) := ⟨by (with_reducible repeat (first | refine blk_drewN ?_ _ | refine blk_drew ?_ | refine blk_alloc ?_ _)); refine blk_far ?_ NB327_353.out _; (with_reducible repeat (first | refine blk_drewN ?_ _ | refine blk_drew ?_ | refine blk_alloc ?_ _)); refine blk_far ?_ NB327_353.out _; (with_reducible repeat (first | refine blk_drewN ?_ _ | refine blk_drew ?_ | refine blk_alloc ?_ _)); refine blk_far ?_ NB327_353.out _; (with_reducible repeat (first | refine blk_drewN ?_ _ | refine blk_drew ?_ | refine blk_alloc ?_ _)); exact BK327.out⟩
                        have n2_ : Aside0 ((((w63.setCell ⟨gb353, 0, none⟩ (.bool true)).setCell ⟨gb353, 1, none⟩ (.int .i64 t350)).setCell ⟨gb353, 2, none⟩ (.int .i64 t351)).heap[gb334]? = some (.cells #[.bool x335000_1, .int .i64 x335001_1, .int .i64 x335002_1] 26 (0, 0))) := ⟨by (with_reducible repeat (first | refine blk_drewN ?_ _ | refine blk_drew ?_ | refine blk_alloc ?_ _)); refine blk_far ?_ NB334_353.out _; (with_reducible repeat (first | refine blk_drewN ?_ _ | refine blk_drew ?_ | refine blk_alloc ?_ _)); refine blk_far ?_ NB334_353.out _; (with_reducible repeat (first | refine blk_drewN ?_ _ | refine blk_drew ?_ | refine blk_alloc ?_ _)); refine blk_far ?_ NB334_353.out _; (with_reducible repeat (first | refine blk_drewN ?_ _ | refine blk_drew ?_ | refine blk_alloc ?_ _)); exact BK334.out⟩
                        have n3_ : Aside0 ((((w63.setCell ⟨gb353, 0, none⟩ (.bool true)).setCell ⟨gb353, 1, none⟩ (.int .i64 t350)).setCell ⟨gb353, 2, none⟩ (.int .i64 t351)).heap[gb335]? = some (.cells #[.bool x336000_1, .int .i64 x336001_1, .int .i64 x336002_1] 26 (0, 0))) := ⟨by (with_reducible repeat (first | refine blk_drewN ?_ _ | refine blk_drew ?_ | refine blk_alloc ?_ _)); refine blk_far ?_ NB335_353.out _; (with_reducible repeat (first | refine blk_drewN ?_ _ | refine blk_drew ?_ | refine blk_alloc ?_ _)); refine blk_far ?_ NB335_353.out _; (with_reducible repeat (first | refine blk_drewN ?_ _ | refine blk_drew ?_ | refine blk_alloc ?_ _)); refine blk_far ?_ NB335_353.out _; (with_reducible repeat (first | refine blk_drewN ?_ _ | refine blk_drew ?_ | refine blk_alloc ?_ _)); exact BK335.out⟩
                        have n4_ : Aside0 ((((w63.setCell ⟨gb353, 0, none⟩ (.bool true)).setCell ⟨gb353, 1, none⟩ (.int .i64 t350)).setCell ⟨gb353, 2, none⟩ (.int .i64 t351)).heap[gb342]? = some (.cells #[.int .i64 ((rd_T48 t336 x27_1).f0), .int .i64 ((rd_T48 t336 x27_1).f1), .int .i64 ((rd_T48 t336 x27_1).f2)] 48 (0, 0))) := ⟨by (with_reducible repeat (first | refine blk_drewN ?_ _ | refine blk_drew ?_ | refine blk_alloc ?_ _)); refine blk_far ?_ NB342_353.out _; (with_reducible repeat (first | refine blk_drewN ?_ _ | refine blk_drew ?_ | refine blk_alloc ?_ _)); refine blk_far ?_ NB342_353.out _; (with_reducible repeat (first | refine blk_drewN ?_ _ | refine blk_drew ?_ | refine blk_alloc ?_ _)); refine blk_far ?_ NB342_353.out _; (with_reducible repeat (first | refine blk_drewN ?_ _ | refine blk_drew ?_ | refine blk_alloc ?_ _)); exact BK342.out⟩
                        have n5_ : Aside0 ((((w63.setCell ⟨gb353, 0, none⟩ (.bool true)).setCell ⟨gb353, 1, none⟩ (.int .i64 t350)).setCell ⟨gb353, 2, none⟩ (.int .i64 t351)).heap[gb348]? = some (.cells #[.bool true, .int .i64 t345, .int .i64 t346] 26 (0, 0))) := ⟨by (with_reducible repeat (first | refine blk_drewN ?_ _ | refine blk_drew ?_ | refine blk_alloc ?_ _)); refine blk_far ?_ NB348_353.out _; (with_reducible repeat (first | refine blk_drewN ?_ _ | refine blk_drew ?_ | refine blk_alloc ?_ _)); refine blk_far ?_ NB348_353.out _; (with_reducible repeat (first | refine blk_drewN ?_ _ | refine blk_drew ?_ | refine blk_alloc ?_ _)); refine blk_far ?_ NB348_353.out _; (with_reducible repeat (first | refine blk_drewN ?_ _ | refine blk_drew ?_ | refine blk_alloc ?_ _)); exact BK348.out⟩
                        have n6_ : Aside0 ((((w63.setCell ⟨gb353, 0, none⟩ (.bool true)).setCell ⟨gb353, 1, none⟩ (.int .i64 t350)).setCell ⟨gb353, 2, none⟩ (.int .i64 t351)).heap[gb353]? = some (.cells #[.bool true, .int .i64 t350, .int .i64 t351] 26 (0, 0))) := ⟨by (with_reducible repeat (first | refine blk_drewN ?_ _ | refine blk_drew ?_ | refine blk_alloc ?_ _)); refine blk_put (cs := #[.bool true, .int .i64 t350, .int .i64 0]) ?_ 2 _ rfl; (with_reducible repeat (first | refine blk_drewN ?_ _ | refine blk_drew ?_ | refine blk_alloc ?_ _)); refine blk_put (cs := #[.bool true, .int .i64 0, .int .i64 0]) ?_ 1 _ rfl; (with_reducible repeat (first | refine blk_drewN ?_ _ | refine blk_drew ?_ | refine blk_alloc ?_ _)); refine blk_put (cs := #[.bool false, .int .i64 0, .int .i64 0]) ?_ 0 _ rfl; (with_reducible repeat (first | refine blk_drewN ?_ _ | refine blk_drew ?_ | refine blk_alloc ?_ _)); exact BK353.out⟩
                        have n7_ : Aside0 (Below w.heap.size w (((w63.setCell ⟨gb353, 0, none⟩ (.bool true)).setCell ⟨gb353, 1, none⟩ (.int .i64 t350)).setCell ⟨gb353, 2, none⟩ (.int .i64 t351))) := ⟨by repeat (first | (with_reducible first | exact HB.out | apply below_alloc | apply pw_below_drewN | apply below_drew1 | refine below_set ?_ GE327.out | refine below_set ?_ GE334.out | refine below_set ?_ GE335.out | refine below_set ?_ GE342.out | refine below_set ?_ GE348.out | refine below_set ?_ GE353.out) | exact HB.out)⟩
                        (try clear HO_25)
                        (try clear BK327)
                        (try clear BK334)
                        (try clear BK335)
                        (try clear BK342)
                        (try clear BK348)
                        (try clear BK353)
                        (try clear HB)
                        generalize (((w63.setCell ⟨gb353, 0, none⟩ (.bool true)).setCell ⟨gb353, 1, none⟩ (.int .i64 t350)).setCell ⟨gb353, 2, none⟩ (.int .i64 t351)) = w71 at n0_ n1_ n2_ n3_ n4_ n5_ n6_ n7_ ⊢
                        have HO_25 := n0_
                        have BK327 := n1_
                        have BK334 := n2_
                        have BK335 := n3_
                        have BK342 := n4_
                        have BK348 := n5_
                        have BK353 := n6_
                        have HB := n7_
                        clear n0_ n1_ n2_ n3_ n4_ n5_ n6_ n7_
                        have n0_ := Aside0.mk (Kd.R_drew HO_25.out)
                        have n1_ := Aside0.mk (blk_drew BK327.out)
                        have n2_ := Aside0.mk (blk_drew BK334.out)
                        have n3_ := Aside0.mk (blk_drew BK335.out)
                        have n4_ := Aside0.mk (blk_drew BK342.out)
                        have n5_ := Aside0.mk (blk_drew BK348.out)
                        have n6_ := Aside0.mk (blk_drew BK353.out)
                        have n7_ := Aside0.mk (below_drew1 HB.out)
                        clear HO_25
                        clear BK327
                        clear BK334
                        clear BK335
                        clear BK342
                        clear BK348
                        clear BK353
                        clear HB
                        have HO_25 := n0_
                        have BK327 := n1_
                        have BK334 := n2_
                        have BK335 := n3_
                        have BK342 := n4_
                        have BK348 := n5_
                        have BK353 := n6_
                        have HB := n7_
                        clear n0_ n1_ n2_ n3_ n4_ n5_ n6_ n7_
                        refine start_ (n := 4) (S := fun w' => w'.cell? ⟨gb348, 0, none⟩ = some (.bool true) ∧ w'.cell? ⟨gb348, 1, none⟩ = some (.int .i64 t345) ∧ w'.cell? ⟨gb348, 2, none⟩ = some (.int .i64 t346) ∧ w'.cell? ⟨gb353, 0, none⟩ = some (.bool true) ∧ w'.cell? ⟨gb353, 1, none⟩ = some (.int .i64 t350) ∧ w'.cell? ⟨gb353, 2, none⟩ = some (.int .i64 t351)) (ds := []) #[false, false, false, false] (by kernel_rfl) rfl rfl ⟨(blk_cell BK348.out 0).trans rfl, (blk_cell BK348.out 1).trans rfl, (blk_cell BK348.out 2).trans rfl, (blk_cell BK353.out 0).trans rfl, (blk_cell BK353.out 1).trans rfl, (blk_cell BK353.out 2).trans rfl⟩ (fun hHeld => ?_)
                        generalize w71.drew = w72 at HO_25 BK327 BK334 BK335 BK342 BK348 BK353 HB hHeld ⊢
                        refine take_ (i := 0) (N := some 88) (v := ?_) (a' := ?_) #[true, false, false, false] rfl rfl (by kernel_rfl) (fun _ _ _ h => h) (Or.inl ⟨by rfl, ?_⟩) hHeld ?_ ?_
                        rotate_left
                        · rintro w' ⟨s0, s1, s2, s3, s4, s5⟩
                          go_simp
                          with_reducible rfl
                        rotate_left
                        · simp only [Act.put, List.setIfInBounds_toArray, List.set_cons_zero, List.set_cons_succ, i64_w, i32_w]
                          rfl
                        refine take_ (i := 1) (N := some 89) (v := ?_) (a' := ?_) #[true, true, false, false] rfl rfl (by kernel_rfl) (fun _ _ _ h => h) (Or.inl ⟨by rfl, ?_⟩) hHeld ?_ ?_
                        rotate_left
                        · rintro w' ⟨s0, s1, s2, s3, s4, s5⟩
                          go_simp
                          with_reducible rfl
                        rotate_left
                        · simp only [Act.put, List.setIfInBounds_toArray, List.set_cons_zero, List.set_cons_succ, i64_w, i32_w]
                          rfl
                        refine one_ (i := 2) (N := none) #[true, true, true, false] rfl rfl (by kernel_rfl) (by decide) (fun K hK => ?_)
                        have hs73 : w72.cell? ⟨gb334, 0, none⟩ = some (.bool x335000_1) := (blk_cell BK334.out 0).trans rfl
                        have hfs73 := blk_frozen BK334.out 0
                        have hns73_0 := NB327_334.out
                        have hns73_2 := NB335_334.out
                        have hns73_3 := NB342_334.out
                        have hns73_4 := NB348_334.out
                        have hns73_5 := NB353_334.out
                        have hms73_0 := NB334_327.out
                        have hms73_2 := NB334_335.out
                        have hms73_3 := NB334_342.out
                        have hms73_4 := NB334_348.out
                        have hms73_5 := NB334_353.out
                        have hs74 : w72.cell? ⟨gb334, 1, none⟩ = some (.int .i64 x335001_1) := (blk_cell BK334.out 1).trans rfl
                        have hfs74 := blk_frozen BK334.out 1
                        have hns74_0 := NB327_334.out
                        have hns74_2 := NB335_334.out
                        have hns74_3 := NB342_334.out
                        have hns74_4 := NB348_334.out
                        have hns74_5 := NB353_334.out
                        have hms74_0 := NB334_327.out
                        have hms74_2 := NB334_335.out
                        have hms74_3 := NB334_342.out
                        have hms74_4 := NB334_348.out
                        have hms74_5 := NB334_353.out
                        have hs75 : w72.cell? ⟨gb334, 2, none⟩ = some (.int .i64 x335002_1) := (blk_cell BK334.out 2).trans rfl
                        have hfs75 := blk_frozen BK334.out 2
                        have hns75_0 := NB327_334.out
                        have hns75_2 := NB335_334.out
                        have hns75_3 := NB342_334.out
                        have hns75_4 := NB348_334.out
                        have hns75_5 := NB353_334.out
                        have hms75_0 := NB334_327.out
                        have hms75_2 := NB334_335.out
                        have hms75_3 := NB334_342.out
                        have hms75_4 := NB334_348.out
                        have hms75_5 := NB334_353.out
                        refine skip_ (w1 := ?_) (by rfl) rfl ?_ ?_
                        rotate_left
                        · go_simp
                          rfl
                        refine hK.out _ _ ⟨((cell_far (p := ⟨gb334, _, none⟩) NB348_334.out _).trans (((cell_far (p := ⟨gb334, _, none⟩) NB348_334.out _).trans (((cell_far (p := ⟨gb334, _, none⟩) NB348_334.out _).trans (hHeld.1)))))), ((cell_far (p := ⟨gb334, _, none⟩) NB348_334.out _).trans (((cell_far (p := ⟨gb334, _, none⟩) NB348_334.out _).trans (((cell_far (p := ⟨gb334, _, none⟩) NB348_334.out _).trans (hHeld.2.1)))))), ((cell_far (p := ⟨gb334, _, none⟩) NB348_334.out _).trans (((cell_far (p := ⟨gb334, _, none⟩) NB348_334.out _).trans (((cell_far (p := ⟨gb334, _, none⟩) NB348_334.out _).trans (hHeld.2.2.1)))))), ((cell_far (p := ⟨gb334, _, none⟩) NB353_334.out _).trans (((cell_far (p := ⟨gb334, _, none⟩) NB353_334.out _).trans (((cell_far (p := ⟨gb334, _, none⟩) NB353_334.out _).trans (hHeld.2.2.2.1)))))), ((cell_far (p := ⟨gb334, _, none⟩) NB353_334.out _).trans (((cell_far (p := ⟨gb334, _, none⟩) NB353_334.out _).trans (((cell_far (p := ⟨gb334, _, none⟩) NB353_334.out _).trans (hHeld.2.2.2.2.1)))))), ((cell_far (p := ⟨gb334, _, none⟩) NB353_334.out _).trans (((cell_far (p := ⟨gb334, _, none⟩) NB353_334.out _).trans (((cell_far (p := ⟨gb334, _, none⟩) NB353_334.out _).trans (hHeld.2.2.2.2.2))))))⟩ (fun hHeld => ?_)
                        clear hK K
                        refine one_ (i := 3) (N := none) #[true, true, true, true] rfl rfl (by kernel_rfl) (by decide) (fun K hK => ?_)
                        have hs76 : w72.cell? ⟨gb335, 0, none⟩ = some (.bool x336000_1) := (blk_cell BK335.out 0).trans rfl
                        have hfs76 := blk_frozen BK335.out 0
                        have hns76_0 := NB327_335.out
                        have hns76_1 := NB334_335.out
                        have hns76_3 := NB342_335.out
                        have hns76_4 := NB348_335.out
                        have hns76_5 := NB353_335.out
                        have hms76_0 := NB335_327.out
                        have hms76_1 := NB335_334.out
                        have hms76_3 := NB335_342.out
                        have hms76_4 := NB335_348.out
                        have hms76_5 := NB335_353.out
                        have hs77 : w72.cell? ⟨gb335, 1, none⟩ = some (.int .i64 x336001_1) := (blk_cell BK335.out 1).trans rfl
                        have hfs77 := blk_frozen BK335.out 1
                        have hns77_0 := NB327_335.out
                        have hns77_1 := NB334_335.out
                        have hns77_3 := NB342_335.out
                        have hns77_4 := NB348_335.out
                        have hns77_5 := NB353_335.out
                        have hms77_0 := NB335_327.out
                        have hms77_1 := NB335_334.out
                        have hms77_3 := NB335_342.out
                        have hms77_4 := NB335_348.out
                        have hms77_5 := NB335_353.out
                        have hs78 : w72.cell? ⟨gb335, 2, none⟩ = some (.int .i64 x336002_1) := (blk_cell BK335.out 2).trans rfl
                        have hfs78 := blk_frozen BK335.out 2
                        have hns78_0 := NB327_335.out
                        have hns78_1 := NB334_335.out
                        have hns78_3 := NB342_335.out
                        have hns78_4 := NB348_335.out
                        have hns78_5 := NB353_335.out
                        have hms78_0 := NB335_327.out
                        have hms78_1 := NB335_334.out
                        have hms78_3 := NB335_342.out
                        have hms78_4 := NB335_348.out
                        have hms78_5 := NB335_353.out
                        refine skip_ (w1 := ?_) (by rfl) rfl ?_ ?_
                        rotate_left
                        · go_simp
                          rfl
                        refine hK.out _ _ ⟨((cell_far (p := ⟨gb335, _, none⟩) NB348_335.out _).trans (((cell_far (p := ⟨gb335, _, none⟩) NB348_335.out _).trans (((cell_far (p := ⟨gb335, _, none⟩) NB348_335.out _).trans (hHeld.1)))))), ((cell_far (p := ⟨gb335, _, none⟩) NB348_335.out _).trans (((cell_far (p := ⟨gb335, _, none⟩) NB348_335.out _).trans (((cell_far (p := ⟨gb335, _, none⟩) NB348_335.out _).trans (hHeld.2.1)))))), ((cell_far (p := ⟨gb335, _, none⟩) NB348_335.out _).trans (((cell_far (p := ⟨gb335, _, none⟩) NB348_335.out _).trans (((cell_far (p := ⟨gb335, _, none⟩) NB348_335.out _).trans (hHeld.2.2.1)))))), ((cell_far (p := ⟨gb335, _, none⟩) NB353_335.out _).trans (((cell_far (p := ⟨gb335, _, none⟩) NB353_335.out _).trans (((cell_far (p := ⟨gb335, _, none⟩) NB353_335.out _).trans (hHeld.2.2.2.1)))))), ((cell_far (p := ⟨gb335, _, none⟩) NB353_335.out _).trans (((cell_far (p := ⟨gb335, _, none⟩) NB353_335.out _).trans (((cell_far (p := ⟨gb335, _, none⟩) NB353_335.out _).trans (hHeld.2.2.2.2.1)))))), ((cell_far (p := ⟨gb335, _, none⟩) NB353_335.out _).trans (((cell_far (p := ⟨gb335, _, none⟩) NB353_335.out _).trans (((cell_far (p := ⟨gb335, _, none⟩) NB353_335.out _).trans (hHeld.2.2.2.2.2))))))⟩ (fun hHeld => ?_)
                        clear hK K
                        refine done_ (by kernel_rfl) ?_
                        try go_wp2
                        go_roundg kj29
                        case measure => have := HK1.out; have := HJ29.out; omega
                        case rel => exact ⟨((wrap64 (x9_1 + ((rd_T48 t336 x27_1).f0)))), (wrap64 (x27_1 + 1)), (true), (t345), (t346), (true), (t350), (t351), (by first | rfl | (simp; done) | (simp [*]; done)), (by first | rfl | (simp; done) | (simp [*]; done)), H', ⟨by have := HK1.out; have := HJ29.out; omega⟩, ⟨by (with_reducible repeat (first | apply Kd.R_alloc | apply Kd.R_drewN | apply Kd.R_drew)); exact Kd.R_mono (Kd.R_far (p := ⟨gb335, 2, none⟩) (Kd.R_far (p := ⟨gb335, 1, none⟩) (Kd.R_far (p := ⟨gb335, 0, none⟩) (Kd.R_far (p := ⟨gb334, 2, none⟩) (Kd.R_far (p := ⟨gb334, 1, none⟩) (Kd.R_far (p := ⟨gb334, 0, none⟩) (Kd.R_types (Kd.R_types HO_25.out BK334.out (by decide)) BK335.out (by decide)) (fun _ hk => hk.1.2) (.bool true)) (fun _ hk => hk.1.2) (.int .i64 t345)) (fun _ hk => hk.1.2) (.int .i64 t346)) (fun _ hk => hk.2) (.bool true)) (fun _ hk => hk.2) (.int .i64 t350)) (fun _ hk => hk.2) (.int .i64 t351)) (fun _ hk => trivial)⟩, ⟨by (with_reducible repeat (first | refine blk_drewN ?_ _ | refine blk_drew ?_ | refine blk_alloc ?_ _)); refine blk_far ?_ NB327_335.out _; (with_reducible repeat (first | refine blk_drewN ?_ _ | refine blk_drew ?_ | refine blk_alloc ?_ _)); refine blk_far ?_ NB327_335.out _; (with_reducible repeat (first | refine blk_drewN ?_ _ | refine blk_drew ?_ | refine blk_alloc ?_ _)); refine blk_far ?_ NB327_335.out _; (with_reducible repeat (first | refine blk_drewN ?_ _ | refine blk_drew ?_ | refine blk_alloc ?_ _)); refine blk_far ?_ NB327_334.out _; (with_reducible repeat (first | refine blk_drewN ?_ _ | refine blk_drew ?_ | refine blk_alloc ?_ _)); refine blk_far ?_ NB327_334.out _; (with_reducible repeat (first | refine blk_drewN ?_ _ | refine blk_drew ?_ | refine blk_alloc ?_ _)); refine blk_far ?_ NB327_334.out _; (with_reducible repeat (first | refine blk_drewN ?_ _ | refine blk_drew ?_ | refine blk_alloc ?_ _)); exact BK327.out⟩, ⟨by (with_reducible repeat (first | refine blk_drewN ?_ _ | refine blk_drew ?_ | refine blk_alloc ?_ _)); refine blk_far ?_ NB334_335.out _; (with_reducible repeat (first | refine blk_drewN ?_ _ | refine blk_drew ?_ | refine blk_alloc ?_ _)); refine blk_far ?_ NB334_335.out _; (with_reducible repeat (first | refine blk_drewN ?_ _ | refine blk_drew ?_ | refine blk_alloc ?_ _)); refine blk_far ?_ NB334_335.out _; (with_reducible repeat (first | refine blk_drewN ?_ _ | refine blk_drew ?_ | refine blk_alloc ?_ _)); refine blk_put (cs := #[.bool true, .int .i64 t345, .int .i64 x335002_1]) ?_ 2 _ rfl; (with_reducible repeat (first | refine blk_drewN ?_ _ | refine blk_drew ?_ | refine blk_alloc ?_ _)); refine blk_put (cs := #[.bool true, .int .i64 x335001_1, .int .i64 x335002_1]) ?_ 1 _ rfl; (with_reducible repeat (first | refine blk_drewN ?_ _ | refine blk_drew ?_ | refine blk_alloc ?_ _)); refine blk_put (cs := #[.bool x335000_1, .int .i64 x335001_1, .int .i64 x335002_1]) ?_ 0 _ rfl; (with_reducible repeat (first | refine blk_drewN ?_ _ | refine blk_drew ?_ | refine blk_alloc ?_ _)); exact BK334.out⟩, ⟨by (with_reducible repeat (first | refine blk_drewN ?_ _ | refine blk_drew ?_ | refine blk_alloc ?_ _)); refine blk_put (cs := #[.bool true, .int .i64 t350, .int .i64 x336002_1]) ?_ 2 _ rfl; (with_reducible repeat (first | refine blk_drewN ?_ _ | refine blk_drew ?_ | refine blk_alloc ?_ _)); refine blk_put (cs := #[.bool true, .int .i64 x336001_1, .int .i64 x336002_1]) ?_ 1 _ rfl; (with_reducible repeat (first | refine blk_drewN ?_ _ | refine blk_drew ?_ | refine blk_alloc ?_ _)); refine blk_put (cs := #[.bool x336000_1, .int .i64 x336001_1, .int .i64 x336002_1]) ?_ 0 _ rfl; (with_reducible repeat (first | refine blk_drewN ?_ _ | refine blk_drew ?_ | refine blk_alloc ?_ _)); refine blk_far ?_ NB335_334.out _; (with_reducible repeat (first | refine blk_drewN ?_ _ | refine blk_drew ?_ | refine blk_alloc ?_ _)); refine blk_far ?_ NB335_334.out _; (with_reducible repeat (first | refine blk_drewN ?_ _ | refine blk_drew ?_ | refine blk_alloc ?_ _)); refine blk_far ?_ NB335_334.out _; (with_reducible repeat (first | refine blk_drewN ?_ _ | refine blk_drew ?_ | refine blk_alloc ?_ _)); exact BK335.out⟩, ⟨by repeat (first | (with_reducible first | exact HB.out | apply below_alloc | apply pw_below_drewN | apply below_drew1 | refine below_set ?_ GE327.out | refine below_set ?_ GE334.out | refine below_set ?_ GE335.out | refine below_set ?_ GE342.out | refine below_set ?_ GE348.out | refine below_set ?_ GE353.out) | exact HB.out)⟩⟩
                      · replace c42 := Bool.eq_false_iff.mpr c42
                        subst c42
                        have H1 : (some false) = some r := by rw [if_neg (show ¬ (false = true) by decide)] at H; exact H
                        clear H
                        have H := H1
                        clear H1
                        obtain rfl := Option.some.inj H
                        exact absurd hr_.out (by decide)
                    · replace c41 := Bool.eq_false_iff.mpr c41
                      subst c41
                      have H1 : (minecontrollaw17_LevelWider.l0 kj29 l1 (wrap64 (x9_1 + ((rd_T48 t336 x27_1).f0))) t336 (t336.length : Int) (wrap64 (x27_1 + 1)) t323 t324 t325 false t345 t346 t349 t350 t351) = some r := by rw [if_neg (show ¬ (false = true) by decide)] at H; exact H
                      clear H
                      have H := H1
                      clear H1
                      have H' := Aside0.mk H
                      clear H
                      have hnb79 := NB327_334.out
                      have hnc79 := NB334_327.out
                      have hnb80 := NB327_335.out
                      have hnc80 := NB335_327.out
                      have hnb81 := NB327_342.out
                      have hnc81 := NB342_327.out
                      have hcz82_0 : wc.cell? ⟨gb327, 0, none⟩ = some (.int .i64 t323) := (blk_cell BK327.out 0).trans rfl
                      have hcz82_1 : wc.cell? ⟨gb327, 1, none⟩ = some (.int .i64 t324) := (blk_cell BK327.out 1).trans rfl
                      have hcz82_2 : wc.cell? ⟨gb327, 2, none⟩ = some (.int .i64 t325) := (blk_cell BK327.out 2).trans rfl
                      have hfz82_0 := blk_frozen BK327.out 0
                      have hfz82_1 := blk_frozen BK327.out 1
                      have hfz82_2 := blk_frozen BK327.out 2
                      have hnb83 := NB334_335.out
                      have hnc83 := NB335_334.out
                      have hnb84 := NB334_342.out
                      have hnc84 := NB342_334.out
                      have hcz85_0 : wc.cell? ⟨gb334, 0, none⟩ = some (.bool x335000_1) := (blk_cell BK334.out 0).trans rfl
                      have hcz85_1 : wc.cell? ⟨gb334, 1, none⟩ = some (.int .i64 x335001_1) := (blk_cell BK334.out 1).trans rfl
                      have hcz85_2 : wc.cell? ⟨gb334, 2, none⟩ = some (.int .i64 x335002_1) := (blk_cell BK334.out 2).trans rfl
                      have hfz85_0 := blk_frozen BK334.out 0
                      have hfz85_1 := blk_frozen BK334.out 1
                      have hfz85_2 := blk_frozen BK334.out 2
                      have hnb86 := NB342_335.out
                      have hnc86 := NB335_342.out
                      have hcz87_0 : wc.cell? ⟨gb342, 0, none⟩ = some (.int .i64 ((rd_T48 t336 x27_1).f0)) := (blk_cell BK342.out 0).trans rfl
                      have hcz87_1 : wc.cell? ⟨gb342, 1, none⟩ = some (.int .i64 ((rd_T48 t336 x27_1).f1)) := (blk_cell BK342.out 1).trans rfl
                      have hcz87_2 : wc.cell? ⟨gb342, 2, none⟩ = some (.int .i64 ((rd_T48 t336 x27_1).f2)) := (blk_cell BK342.out 2).trans rfl
                      have hfz87_0 := blk_frozen BK342.out 0
                      have hfz87_1 := blk_frozen BK342.out 1
                      have hfz87_2 := blk_frozen BK342.out 2
                      try go_wp2_with (first | ((with_reducible refine gate_callee (f := 15) rfl ?_); refine goesL_ (some 54) rfl rfl Try.func15 (by kernel_rfl) rfl #[.agg #[.int .i64 t323, .int .i64 t324, .int .i64 t325], .agg #[.bool x335000_1, .int .i64 x335001_1, .int .i64 x335002_1], .agg #[.int .i64 ((rd_T48 t336 x27_1).f1), .int .i64 ((rd_T48 t336 x27_1).f2)], .int .i64 (wrap64 (x9_1 + ((rd_T48 t336 x27_1).f0)))] rfl (by (try simp only [List.map_toArray, List.map_cons, List.map_nil]); first | done | rfl | (simp only [List.length_drop, List.length_take]; rfl)) ?_; (with_reducible refine (level_Step.calls kj29 t323 t324 t325 x335000_1 x335001_1 x335002_1 ((rd_T48 t336 x27_1).f1) ((rd_T48 t336 x27_1).f2) (wrap64 (x9_1 + ((rd_T48 t336 x27_1).f0))) false t345 t346 t347 _ A37.out).mono ?_); rintro e w88 ⟨rfl, hb⟩; refine ⟨_, rfl, ?_⟩; have n0_ := Aside0.mk (Kd.R_below (by (with_reducible repeat (first | apply Kd.R_alloc | apply Kd.R_drewN | apply Kd.R_drew)); exact HO_25.out) hb); have n1_ := Aside0.mk (blk_below (g := gb327) (o := .cells #[.int .i64 t323, .int .i64 t324, .int .i64 t325] 24 (0, 0)) (by (with_reducible repeat (first | refine blk_drewN ?_ _ | refine blk_drew ?_ | refine blk_alloc ?_ _)); exact BK327.out) hb); have n2_ := Aside0.mk (blk_below (g := gb334) (o := .cells #[.bool x335000_1, .int .i64 x335001_1, .int .i64 x335002_1] 26 (0, 0)) (by (with_reducible repeat (first | refine blk_drewN ?_ _ | refine blk_drew ?_ | refine blk_alloc ?_ _)); exact BK334.out) hb); have n3_ := Aside0.mk (blk_below (g := gb335) (o := .cells #[.bool x336000_1, .int .i64 x336001_1, .int .i64 x336002_1] 26 (0, 0)) (by (with_reducible repeat (first | refine blk_drewN ?_ _ | refine blk_drew ?_ | refine blk_alloc ?_ _)); exact BK335.out) hb); have n4_ := Aside0.mk (blk_below (g := gb342) (o := .cells #[.int .i64 ((rd_T48 t336 x27_1).f0), .int .i64 ((rd_T48 t336 x27_1).f1), .int .i64 ((rd_T48 t336 x27_1).f2)] 48 (0, 0)) (by (with_reducible repeat (first | refine blk_drewN ?_ _ | refine blk_drew ?_ | refine blk_alloc ?_ _)); exact BK342.out) hb); have n5_ := Aside0.mk (below_step (by repeat (first | (with_reducible first | exact HB.out | apply below_alloc | apply pw_below_drewN | apply below_drew1 | refine below_set ?_ GE327.out | refine below_set ?_ GE334.out | refine below_set ?_ GE335.out | refine below_set ?_ GE342.out) | exact HB.out)) hb); clear HO_25; clear BK327; clear BK334; clear BK335; clear BK342; clear HB; have HO_25 := n0_; have BK327 := n1_; have BK334 := n2_; have BK335 := n3_; have BK342 := n4_; have HB := n5_; clear n0_ n1_ n2_ n3_ n4_ n5_; (try clear hb); (try clear hb2); (try clear hk); (try clear hi)) | ((with_reducible refine gate_dst (N := 13) rfl ?_); refine box_event ?hg (N := 13) ?hd (cs := #[.bool false, .int .i64 0, .int .i64 0]) (t := 26) ?hr ?_; (case hd => rfl); (case hg => rfl); (case hr => first | (go_simp; done) | (go_simp; rfl)); intro gb348 hg w89 hbox hb; have n0_ := Aside0.mk (Kd.R_below (by (with_reducible repeat (first | apply Kd.R_alloc | apply Kd.R_drewN | apply Kd.R_drew)); exact HO_25.out) hb); have n1_ := Aside0.mk (blk_below (g := gb327) (o := .cells #[.int .i64 t323, .int .i64 t324, .int .i64 t325] 24 (0, 0)) (by (with_reducible repeat (first | refine blk_drewN ?_ _ | refine blk_drew ?_ | refine blk_alloc ?_ _)); exact BK327.out) hb); have n2_ := Aside0.mk (blk_below (g := gb334) (o := .cells #[.bool x335000_1, .int .i64 x335001_1, .int .i64 x335002_1] 26 (0, 0)) (by (with_reducible repeat (first | refine blk_drewN ?_ _ | refine blk_drew ?_ | refine blk_alloc ?_ _)); exact BK334.out) hb); have n3_ := Aside0.mk (blk_below (g := gb335) (o := .cells #[.bool x336000_1, .int .i64 x336001_1, .int .i64 x336002_1] 26 (0, 0)) (by (with_reducible repeat (first | refine blk_drewN ?_ _ | refine blk_drew ?_ | refine blk_alloc ?_ _)); exact BK335.out) hb); have n4_ := Aside0.mk (blk_below (g := gb342) (o := .cells #[.int .i64 ((rd_T48 t336 x27_1).f0), .int .i64 ((rd_T48 t336 x27_1).f1), .int .i64 ((rd_T48 t336 x27_1).f2)] 48 (0, 0)) (by (with_reducible repeat (first | refine blk_drewN ?_ _ | refine blk_drew ?_ | refine blk_alloc ?_ _)); exact BK342.out) hb); have n5_ := Aside0.mk (below_step (by repeat (first | (with_reducible first | exact HB.out | apply below_alloc | apply pw_below_drewN | apply below_drew1 | refine below_set ?_ GE327.out | refine below_set ?_ GE334.out | refine below_set ?_ GE335.out | refine below_set ?_ GE342.out) | exact HB.out)) hb); have n6_ := Aside0.mk (hbox); have n7_ := Aside0.mk ((by rw [hg]; exact (below_size (by repeat (first | (with_reducible first | exact HB.out | apply below_alloc | apply pw_below_drewN | apply below_drew1 | refine below_set ?_ GE327.out | refine below_set ?_ GE334.out | refine below_set ?_ GE335.out | refine below_set ?_ GE342.out) | exact HB.out))) : w.heap.size ≤ gb348)); have n8_ := Aside0.mk ((by rw [hg]; exact (below_size (by repeat (first | (with_reducible first | exact HB.out | apply below_alloc | apply pw_below_drewN | apply below_drew1 | refine below_set ?_ GE327.out | refine below_set ?_ GE334.out | refine below_set ?_ GE335.out | refine below_set ?_ GE342.out) | exact HB.out))) : w.heap.size ≤ gb348)); have n9_ := Aside0.mk ((by rw [hg]; exact Nat.ne_of_lt (blk_lt (g := gb327) (o := .cells #[.int .i64 t323, .int .i64 t324, .int .i64 t325] 24 (0, 0)) (by (with_reducible repeat (first | refine blk_drewN ?_ _ | refine blk_drew ?_ | refine blk_alloc ?_ _)); exact BK327.out)) : gb327 ≠ gb348)); have n10_ := Aside0.mk ((by rw [hg]; exact Nat.ne_of_gt (blk_lt (g := gb327) (o := .cells #[.int .i64 t323, .int .i64 t324, .int .i64 t325] 24 (0, 0)) (by (with_reducible repeat (first | refine blk_drewN ?_ _ | refine blk_drew ?_ | refine blk_alloc ?_ _)); exact BK327.out)) : gb348 ≠ gb327)); have n11_ := Aside0.mk ((by rw [hg]; exact Nat.ne_of_lt (blk_lt (g := gb334) (o := .cells #[.bool x335000_1, .int .i64 x335001_1, .int .i64 x335002_1] 26 (0, 0)) (by (with_reducible repeat (first | refine blk_drewN ?_ _ | refine blk_drew ?_ | refine blk_alloc ?_ _)); exact BK334.out)) : gb334 ≠ gb348)); have n12_ := Aside0.mk ((by rw [hg]; exact Nat.ne_of_gt (blk_lt (g := gb334) (o := .cells #[.bool x335000_1, .int .i64 x335001_1, .int .i64 x335002_1] 26 (0, 0)) (by (with_reducible repeat (first | refine blk_drewN ?_ _ | refine blk_drew ?_ | refine blk_alloc ?_ _)); exact BK334.out)) : gb348 ≠ gb334)); have n13_ := Aside0.mk ((by rw [hg]; exact Nat.ne_of_lt (blk_lt (g := gb335) (o := .cells #[.bool x336000_1, .int .i64 x336001_1, .int .i64 x336002_1] 26 (0, 0)) (by (with_reducible repeat (first | refine blk_drewN ?_ _ | refine blk_drew ?_ | refine blk_alloc ?_ _)); exact BK335.out)) : gb335 ≠ gb348)); have n14_ := Aside0.mk ((by rw [hg]; exact Nat.ne_of_gt (blk_lt (g := gb335) (o := .cells #[.bool x336000_1, .int .i64 x336001_1, .int .i64 x336002_1] 26 (0, 0)) (by (with_reducible repeat (first | refine blk_drewN ?_ _ | refine blk_drew ?_ | refine blk_alloc ?_ _)); exact BK335.out)) : gb348 ≠ gb335)); have n15_ := Aside0.mk ((by rw [hg]; exact Nat.ne_of_lt (blk_lt (g := gb342) (o := .cells #[.int .i64 ((rd_T48 t336 x27_1).f0), .int .i64 ((rd_T48 t336 x27_1).f1), .int .i64 ((rd_T48 t336 x27_1).f2)] 48 (0, 0)) (by (with_reducible repeat (first | refine blk_drewN ?_ _ | refine blk_drew ?_ | refine blk_alloc ?_ _)); exact BK342.out)) : gb342 ≠ gb348)); have n16_ := Aside0.mk ((by rw [hg]; exact Nat.ne_of_gt (blk_lt (g := gb342) (o := .cells #[.int .i64 ((rd_T48 t336 x27_1).f0), .int .i64 ((rd_T48 t336 x27_1).f1), .int .i64 ((rd_T48 t336 x27_1).f2)] 48 (0, 0)) (by (with_reducible repeat (first | refine blk_drewN ?_ _ | refine blk_drew ?_ | refine blk_alloc ?_ _)); exact BK342.out)) : gb348 ≠ gb342)); clear HO_25; clear BK327; clear BK334; clear BK335; clear BK342; clear HB; have HO_25 := n0_; have BK327 := n1_; have BK334 := n2_; have BK335 := n3_; have BK342 := n4_; have HB := n5_; have BK348 := n6_; have GW348 := n7_; have GE348 := n8_; have NB327_348 := n9_; have NB348_327 := n10_; have NB334_348 := n11_; have NB348_334 := n12_; have NB335_348 := n13_; have NB348_335 := n14_; have NB342_348 := n15_; have NB348_342 := n16_; clear n0_ n1_ n2_ n3_ n4_ n5_ n6_ n7_ n8_ n9_ n10_ n11_ n12_ n13_ n14_ n15_ n16_; clear hb hbox hg; have hnb90 := NB348_327.out; have hnc90 := NB327_348.out; have hnb91 := NB348_334.out; have hnc91 := NB334_348.out; have hnb92 := NB348_335.out; have hnc92 := NB335_348.out; have hnb93 := NB348_342.out; have hnc93 := NB342_348.out; have hcz94_0 : w89.cell? ⟨gb348, 0, none⟩ = some (.bool false) := (blk_cell BK348.out 0).trans rfl; have hcz94_1 : w89.cell? ⟨gb348, 1, none⟩ = some (.int .i64 0) := (blk_cell BK348.out 1).trans rfl; have hcz94_2 : w89.cell? ⟨gb348, 2, none⟩ = some (.int .i64 0) := (blk_cell BK348.out 2).trans rfl; have hfz94_0 := blk_frozen BK348.out 0; have hfz94_1 := blk_frozen BK348.out 1; have hfz94_2 := blk_frozen BK348.out 2; have hcz95_0 : w89.cell? ⟨gb327, 0, none⟩ = some (.int .i64 t323) := (blk_cell BK327.out 0).trans rfl; have hcz95_1 : w89.cell? ⟨gb327, 1, none⟩ = some (.int .i64 t324) := (blk_cell BK327.out 1).trans rfl; have hcz95_2 : w89.cell? ⟨gb327, 2, none⟩ = some (.int .i64 t325) := (blk_cell BK327.out 2).trans rfl; have hfz95_0 := blk_frozen BK327.out 0; have hfz95_1 := blk_frozen BK327.out 1; have hfz95_2 := blk_frozen BK327.out 2; have hcz96_0 : w89.cell? ⟨gb335, 0, none⟩ = some (.bool x336000_1) := (blk_cell BK335.out 0).trans rfl; have hcz96_1 : w89.cell? ⟨gb335, 1, none⟩ = some (.int .i64 x336001_1) := (blk_cell BK335.out 1).trans rfl; have hcz96_2 : w89.cell? ⟨gb335, 2, none⟩ = some (.int .i64 x336002_1) := (blk_cell BK335.out 2).trans rfl; have hfz96_0 := blk_frozen BK335.out 0; have hfz96_1 := blk_frozen BK335.out 1; have hfz96_2 := blk_frozen BK335.out 2; have hcz97_0 : w89.cell? ⟨gb342, 0, none⟩ = some (.int .i64 ((rd_T48 t336 x27_1).f0)) := (blk_cell BK342.out 0).trans rfl; have hcz97_1 : w89.cell? ⟨gb342, 1, none⟩ = some (.int .i64 ((rd_T48 t336 x27_1).f1)) := (blk_cell BK342.out 1).trans rfl; have hcz97_2 : w89.cell? ⟨gb342, 2, none⟩ = some (.int .i64 ((rd_T48 t336 x27_1).f2)) := (blk_cell BK342.out 2).trans rfl; have hfz97_0 := blk_frozen BK342.out 0; have hfz97_1 := blk_frozen BK342.out 1; have hfz97_2 := blk_frozen BK342.out 2) | ((with_reducible refine gate_callee (f := 15) rfl ?_); refine goesL_ (some 70) rfl rfl Try.func15 (by kernel_rfl) rfl #[.agg #[.int .i64 t323, .int .i64 t324, .int .i64 t325], .agg #[.bool x336000_1, .int .i64 x336001_1, .int .i64 x336002_1], .agg #[.int .i64 (wrap64 (((rd_T48 t336 x27_1).f1) - x12_29)), .int .i64 (wrap64 (((rd_T48 t336 x27_1).f2) + x12_29))], .int .i64 (wrap64 (x9_1 + ((rd_T48 t336 x27_1).f0)))] rfl (by (try simp only [List.map_toArray, List.map_cons, List.map_nil]); first | done | rfl | (simp only [List.length_drop, List.length_take]; rfl)) ?_; (with_reducible refine (level_Step.calls kj29 t323 t324 t325 x336000_1 x336001_1 x336002_1 (wrap64 (((rd_T48 t336 x27_1).f1) - x12_29)) (wrap64 (((rd_T48 t336 x27_1).f2) + x12_29)) (wrap64 (x9_1 + ((rd_T48 t336 x27_1).f0))) t349 t350 t351 t352 _ A38.out).mono ?_); rintro e w98 ⟨rfl, hb⟩; refine ⟨_, rfl, ?_⟩; have n0_ := Aside0.mk (Kd.R_below (by (with_reducible repeat (first | apply Kd.R_alloc | apply Kd.R_drewN | apply Kd.R_drew)); exact (Kd.R_mono (Kd.R_far (p := ⟨gb348, 2, none⟩) (Kd.R_far (p := ⟨gb348, 1, none⟩) (Kd.R_far (p := ⟨gb348, 0, none⟩) (Kd.R_types HO_25.out BK348.out (by decide)) (fun _ hk => hk.2) (.bool false)) (fun _ hk => hk.2) (.int .i64 t345)) (fun _ hk => hk.2) (.int .i64 t346)) (fun _ h_ => h_.1))) hb); have n1_ := Aside0.mk (blk_below (g := gb327) (o := .cells #[.int .i64 t323, .int .i64 t324, .int .i64 t325] 24 (0, 0)) (by (with_reducible repeat (first | refine blk_drewN ?_ _ | refine blk_drew ?_ | refine blk_alloc ?_ _)); refine blk_far ?_ NB327_348.out _; (with_reducible repeat (first | refine blk_drewN ?_ _ | refine blk_drew ?_ | refine blk_alloc ?_ _)); refine blk_far ?_ NB327_348.out _; (with_reducible repeat (first | refine blk_drewN ?_ _ | refine blk_drew ?_ | refine blk_alloc ?_ _)); refine blk_far ?_ NB327_348.out _; (with_reducible repeat (first | refine blk_drewN ?_ _ | refine blk_drew ?_ | refine blk_alloc ?_ _)); exact BK327.out) hb); have n2_ := Aside0.mk (blk_below (g := gb334) (o := .cells #[.bool x335000_1, .int .i64 x335001_1, .int .i64 x335002_1] 26 (0, 0)) (by (with_reducible repeat (first | refine blk_drewN ?_ _ | refine blk_drew ?_ | refine blk_alloc ?_ _)); refine blk_far ?_ NB334_348.out _; (with_reducible repeat (first | refine blk_drewN ?_ _ | refine blk_drew ?_ | refine blk_alloc ?_ _)); refine blk_far ?_ NB334_348.out _; (with_reducible repeat (first | refine blk_drewN ?_ _ | refine blk_drew ?_ | refine blk_alloc ?_ _)); refine blk_far ?_ NB334_348.out _; (with_reducible repeat (first | refine blk_drewN ?_ _ | refine blk_drew ?_ | refine blk_alloc ?_ _)); exact BK334.out) hb); have n3_ := Aside0.mk (blk_below (g := gb335) (o := .cells #[.bool x336000_1, .int .i64 x336001_1, .int .i64 x336002_1] 26 (0, 0)) (by (with_reducible repeat (first | refine blk_drewN ?_ _ | refine blk_drew ?_ | refine blk_alloc ?_ _)); refine blk_far ?_ NB335_348.out _; (with_reducible repeat (first | refine blk_drewN ?_ _ | refine blk_drew ?_ | refine blk_alloc ?_ _)); refine blk_far ?_ NB335_348.out _; (with_reducible repeat (first | refine blk_drewN ?_ _ | refine blk_drew ?_ | refine blk_alloc ?_ _)); refine blk_far ?_ NB335_348.out _; (with_reducible repeat (first | refine blk_drewN ?_ _ | refine blk_drew ?_ | refine blk_alloc ?_ _)); exact BK335.out) hb); have n4_ := Aside0.mk (blk_below (g := gb342) (o := .cells #[.int .i64 ((rd_T48 t336 x27_1).f0), .int .i64 ((rd_T48 t336 x27_1).f1), .int .i64 ((rd_T48 t336 x27_1).f2)] 48 (0, 0)) (by (with_reducible repeat (first | refine blk_drewN ?_ _ | refine blk_drew ?_ | refine blk_alloc ?_ _)); refine blk_far ?_ NB342_348.out _; (with_reducible repeat (first | refine blk_drewN ?_ _ | refine blk_drew ?_ | refine blk_alloc ?_ _)); refine blk_far ?_ NB342_348.out _; (with_reducible repeat (first | refine blk_drewN ?_ _ | refine blk_drew ?_ | refine blk_alloc ?_ _)); refine blk_far ?_ NB342_348.out _; (with_reducible repeat (first | refine blk_drewN ?_ _ | refine blk_drew ?_ | refine blk_alloc ?_ _)); exact BK342.out) hb); have n5_ := Aside0.mk (blk_below (g := gb348) (o := .cells #[.bool false, .int .i64 t345, .int .i64 t346] 26 (0, 0)) (by (with_reducible repeat (first | refine blk_drewN ?_ _ | refine blk_drew ?_ | refine blk_alloc ?_ _)); refine blk_put (cs := #[.bool false, .int .i64 t345, .int .i64 0]) ?_ 2 _ rfl; (with_reducible repeat (first | refine blk_drewN ?_ _ | refine blk_drew ?_ | refine blk_alloc ?_ _)); refine blk_put (cs := #[.bool false, .int .i64 0, .int .i64 0]) ?_ 1 _ rfl; (with_reducible repeat (first | refine blk_drewN ?_ _ | refine blk_drew ?_ | refine blk_alloc ?_ _)); refine blk_put (cs := #[.bool false, .int .i64 0, .int .i64 0]) ?_ 0 _ rfl; (with_reducible repeat (first | refine blk_drewN ?_ _ | refine blk_drew ?_ | refine blk_alloc ?_ _)); exact BK348.out) hb); have n6_ := Aside0.mk (below_step (by repeat (first | (with_reducible first | exact HB.out | apply below_alloc | apply pw_below_drewN | apply below_drew1 | refine below_set ?_ GE327.out | refine below_set ?_ GE334.out | refine below_set ?_ GE335.out | refine below_set ?_ GE342.out | refine below_set ?_ GE348.out) | exact HB.out)) hb); clear HO_25; clear BK327; clear BK334; clear BK335; clear BK342; clear BK348; clear HB; have HO_25 := n0_; have BK327 := n1_; have BK334 := n2_; have BK335 := n3_; have BK342 := n4_; have BK348 := n5_; have HB := n6_; clear n0_ n1_ n2_ n3_ n4_ n5_ n6_; (try clear hb); (try clear hb2); (try clear hk); (try clear hi)) | ((with_reducible refine gate_dst (N := 15) rfl ?_); refine box_event ?hg (N := 15) ?hd (cs := #[.bool false, .int .i64 0, .int .i64 0]) (t := 26) ?hr ?_; (case hd => rfl); (case hg => rfl); (case hr => first | (go_simp; done) | (go_simp; rfl)); intro gb353 hg w99 hbox hb; have n0_ := Aside0.mk (Kd.R_below (by (with_reducible repeat (first | apply Kd.R_alloc | apply Kd.R_drewN | apply Kd.R_drew)); exact HO_25.out) hb); have n1_ := Aside0.mk (blk_below (g := gb327) (o := .cells #[.int .i64 t323, .int .i64 t324, .int .i64 t325] 24 (0, 0)) (by (with_reducible repeat (first | refine blk_drewN ?_ _ | refine blk_drew ?_ | refine blk_alloc ?_ _)); exact BK327.out) hb); have n2_ := Aside0.mk (blk_below (g := gb334) (o := .cells #[.bool x335000_1, .int .i64 x335001_1, .int .i64 x335002_1] 26 (0, 0)) (by (with_reducible repeat (first | refine blk_drewN ?_ _ | refine blk_drew ?_ | refine blk_alloc ?_ _)); exact BK334.out) hb); have n3_ := Aside0.mk (blk_below (g := gb335) (o := .cells #[.bool x336000_1, .int .i64 x336001_1, .int .i64 x336002_1] 26 (0, 0)) (by (with_reducible repeat (first | refine blk_drewN ?_ _ | refine blk_drew ?_ | refine blk_alloc ?_ _)); exact BK335.out) hb); have n4_ := Aside0.mk (blk_below (g := gb342) (o := .cells #[.int .i64 ((rd_T48 t336 x27_1).f0), .int .i64 ((rd_T48 t336 x27_1).f1), .int .i64 ((rd_T48 t336 x27_1).f2)] 48 (0, 0)) (by (with_reducible repeat (first | refine blk_drewN ?_ _ | refine blk_drew ?_ | refine blk_alloc ?_ _)); exact BK342.out) hb); have n5_ := Aside0.mk (blk_below (g := gb348) (o := .cells #[.bool false, .int .i64 t345, .int .i64 t346] 26 (0, 0)) (by (with_reducible repeat (first | refine blk_drewN ?_ _ | refine blk_drew ?_ | refine blk_alloc ?_ _)); exact BK348.out) hb); have n6_ := Aside0.mk (below_step (by repeat (first | (with_reducible first | exact HB.out | apply below_alloc | apply pw_below_drewN | apply below_drew1 | refine below_set ?_ GE327.out | refine below_set ?_ GE334.out | refine below_set ?_ GE335.out | refine below_set ?_ GE342.out | refine below_set ?_ GE348.out) | exact HB.out)) hb); have n7_ := Aside0.mk (hbox); have n8_ := Aside0.mk ((by rw [hg]; exact (below_size (by repeat (first | (with_reducible first | exact HB.out | apply below_alloc | apply pw_below_drewN | apply below_drew1 | refine below_set ?_ GE327.out | refine below_set ?_ GE334.out | refine below_set ?_ GE335.out | refine below_set ?_ GE342.out | refine below_set ?_ GE348.out) | exact HB.out))) : w.heap.size ≤ gb353)); have n9_ := Aside0.mk ((by rw [hg]; exact (below_size (by repeat (first | (with_reducible first | exact HB.out | apply below_alloc | apply pw_below_drewN | apply below_drew1 | refine below_set ?_ GE327.out | refine below_set ?_ GE334.out | refine below_set ?_ GE335.out | refine below_set ?_ GE342.out | refine below_set ?_ GE348.out) | exact HB.out))) : w.heap.size ≤ gb353)); have n10_ := Aside0.mk ((by rw [hg]; exact Nat.ne_of_lt (blk_lt (g := gb327) (o := .cells #[.int .i64 t323, .int .i64 t324, .int .i64 t325] 24 (0, 0)) (by (with_reducible repeat (first | refine blk_drewN ?_ _ | refine blk_drew ?_ | refine blk_alloc ?_ _)); exact BK327.out)) : gb327 ≠ gb353)); have n11_ := Aside0.mk ((by rw [hg]; exact Nat.ne_of_gt (blk_lt (g := gb327) (o := .cells #[.int .i64 t323, .int .i64 t324, .int .i64 t325] 24 (0, 0)) (by (with_reducible repeat (first | refine blk_drewN ?_ _ | refine blk_drew ?_ | refine blk_alloc ?_ _)); exact BK327.out)) : gb353 ≠ gb327)); have n12_ := Aside0.mk ((by rw [hg]; exact Nat.ne_of_lt (blk_lt (g := gb334) (o := .cells #[.bool x335000_1, .int .i64 x335001_1, .int .i64 x335002_1] 26 (0, 0)) (by (with_reducible repeat (first | refine blk_drewN ?_ _ | refine blk_drew ?_ | refine blk_alloc ?_ _)); exact BK334.out)) : gb334 ≠ gb353)); have n13_ := Aside0.mk ((by rw [hg]; exact Nat.ne_of_gt (blk_lt (g := gb334) (o := .cells #[.bool x335000_1, .int .i64 x335001_1, .int .i64 x335002_1] 26 (0, 0)) (by (with_reducible repeat (first | refine blk_drewN ?_ _ | refine blk_drew ?_ | refine blk_alloc ?_ _)); exact BK334.out)) : gb353 ≠ gb334)); have n14_ := Aside0.mk ((by rw [hg]; exact Nat.ne_of_lt (blk_lt (g := gb335) (o := .cells #[.bool x336000_1, .int .i64 x336001_1, .int .i64 x336002_1] 26 (0, 0)) (by (with_reducible repeat (first | refine blk_drewN ?_ _ | refine blk_drew ?_ | refine blk_alloc ?_ _)); exact BK335.out)) : gb335 ≠ gb353)); have n15_ := Aside0.mk ((by rw [hg]; exact Nat.ne_of_gt (blk_lt (g := gb335) (o := .cells #[.bool x336000_1, .int .i64 x336001_1, .int .i64 x336002_1] 26 (0, 0)) (by (with_reducible repeat (first | refine blk_drewN ?_ _ | refine blk_drew ?_ | refine blk_alloc ?_ _)); exact BK335.out)) : gb353 ≠ gb335)); have n16_ := Aside0.mk ((by rw [hg]; exact Nat.ne_of_lt (blk_lt (g := gb342) (o := .cells #[.int .i64 ((rd_T48 t336 x27_1).f0), .int .i64 ((rd_T48 t336 x27_1).f1), .int .i64 ((rd_T48 t336 x27_1).f2)] 48 (0, 0)) (by (with_reducible repeat (first | refine blk_drewN ?_ _ | refine blk_drew ?_ | refine blk_alloc ?_ _)); exact BK342.out)) : gb342 ≠ gb353)); have n17_ := Aside0.mk ((by rw [hg]; exact Nat.ne_of_gt (blk_lt (g := gb342) (o := .cells #[.int .i64 ((rd_T48 t336 x27_1).f0), .int .i64 ((rd_T48 t336 x27_1).f1), .int .i64 ((rd_T48 t336 x27_1).f2)] 48 (0, 0)) (by (with_reducible repeat (first | refine blk_drewN ?_ _ | refine blk_drew ?_ | refine blk_alloc ?_ _)); exact BK342.out)) : gb353 ≠ gb342)); have n18_ := Aside0.mk ((by rw [hg]; exact Nat.ne_of_lt (blk_lt (g := gb348) (o := .cells #[.bool false, .int .i64 t345, .int .i64 t346] 26 (0, 0)) (by (with_reducible repeat (first | refine blk_drewN ?_ _ | refine blk_drew ?_ | refine blk_alloc ?_ _)); exact BK348.out)) : gb348 ≠ gb353)); have n19_ := Aside0.mk ((by rw [hg]; exact Nat.ne_of_gt (blk_lt (g := gb348) (o := .cells #[.bool false, .int .i64 t345, .int .i64 t346] 26 (0, 0)) (by (with_reducible repeat (first | refine blk_drewN ?_ _ | refine blk_drew ?_ | refine blk_alloc ?_ _)); exact BK348.out)) : gb353 ≠ gb348)); clear HO_25; clear BK327; clear BK334; clear BK335; clear BK342; clear BK348; clear HB; have HO_25 := n0_; have BK327 := n1_; have BK334 := n2_; have BK335 := n3_; have BK342 := n4_; have BK348 := n5_; have HB := n6_; have BK353 := n7_; have GW353 := n8_; have GE353 := n9_; have NB327_353 := n10_; have NB353_327 := n11_; have NB334_353 := n12_; have NB353_334 := n13_; have NB335_353 := n14_; have NB353_335 := n15_; have NB342_353 := n16_; have NB353_342 := n17_; have NB348_353 := n18_; have NB353_348 := n19_; clear n0_ n1_ n2_ n3_ n4_ n5_ n6_ n7_ n8_ n9_ n10_ n11_ n12_ n13_ n14_ n15_ n16_ n17_ n18_ n19_; clear hb hbox hg; have hnb100 := NB353_327.out; have hnc100 := NB327_353.out; have hnb101 := NB353_334.out; have hnc101 := NB334_353.out; have hnb102 := NB353_335.out; have hnc102 := NB335_353.out; have hnb103 := NB353_342.out; have hnc103 := NB342_353.out; have hnb104 := NB353_348.out; have hnc104 := NB348_353.out; have hcz105_0 : w99.cell? ⟨gb353, 0, none⟩ = some (.bool false) := (blk_cell BK353.out 0).trans rfl; have hcz105_1 : w99.cell? ⟨gb353, 1, none⟩ = some (.int .i64 0) := (blk_cell BK353.out 1).trans rfl; have hcz105_2 : w99.cell? ⟨gb353, 2, none⟩ = some (.int .i64 0) := (blk_cell BK353.out 2).trans rfl; have hfz105_0 := blk_frozen BK353.out 0; have hfz105_1 := blk_frozen BK353.out 1; have hfz105_2 := blk_frozen BK353.out 2; have hcz106_0 : w99.cell? ⟨gb348, 0, none⟩ = some (.bool false) := (blk_cell BK348.out 0).trans rfl; have hcz106_1 : w99.cell? ⟨gb348, 1, none⟩ = some (.int .i64 t345) := (blk_cell BK348.out 1).trans rfl; have hcz106_2 : w99.cell? ⟨gb348, 2, none⟩ = some (.int .i64 t346) := (blk_cell BK348.out 2).trans rfl; have hfz106_0 := blk_frozen BK348.out 0; have hfz106_1 := blk_frozen BK348.out 1; have hfz106_2 := blk_frozen BK348.out 2))
                      have n0_ : Aside0 (Kd.R k48 48 (((w99.setCell ⟨gb353, 0, none⟩ (.bool t349)).setCell ⟨gb353, 1, none⟩ (.int .i64 t350)).setCell ⟨gb353, 2, none⟩ (.int .i64 t351)) w.heap.size (fun k_ => k_ ≠ gb342) (.slice (some ad341) t336.length co26) t336) := ⟨by (with_reducible repeat (first | apply Kd.R_alloc | apply Kd.R_drewN | apply Kd.R_drew)); exact Kd.R_mono (Kd.R_far (p := ⟨gb353, 2, none⟩) (Kd.R_far (p := ⟨gb353, 1, none⟩) (Kd.R_far (p := ⟨gb353, 0, none⟩) (Kd.R_types HO_25.out BK353.out (by decide)) (fun _ hk => hk.2) (.bool t349)) (fun _ hk => hk.2) (.int .i64 t350)) (fun _ hk => hk.2) (.int .i64 t351)) (fun _ hk => hk.1)⟩
                      have n1_ : Aside0 ((((w99.setCell ⟨gb353, 0, none⟩ (.bool t349)).setCell ⟨gb353, 1, none⟩ (.int .i64 t350)).setCell ⟨gb353, 2, none⟩ (.int .i64 t351)).heap[gb327]? = some (.cells #[.int .i64 t323, .int .i64 t324, .int .i64 t325] 24 (0, 0))) := ⟨by (with_reducible repeat (first | refine blk_drewN ?_ _ | refine blk_drew ?_ | refine blk_alloc ?_ _)); refine blk_far ?_ NB327_353.out _; (with_reducible repeat (first | refine blk_drewN ?_ _ | refine blk_drew ?_ | refine blk_alloc ?_ _)); refine blk_far ?_ NB327_353.out _; (with_reducible repeat (first | refine blk_drewN ?_ _ | refine blk_drew ?_ | refine blk_alloc ?_ _)); refine blk_far ?_ NB327_353.out _; (with_reducible repeat (first | refine blk_drewN ?_ _ | refine blk_drew ?_ | refine blk_alloc ?_ _)); exact BK327.out⟩
                      have n2_ : Aside0 ((((w99.setCell ⟨gb353, 0, none⟩ (.bool t349)).setCell ⟨gb353, 1, none⟩ (.int .i64 t350)).setCell ⟨gb353, 2, none⟩ (.int .i64 t351)).heap[gb334]? = some (.cells #[.bool x335000_1, .int .i64 x335001_1, .int .i64 x335002_1] 26 (0, 0))) := ⟨by (with_reducible repeat (first | refine blk_drewN ?_ _ | refine blk_drew ?_ | refine blk_alloc ?_ _)); refine blk_far ?_ NB334_353.out _; (with_reducible repeat (first | refine blk_drewN ?_ _ | refine blk_drew ?_ | refine blk_alloc ?_ _)); refine blk_far ?_ NB334_353.out _; (with_reducible repeat (first | refine blk_drewN ?_ _ | refine blk_drew ?_ | refine blk_alloc ?_ _)); refine blk_far ?_ NB334_353.out _; (with_reducible repeat (first | refine blk_drewN ?_ _ | refine blk_drew ?_ | refine blk_alloc ?_ _)); exact BK334.out⟩
                      have n3_ : Aside0 ((((w99.setCell ⟨gb353, 0, none⟩ (.bool t349)).setCell ⟨gb353, 1, none⟩ (.int .i64 t350)).setCell ⟨gb353, 2, none⟩ (.int .i64 t351)).heap[gb335]? = some (.cells #[.bool x336000_1, .int .i64 x336001_1, .int .i64 x336002_1] 26 (0, 0))) := ⟨by (with_reducible repeat (first | refine blk_drewN ?_ _ | refine blk_drew ?_ | refine blk_alloc ?_ _)); refine blk_far ?_ NB335_353.out _; (with_reducible repeat (first | refine blk_drewN ?_ _ | refine blk_drew ?_ | refine blk_alloc ?_ _)); refine blk_far ?_ NB335_353.out _; (with_reducible repeat (first | refine blk_drewN ?_ _ | refine blk_drew ?_ | refine blk_alloc ?_ _)); refine blk_far ?_ NB335_353.out _; (with_reducible repeat (first | refine blk_drewN ?_ _ | refine blk_drew ?_ | refine blk_alloc ?_ _)); exact BK335.out⟩
                      have n4_ : Aside0 ((((w99.setCell ⟨gb353, 0, none⟩ (.bool t349)).setCell ⟨gb353, 1, none⟩ (.int .i64 t350)).setCell ⟨gb353, 2, none⟩ (.int .i64 t351)).heap[gb342]? = some (.cells #[.int .i64 ((rd_T48 t336 x27_1).f0), .int .i64 ((rd_T48 t336 x27_1).f1), .int .i64 ((rd_T48 t336 x27_1).f2)] 48 (0, 0))) := ⟨by (with_reducible repeat (first | refine blk_drewN ?_ _ | refine blk_drew ?_ | refine blk_alloc ?_ _)); refine blk_far ?_ NB342_353.out _; (with_reducible repeat (first | refine blk_drewN ?_ _ | refine blk_drew ?_ | refine blk_alloc ?_ _)); refine blk_far ?_ NB342_353.out _; (with_reducible repeat (first | refine blk_drewN ?_ _ | refine blk_drew ?_ | refine blk_alloc ?_ _)); refine blk_far ?_ NB342_353.out _; (with_reducible repeat (first | refine blk_drewN ?_ _ | refine blk_drew ?_ | refine blk_alloc ?_ _)); exact BK342.out⟩
                      have n5_ : Aside0 ((((w99.setCell ⟨gb353, 0, none⟩ (.bool t349)).setCell ⟨gb353, 1, none⟩ (.int .i64 t350)).setCell ⟨gb353, 2, none⟩ (.int .i64 t351)).heap[gb348]? = some (.cells #[.bool false, .int .i64 t345, .int .i64 t346] 26 (0, 0))) := ⟨by (with_reducible repeat (first | refine blk_drewN ?_ _ | refine blk_drew ?_ | refine blk_alloc ?_ _)); refine blk_far ?_ NB348_353.out _; (with_reducible repeat (first | refine blk_drewN ?_ _ | refine blk_drew ?_ | refine blk_alloc ?_ _)); refine blk_far ?_ NB348_353.out _; (with_reducible repeat (first | refine blk_drewN ?_ _ | refine blk_drew ?_ | refine blk_alloc ?_ _)); refine blk_far ?_ NB348_353.out _; (with_reducible repeat (first | refine blk_drewN ?_ _ | refine blk_drew ?_ | refine blk_alloc ?_ _)); exact BK348.out⟩
                      have n6_ : Aside0 ((((w99.setCell ⟨gb353, 0, none⟩ (.bool t349)).setCell ⟨gb353, 1, none⟩ (.int .i64 t350)).setCell ⟨gb353, 2, none⟩ (.int .i64 t351)).heap[gb353]? = some (.cells #[.bool t349, .int .i64 t350, .int .i64 t351] 26 (0, 0))) := ⟨by (with_reducible repeat (first | refine blk_drewN ?_ _ | refine blk_drew ?_ | refine blk_alloc ?_ _)); refine blk_put (cs := #[.bool t349, .int .i64 t350, .int .i64 0]) ?_ 2 _ rfl; (with_reducible repeat (first | refine blk_drewN ?_ _ | refine blk_drew ?_ | refine blk_alloc ?_ _)); refine blk_put (cs := #[.bool t349, .int .i64 0, .int .i64 0]) ?_ 1 _ rfl; (with_reducible repeat (first | refine blk_drewN ?_ _ | refine blk_drew ?_ | refine blk_alloc ?_ _)); refine blk_put (cs := #[.bool false, .int .i64 0, .int .i64 0]) ?_ 0 _ rfl; (with_reducible repeat (first | refine blk_drewN ?_ _ | refine blk_drew ?_ | refine blk_alloc ?_ _)); exact BK353.out⟩
                      have n7_ : Aside0 (Below w.heap.size w (((w99.setCell ⟨gb353, 0, none⟩ (.bool t349)).setCell ⟨gb353, 1, none⟩ (.int .i64 t350)).setCell ⟨gb353, 2, none⟩ (.int .i64 t351))) := ⟨by repeat (first | (with_reducible first | exact HB.out | apply below_alloc | apply pw_below_drewN | apply below_drew1 | refine below_set ?_ GE327.out | refine below_set ?_ GE334.out | refine below_set ?_ GE335.out | refine below_set ?_ GE342.out | refine below_set ?_ GE348.out | refine below_set ?_ GE353.out) | exact HB.out)⟩
                      (try clear HO_25)
                      (try clear BK327)
                      (try clear BK334)
                      (try clear BK335)
                      (try clear BK342)
                      (try clear BK348)
                      (try clear BK353)
                      (try clear HB)
                      generalize (((w99.setCell ⟨gb353, 0, none⟩ (.bool t349)).setCell ⟨gb353, 1, none⟩ (.int .i64 t350)).setCell ⟨gb353, 2, none⟩ (.int .i64 t351)) = w107 at n0_ n1_ n2_ n3_ n4_ n5_ n6_ n7_ ⊢
                      have HO_25 := n0_
                      have BK327 := n1_
                      have BK334 := n2_
                      have BK335 := n3_
                      have BK342 := n4_
                      have BK348 := n5_
                      have BK353 := n6_
                      have HB := n7_
                      clear n0_ n1_ n2_ n3_ n4_ n5_ n6_ n7_
                      have n0_ := Aside0.mk (Kd.R_drew HO_25.out)
                      have n1_ := Aside0.mk (blk_drew BK327.out)
                      have n2_ := Aside0.mk (blk_drew BK334.out)
                      have n3_ := Aside0.mk (blk_drew BK335.out)
                      have n4_ := Aside0.mk (blk_drew BK342.out)
                      have n5_ := Aside0.mk (blk_drew BK348.out)
                      have n6_ := Aside0.mk (blk_drew BK353.out)
                      have n7_ := Aside0.mk (below_drew1 HB.out)
                      clear HO_25
                      clear BK327
                      clear BK334
                      clear BK335
                      clear BK342
                      clear BK348
                      clear BK353
                      clear HB
                      have HO_25 := n0_
                      have BK327 := n1_
                      have BK334 := n2_
                      have BK335 := n3_
                      have BK342 := n4_
                      have BK348 := n5_
                      have BK353 := n6_
                      have HB := n7_
                      clear n0_ n1_ n2_ n3_ n4_ n5_ n6_ n7_
                      refine start_ (n := 4) (S := fun w' => w'.cell? ⟨gb348, 0, none⟩ = some (.bool false) ∧ w'.cell? ⟨gb348, 1, none⟩ = some (.int .i64 t345) ∧ w'.cell? ⟨gb348, 2, none⟩ = some (.int .i64 t346) ∧ w'.cell? ⟨gb353, 0, none⟩ = some (.bool t349) ∧ w'.cell? ⟨gb353, 1, none⟩ = some (.int .i64 t350) ∧ w'.cell? ⟨gb353, 2, none⟩ = some (.int .i64 t351)) (ds := []) #[false, false, false, false] (by kernel_rfl) rfl rfl ⟨(blk_cell BK348.out 0).trans rfl, (blk_cell BK348.out 1).trans rfl, (blk_cell BK348.out 2).trans rfl, (blk_cell BK353.out 0).trans rfl, (blk_cell BK353.out 1).trans rfl, (blk_cell BK353.out 2).trans rfl⟩ (fun hHeld => ?_)
                      generalize w107.drew = w108 at HO_25 BK327 BK334 BK335 BK342 BK348 BK353 HB hHeld ⊢
                      refine take_ (i := 0) (N := some 88) (v := ?_) (a' := ?_) #[true, false, false, false] rfl rfl (by kernel_rfl) (fun _ _ _ h => h) (Or.inl ⟨by rfl, ?_⟩) hHeld ?_ ?_
                      rotate_left
                      · rintro w' ⟨s0, s1, s2, s3, s4, s5⟩
                        go_simp
                        with_reducible rfl
                      rotate_left
                      · simp only [Act.put, List.setIfInBounds_toArray, List.set_cons_zero, List.set_cons_succ, i64_w, i32_w]
                        rfl
                      refine take_ (i := 1) (N := some 89) (v := ?_) (a' := ?_) #[true, true, false, false] rfl rfl (by kernel_rfl) (fun _ _ _ h => h) (Or.inl ⟨by rfl, ?_⟩) hHeld ?_ ?_
                      rotate_left
                      · rintro w' ⟨s0, s1, s2, s3, s4, s5⟩
                        go_simp
                        with_reducible rfl
                      rotate_left
                      · simp only [Act.put, List.setIfInBounds_toArray, List.set_cons_zero, List.set_cons_succ, i64_w, i32_w]
                        rfl
                      refine one_ (i := 2) (N := none) #[true, true, true, false] rfl rfl (by kernel_rfl) (by decide) (fun K hK => ?_)
                      have hs109 : w108.cell? ⟨gb334, 0, none⟩ = some (.bool x335000_1) := (blk_cell BK334.out 0).trans rfl
                      have hfs109 := blk_frozen BK334.out 0
                      have hns109_0 := NB327_334.out
                      have hns109_2 := NB335_334.out
                      have hns109_3 := NB342_334.out
                      have hns109_4 := NB348_334.out
                      have hns109_5 := NB353_334.out
                      have hms109_0 := NB334_327.out
                      have hms109_2 := NB334_335.out
                      have hms109_3 := NB334_342.out
                      have hms109_4 := NB334_348.out
                      have hms109_5 := NB334_353.out
                      have hs110 : w108.cell? ⟨gb334, 1, none⟩ = some (.int .i64 x335001_1) := (blk_cell BK334.out 1).trans rfl
                      have hfs110 := blk_frozen BK334.out 1
                      have hns110_0 := NB327_334.out
                      have hns110_2 := NB335_334.out
                      have hns110_3 := NB342_334.out
                      have hns110_4 := NB348_334.out
                      have hns110_5 := NB353_334.out
                      have hms110_0 := NB334_327.out
                      have hms110_2 := NB334_335.out
                      have hms110_3 := NB334_342.out
                      have hms110_4 := NB334_348.out
                      have hms110_5 := NB334_353.out
                      have hs111 : w108.cell? ⟨gb334, 2, none⟩ = some (.int .i64 x335002_1) := (blk_cell BK334.out 2).trans rfl
                      have hfs111 := blk_frozen BK334.out 2
                      have hns111_0 := NB327_334.out
                      have hns111_2 := NB335_334.out
                      have hns111_3 := NB342_334.out
                      have hns111_4 := NB348_334.out
                      have hns111_5 := NB353_334.out
                      have hms111_0 := NB334_327.out
                      have hms111_2 := NB334_335.out
                      have hms111_3 := NB334_342.out
                      have hms111_4 := NB334_348.out
                      have hms111_5 := NB334_353.out
                      refine skip_ (w1 := ?_) (by rfl) rfl ?_ ?_
                      rotate_left
                      · go_simp
                        rfl
                      refine hK.out _ _ ⟨((cell_far (p := ⟨gb334, _, none⟩) NB348_334.out _).trans (((cell_far (p := ⟨gb334, _, none⟩) NB348_334.out _).trans (((cell_far (p := ⟨gb334, _, none⟩) NB348_334.out _).trans (hHeld.1)))))), ((cell_far (p := ⟨gb334, _, none⟩) NB348_334.out _).trans (((cell_far (p := ⟨gb334, _, none⟩) NB348_334.out _).trans (((cell_far (p := ⟨gb334, _, none⟩) NB348_334.out _).trans (hHeld.2.1)))))), ((cell_far (p := ⟨gb334, _, none⟩) NB348_334.out _).trans (((cell_far (p := ⟨gb334, _, none⟩) NB348_334.out _).trans (((cell_far (p := ⟨gb334, _, none⟩) NB348_334.out _).trans (hHeld.2.2.1)))))), ((cell_far (p := ⟨gb334, _, none⟩) NB353_334.out _).trans (((cell_far (p := ⟨gb334, _, none⟩) NB353_334.out _).trans (((cell_far (p := ⟨gb334, _, none⟩) NB353_334.out _).trans (hHeld.2.2.2.1)))))), ((cell_far (p := ⟨gb334, _, none⟩) NB353_334.out _).trans (((cell_far (p := ⟨gb334, _, none⟩) NB353_334.out _).trans (((cell_far (p := ⟨gb334, _, none⟩) NB353_334.out _).trans (hHeld.2.2.2.2.1)))))), ((cell_far (p := ⟨gb334, _, none⟩) NB353_334.out _).trans (((cell_far (p := ⟨gb334, _, none⟩) NB353_334.out _).trans (((cell_far (p := ⟨gb334, _, none⟩) NB353_334.out _).trans (hHeld.2.2.2.2.2))))))⟩ (fun hHeld => ?_)
                      clear hK K
                      refine one_ (i := 3) (N := none) #[true, true, true, true] rfl rfl (by kernel_rfl) (by decide) (fun K hK => ?_)
                      have hs112 : w108.cell? ⟨gb335, 0, none⟩ = some (.bool x336000_1) := (blk_cell BK335.out 0).trans rfl
                      have hfs112 := blk_frozen BK335.out 0
                      have hns112_0 := NB327_335.out
                      have hns112_1 := NB334_335.out
                      have hns112_3 := NB342_335.out
                      have hns112_4 := NB348_335.out
                      have hns112_5 := NB353_335.out
                      have hms112_0 := NB335_327.out
                      have hms112_1 := NB335_334.out
                      have hms112_3 := NB335_342.out
                      have hms112_4 := NB335_348.out
                      have hms112_5 := NB335_353.out
                      have hs113 : w108.cell? ⟨gb335, 1, none⟩ = some (.int .i64 x336001_1) := (blk_cell BK335.out 1).trans rfl
                      have hfs113 := blk_frozen BK335.out 1
                      have hns113_0 := NB327_335.out
                      have hns113_1 := NB334_335.out
                      have hns113_3 := NB342_335.out
                      have hns113_4 := NB348_335.out
                      have hns113_5 := NB353_335.out
                      have hms113_0 := NB335_327.out
                      have hms113_1 := NB335_334.out
                      have hms113_3 := NB335_342.out
                      have hms113_4 := NB335_348.out
                      have hms113_5 := NB335_353.out
                      have hs114 : w108.cell? ⟨gb335, 2, none⟩ = some (.int .i64 x336002_1) := (blk_cell BK335.out 2).trans rfl
                      have hfs114 := blk_frozen BK335.out 2
                      have hns114_0 := NB327_335.out
                      have hns114_1 := NB334_335.out
                      have hns114_3 := NB342_335.out
                      have hns114_4 := NB348_335.out
                      have hns114_5 := NB353_335.out
                      have hms114_0 := NB335_327.out
                      have hms114_1 := NB335_334.out
                      have hms114_3 := NB335_342.out
                      have hms114_4 := NB335_348.out
                      have hms114_5 := NB335_353.out
                      refine skip_ (w1 := ?_) (by rfl) rfl ?_ ?_
                      rotate_left
                      · go_simp
                        rfl
                      refine hK.out _ _ ⟨((cell_far (p := ⟨gb335, _, none⟩) NB348_335.out _).trans (((cell_far (p := ⟨gb335, _, none⟩) NB348_335.out _).trans (((cell_far (p := ⟨gb335, _, none⟩) NB348_335.out _).trans (hHeld.1)))))), ((cell_far (p := ⟨gb335, _, none⟩) NB348_335.out _).trans (((cell_far (p := ⟨gb335, _, none⟩) NB348_335.out _).trans (((cell_far (p := ⟨gb335, _, none⟩) NB348_335.out _).trans (hHeld.2.1)))))), ((cell_far (p := ⟨gb335, _, none⟩) NB348_335.out _).trans (((cell_far (p := ⟨gb335, _, none⟩) NB348_335.out _).trans (((cell_far (p := ⟨gb335, _, none⟩) NB348_335.out _).trans (hHeld.2.2.1)))))), ((cell_far (p := ⟨gb335, _, none⟩) NB353_335.out _).trans (((cell_far (p := ⟨gb335, _, none⟩) NB353_335.out _).trans (((cell_far (p := ⟨gb335, _, none⟩) NB353_335.out _).trans (hHeld.2.2.2.1)))))), ((cell_far (p := ⟨gb335, _, none⟩) NB353_335.out _).trans (((cell_far (p := ⟨gb335, _, none⟩) NB353_335.out _).trans (((cell_far (p := ⟨gb335, _, none⟩) NB353_335.out _).trans (hHeld.2.2.2.2.1)))))), ((cell_far (p := ⟨gb335, _, none⟩) NB353_335.out _).trans (((cell_far (p := ⟨gb335, _, none⟩) NB353_335.out _).trans (((cell_far (p := ⟨gb335, _, none⟩) NB353_335.out _).trans (hHeld.2.2.2.2.2))))))⟩ (fun hHeld => ?_)
                      clear hK K
                      refine done_ (by kernel_rfl) ?_
                      try go_wp2
                      go_roundg kj29
                      case measure => have := HK1.out; have := HJ29.out; omega
                      case rel => exact ⟨((wrap64 (x9_1 + ((rd_T48 t336 x27_1).f0)))), (wrap64 (x27_1 + 1)), (false), (t345), (t346), (t349), (t350), (t351), (by first | rfl | (simp; done) | (simp [*]; done)), (by first | rfl | (simp; done) | (simp [*]; done)), H', ⟨by have := HK1.out; have := HJ29.out; omega⟩, ⟨by (with_reducible repeat (first | apply Kd.R_alloc | apply Kd.R_drewN | apply Kd.R_drew)); exact Kd.R_mono (Kd.R_far (p := ⟨gb335, 2, none⟩) (Kd.R_far (p := ⟨gb335, 1, none⟩) (Kd.R_far (p := ⟨gb335, 0, none⟩) (Kd.R_far (p := ⟨gb334, 2, none⟩) (Kd.R_far (p := ⟨gb334, 1, none⟩) (Kd.R_far (p := ⟨gb334, 0, none⟩) (Kd.R_types (Kd.R_types HO_25.out BK334.out (by decide)) BK335.out (by decide)) (fun _ hk => hk.1.2) (.bool false)) (fun _ hk => hk.1.2) (.int .i64 t345)) (fun _ hk => hk.1.2) (.int .i64 t346)) (fun _ hk => hk.2) (.bool t349)) (fun _ hk => hk.2) (.int .i64 t350)) (fun _ hk => hk.2) (.int .i64 t351)) (fun _ hk => trivial)⟩, ⟨by (with_reducible repeat (first | refine blk_drewN ?_ _ | refine blk_drew ?_ | refine blk_alloc ?_ _)); refine blk_far ?_ NB327_335.out _; (with_reducible repeat (first | refine blk_drewN ?_ _ | refine blk_drew ?_ | refine blk_alloc ?_ _)); refine blk_far ?_ NB327_335.out _; (with_reducible repeat (first | refine blk_drewN ?_ _ | refine blk_drew ?_ | refine blk_alloc ?_ _)); refine blk_far ?_ NB327_335.out _; (with_reducible repeat (first | refine blk_drewN ?_ _ | refine blk_drew ?_ | refine blk_alloc ?_ _)); refine blk_far ?_ NB327_334.out _; (with_reducible repeat (first | refine blk_drewN ?_ _ | refine blk_drew ?_ | refine blk_alloc ?_ _)); refine blk_far ?_ NB327_334.out _; (with_reducible repeat (first | refine blk_drewN ?_ _ | refine blk_drew ?_ | refine blk_alloc ?_ _)); refine blk_far ?_ NB327_334.out _; (with_reducible repeat (first | refine blk_drewN ?_ _ | refine blk_drew ?_ | refine blk_alloc ?_ _)); exact BK327.out⟩, ⟨by (with_reducible repeat (first | refine blk_drewN ?_ _ | refine blk_drew ?_ | refine blk_alloc ?_ _)); refine blk_far ?_ NB334_335.out _; (with_reducible repeat (first | refine blk_drewN ?_ _ | refine blk_drew ?_ | refine blk_alloc ?_ _)); refine blk_far ?_ NB334_335.out _; (with_reducible repeat (first | refine blk_drewN ?_ _ | refine blk_drew ?_ | refine blk_alloc ?_ _)); refine blk_far ?_ NB334_335.out _; (with_reducible repeat (first | refine blk_drewN ?_ _ | refine blk_drew ?_ | refine blk_alloc ?_ _)); refine blk_put (cs := #[.bool false, .int .i64 t345, .int .i64 x335002_1]) ?_ 2 _ rfl; (with_reducible repeat (first | refine blk_drewN ?_ _ | refine blk_drew ?_ | refine blk_alloc ?_ _)); refine blk_put (cs := #[.bool false, .int .i64 x335001_1, .int .i64 x335002_1]) ?_ 1 _ rfl; (with_reducible repeat (first | refine blk_drewN ?_ _ | refine blk_drew ?_ | refine blk_alloc ?_ _)); refine blk_put (cs := #[.bool x335000_1, .int .i64 x335001_1, .int .i64 x335002_1]) ?_ 0 _ rfl; (with_reducible repeat (first | refine blk_drewN ?_ _ | refine blk_drew ?_ | refine blk_alloc ?_ _)); exact BK334.out⟩, ⟨by (with_reducible repeat (first | refine blk_drewN ?_ _ | refine blk_drew ?_ | refine blk_alloc ?_ _)); refine blk_put (cs := #[.bool t349, .int .i64 t350, .int .i64 x336002_1]) ?_ 2 _ rfl; (with_reducible repeat (first | refine blk_drewN ?_ _ | refine blk_drew ?_ | refine blk_alloc ?_ _)); refine blk_put (cs := #[.bool t349, .int .i64 x336001_1, .int .i64 x336002_1]) ?_ 1 _ rfl; (with_reducible repeat (first | refine blk_drewN ?_ _ | refine blk_drew ?_ | refine blk_alloc ?_ _)); refine blk_put (cs := #[.bool x336000_1, .int .i64 x336001_1, .int .i64 x336002_1]) ?_ 0 _ rfl; (with_reducible repeat (first | refine blk_drewN ?_ _ | refine blk_drew ?_ | refine blk_alloc ?_ _)); refine blk_far ?_ NB335_334.out _; (with_reducible repeat (first | refine blk_drewN ?_ _ | refine blk_drew ?_ | refine blk_alloc ?_ _)); refine blk_far ?_ NB335_334.out _; (with_reducible repeat (first | refine blk_drewN ?_ _ | refine blk_drew ?_ | refine blk_alloc ?_ _)); refine blk_far ?_ NB335_334.out _; (with_reducible repeat (first | refine blk_drewN ?_ _ | refine blk_drew ?_ | refine blk_alloc ?_ _)); exact BK335.out⟩, ⟨by repeat (first | (with_reducible first | exact HB.out | apply below_alloc | apply pw_below_drewN | apply below_drew1 | refine below_set ?_ GE327.out | refine below_set ?_ GE334.out | refine below_set ?_ GE335.out | refine below_set ?_ GE342.out | refine below_set ?_ GE348.out | refine below_set ?_ GE353.out) | exact HB.out)⟩⟩
                  · rw [if_neg c40] at H
                    have c40b0 : (t352 == 0) = false := beq_eq_false_iff_ne.mpr c40
                    have c40b1 : (t352 != 0) = true := bne_iff_ne.mpr c40
                    obtain rfl := Option.some.inj H
                    exact absurd hr_.out (by decide)
                · rw [if_neg c39] at H
                  have c39b0 : (t347 == 0) = false := beq_eq_false_iff_ne.mpr c39
                  have c39b1 : (t347 != 0) = true := bne_iff_ne.mpr c39
                  obtain rfl := Option.some.inj H
                  exact absurd hr_.out (by decide)
          · rw [if_neg c29] at H
            exact absurd H (by simp)
        · rw [if_neg c28] at H
          exact absurd H (by simp)
      · rw [if_neg c27] at H
        have c27b0 : decide (x27_1 < (t336.length : Int)) = false := decide_eq_false c27
        clear c27
        replace H := Option.bind_eq_some_iff.mp H
        obtain ⟨t340, A1150, H⟩ := H
        replace H : (some t340) = some r := H
        have A115 := Aside0.mk A1150
        clear A1150
        obtain rfl := Option.some.inj H
        simp only [Option.some.injEq, Prod.mk.injEq] at H
        obtain ⟨rfl⟩ := H
        go_wp2_with (first | ((with_reducible refine gate_callee (f := 20) rfl ?_); refine goesL_ (some 91) rfl rfl Try.func20 (by kernel_rfl) rfl #[] rfl (by (try simp only [List.map_toArray, List.map_cons, List.map_nil]); first | done | rfl | (simp only [List.length_drop, List.length_take]; rfl)) ?_; (with_reducible refine (minecontrollaw17_awake.calls k1  t340 _ A115.out).mono ?_); rintro e w116 ⟨rfl, hb⟩; refine ⟨_, rfl, ?_⟩; have n0_ := Aside0.mk (Kd.R_below (by (with_reducible repeat (first | apply Kd.R_alloc | apply Kd.R_drewN | apply Kd.R_drew)); exact HO_25.out) hb); have n1_ := Aside0.mk (blk_below (g := gb327) (o := .cells #[.int .i64 t323, .int .i64 t324, .int .i64 t325] 24 (0, 0)) (by (with_reducible repeat (first | refine blk_drewN ?_ _ | refine blk_drew ?_ | refine blk_alloc ?_ _)); exact BK327.out) hb); have n2_ := Aside0.mk (blk_below (g := gb334) (o := .cells #[.bool x335000_1, .int .i64 x335001_1, .int .i64 x335002_1] 26 (0, 0)) (by (with_reducible repeat (first | refine blk_drewN ?_ _ | refine blk_drew ?_ | refine blk_alloc ?_ _)); exact BK334.out) hb); have n3_ := Aside0.mk (blk_below (g := gb335) (o := .cells #[.bool x336000_1, .int .i64 x336001_1, .int .i64 x336002_1] 26 (0, 0)) (by (with_reducible repeat (first | refine blk_drewN ?_ _ | refine blk_drew ?_ | refine blk_alloc ?_ _)); exact BK335.out) hb); have n4_ := Aside0.mk (below_step (by repeat (first | (with_reducible first | exact HB.out | apply below_alloc | apply pw_below_drewN | apply below_drew1 | refine below_set ?_ GE327.out | refine below_set ?_ GE334.out | refine below_set ?_ GE335.out) | exact HB.out)) hb); clear HO_25; clear BK327; clear BK334; clear BK335; clear HB; have HO_25 := n0_; have BK327 := n1_; have BK334 := n2_; have BK335 := n3_; have HB := n4_; clear n0_ n1_ n2_ n3_ n4_; (try clear hb); (try clear hb2); (try clear hk); (try clear hi)))
        go_ret
        exact ⟨by first | rfl | (simp [errW_none, errW_some] <;> rfl) | (simp [*, errW_none, errW_some] <;> rfl), by repeat (first | (with_reducible first | exact HB.out | apply below_alloc | apply pw_below_drewN | apply below_drew1 | refine below_set ?_ GE327.out | refine below_set ?_ GE334.out | refine below_set ?_ GE335.out) | exact HB.out)⟩

/-- THE ONE PURE STATEMENT of minecontrollaw17_LevelWider: yours. -/
def minecontrollaw17_LevelWider.Pure : Prop := ∀ (l0 : List Int) (l1 : List Int), l0.length ≤ maxLen → l0.length * 1 ≤ 140737488351232 → (∀ x ∈ l0, (Lit.int .u8 x).wf = true) → l1.length ≤ maxLen → l1.length * 1 ≤ 140737488351232 → (∀ x ∈ l1, (Lit.int .u8 x).wf = true) → ∃ k, minecontrollaw17_LevelWider.f k l0 l1 = some true
theorem minecontrollaw17_LevelWider.walk (P : minecontrollaw17_LevelWider.Pure) (a0 : Option Addr) (len0 cap0 : Nat) (z0 : List Int) (a1 : Option Addr) (len1 cap1 : Nat) (z1 : List Int) (w : World) (w0 : (a0 = none ∧ len0 = 0 ∧ cap0 = 0 ∧ z0 = []) ∨ ∃ x, a0 = some x ∧ len0 ≤ cap0 ∧ cap0 ≤ maxLen ∧ z0.length = cap0 ∧ (∀ i, i < z0.length → w.cell? (x.add i) = some (.int .u8 (z0.getD i 0))) ∧ ∀ n ∈ z0, (Lit.int .u8 n).wf = true) (y0 : len0 * 1 ≤ 140737488351232) (w1 : (a1 = none ∧ len1 = 0 ∧ cap1 = 0 ∧ z1 = []) ∨ ∃ x, a1 = some x ∧ len1 ≤ cap1 ∧ cap1 ≤ maxLen ∧ z1.length = cap1 ∧ (∀ i, i < z1.length → w.cell? (x.add i) = some (.int .u8 (z1.getD i 0))) ∧ ∀ n ∈ z1, (Lit.int .u8 n).wf = true) (y1 : len1 * 1 ≤ 140737488351232) :
    Calls Try.prog 7 #[.slice a0 len0 cap0, .slice a1 len1 cap1] w fun e w' => e = .returned (.bool true) ∧ Below w.heap.size w w' := by
  obtain ⟨l0, rfl, hr0, hm0, hw0, hc0⟩ := ReadsInt.ofRowC w0
  obtain ⟨l1, rfl, hr1, hm1, hw1, hc1⟩ := ReadsInt.ofRowC w1
  obtain ⟨k, h⟩ := P l0 l1 hm0 y0 hw0 hm1 y1 hw1
  refine (minecontrollaw17_LevelWider.calls1 k _ _ l0 _ _ l1 true w (Kd.C_of_reads (d := (0 : Int)) (h1 := fun _ => rfl) hr0) hc0 (Kd.C_of_reads (d := (0 : Int)) (h1 := fun _ => rfl) hr1) hc1 (.mk rfl) h).mono ?_
  rintro e w' ⟨rfl, hd⟩
  exact ⟨rfl, hd⟩

end Go.Proofs.Ythdeooggfdfoiaa.PLev
