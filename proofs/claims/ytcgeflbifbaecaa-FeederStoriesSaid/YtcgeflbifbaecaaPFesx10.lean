/- Functions of the given program as Lean functions, and proofs that its calls come to what these say. Written by a program of this seat (wip/mkprint.py); Lean checks it all. -/
import Derived.Test.YtcgeflbifbaecaaPFesx0
import Derived.Test.YtcgeflbifbaecaaPFesx6
import Derived.Test.YtcgeflbifbaecaaPFesx7
import Derived.Test.YtcgeflbifbaecaaPFesx8
import Derived.Test.YtcgeflbifbaecaaPFesx9
namespace Go.Proofs.Ytcgeflbifbaecaa.PFes
open Go.RowKit Go.Proofs.YtcgeflbifbaecaaW.PrintWords Go.Proofs.YtcgeflbifbaecaaW.PrintLast Go.Proofs.YtcgeflbifbaecaaW.PrintMore
attribute [local go_sem] max2_int min2_int max_two min_two max_three min_three max_four min_four   -- for this text's walks alone
set_option linter.unusedVariables false
set_option linter.unusedSimpArgs false

/-! ### minecontrollaw18_done: function 22 -/
def minecontrollaw18_done.j0 : Nat → Int → Int → Bool → List (S32) → List Int → Int → Int → Int → Int → Option ((List (S32)) × List Int × Int × Int)
 | 0, _, _, _, _, _, _, _, _, _ => none
 | k + 1, x2, x13, x14, x322000, x322001, x322002, x323000, x323001, x323002 => if x14 = true then ((feeder_Open.f k x322000 x322001 x322002 x323001 x2).bind fun bt324 => (some (bt324.1, bt324.2.1, bt324.2.2.1, bt324.2.2.2))) else (if x13 = 2 then ((feeder_Close.f k x322000 x322001 x322002 x323001 x2).bind fun bt332 => (some (bt332.1, bt332.2.1, bt332.2.2.1, bt332.2.2.2))) else (if x13 = 3 then ((feeder_Answer.f k x322000 x322001 x322002 x323001 (-1)).bind fun bt340 => (some (bt340.1, bt340.2.1, bt340.2.2.1, bt340.2.2.2))) else (if x13 = 4 then ((feeder_Answer.f k x322000 x322001 x322002 x323001 1).bind fun bt348 => (some (bt348.1, bt348.2.1, bt348.2.2.1, bt348.2.2.2))) else ((feeder_Tick.f k x322000 x322001 x322002 x2).bind fun bt356 => (some (bt356.1, bt356.2.1, bt356.2.2.1, bt356.2.2.2.2.2))))))
def minecontrollaw18_done.f (k : Nat) (l0_0 : List (S32)) (l0_1 : List Int) (a0_2 : Int) (a1_0 : Int) (a1_1 : Int) (a1_2 : Int) (a2 : Int) : Option ((List (S32)) × List Int × Int × Int) := if a1_0 = 0 then (minecontrollaw18_done.j0 k a2 a1_0 (a1_0 == 0) l0_0 l0_1 a0_2 a1_0 a1_1 a1_2) else (minecontrollaw18_done.j0 k a2 a1_0 (a1_0 == 1) l0_0 l0_1 a0_2 a1_0 a1_1 a1_2)
theorem minecontrollaw18_done.mono_l : ∀ k, (∀ y0 y1 y2 y3 y4 y5 y6 y7 y8, LeO (minecontrollaw18_done.j0 k y0 y1 y2 y3 y4 y5 y6 y7 y8) (minecontrollaw18_done.j0 (k + 1) y0 y1 y2 y3 y4 y5 y6 y7 y8))
 | 0 => fun _ _ _ _ _ _ _ _ _ r h => by simp [minecontrollaw18_done.j0] at h
 | k + 1 => by
  have ih0 := minecontrollaw18_done.mono_l k
  intro y0 y1 y2 y3 y4 y5 y6 y7 y8
  unfold minecontrollaw18_done.j0
  repeat' first
  | (with_reducible exact ih0 _ _ _ _ _ _ _ _ _)
  | (with_reducible exact feeder_Answer.mono _ _ _ _ _ _)
  | (with_reducible exact feeder_Close.mono _ _ _ _ _ _)
  | (with_reducible exact feeder_Open.mono _ _ _ _ _ _)
  | (with_reducible exact feeder_Tick.mono _ _ _ _ _)
  | (with_reducible exact LeO.refl _)
  | (with_reducible exact LeO.none _)
  | (with_reducible refine LeO.ite ?_ ?_)
  | (with_reducible refine LeO.bind ?_ (fun _ => ?_))
  | exact ih0 _ _ _ _ _ _ _ _ _
  | exact LeO.none _
  | refine LeO.ite ?_ ?_
  | refine LeO.bind ?_ (fun _ => ?_)
theorem minecontrollaw18_done.mono : ∀ a0 a1 a2 a3 a4 a5 a6 k, LeO (minecontrollaw18_done.f k a0 a1 a2 a3 a4 a5 a6) (minecontrollaw18_done.f (k + 1) a0 a1 a2 a3 a4 a5 a6) := by
 intro a0 a1 a2 a3 a4 a5 a6 k
 have ih0 := minecontrollaw18_done.mono_l k
 unfold minecontrollaw18_done.f
 repeat' first
   | (with_reducible exact ih0 _ _ _ _ _ _ _ _ _)
   | (with_reducible exact feeder_Answer.mono _ _ _ _ _ _)
   | (with_reducible exact feeder_Close.mono _ _ _ _ _ _)
   | (with_reducible exact feeder_Open.mono _ _ _ _ _ _)
   | (with_reducible exact feeder_Tick.mono _ _ _ _ _)
   | (with_reducible exact LeO.refl _)
   | (with_reducible exact LeO.none _)
   | (with_reducible refine LeO.ite ?_ ?_)
   | (with_reducible refine LeO.bind ?_ (fun _ => ?_))
   | exact ih0 _ _ _ _ _ _ _ _ _
   | exact LeO.none _
   | refine LeO.ite ?_ ?_
   | refine LeO.bind ?_ (fun _ => ?_)
set_option maxHeartbeats 8000000 in
set_option maxRecDepth 100000 in
theorem minecontrollaw18_done.calls (k : Nat) (A0_0 : Option Addr) (c0_0 : Nat) (l0_0 : List (S32)) (A0_1 : Option Addr) (c0_1 : Nat) (l0_1 : List Int) (a0_2 : Int) (a1_0 : Int) (a1_1 : Int) (a1_2 : Int) (a2 : Int) (r1 : List (S32)) (r2 : List Int) (r3 : Int) (r4 : Int) (w : World) (hr0_0 : Kd.C k32 w A0_0 l0_0.length l0_0) (hc0_0 : l0_0.length ≤ c0_0) (hr0_1 : Kd.C (Kd.int .i64) w A0_1 l0_1.length l0_1) (hc0_1 : l0_1.length ≤ c0_1) (h : minecontrollaw18_done.f k l0_0 l0_1 a0_2 a1_0 a1_1 a1_2 a2 = some (r1, r2, r3, r4)) :
  Calls Try.prog 22 #[.agg #[.slice A0_0 l0_0.length c0_0, .slice A0_1 l0_1.length c0_1, .int .i64 a0_2], .agg #[.int .i64 a1_0, .int .i64 a1_1, .int .i64 a1_2], .int .i64 a2] w fun e w' => ∃ v0_ v1_ : Value, e = .returned (.tuple #[.agg #[v0_, v1_, .int .i64 r3], .int .i64 r4]) ∧ Kd.R k32 32 w' w.heap.size (fun _ => True) v0_ r1 ∧ Kd.R (Kd.int .i64) 3 w' w.heap.size (fun _ => True) v1_ r2 ∧ Below w.heap.size w w' := by
 have hu28 := Try.underlying28
 have hu49 := Try.underlying49
 have HR0_0 := aM hr0_0
 have HC0_0 := aM hc0_0
 clear hr0_0 hc0_0
 have HR0_1 := aM hr0_1
 have HC0_1 := aM hc0_1
 clear hr0_1 hc0_1
 have HB := aM (Below.refl w.heap.size w)
 have H : (if a1_0 = 0 then (minecontrollaw18_done.j0 k a2 a1_0 (a1_0 == 0) l0_0 l0_1 a0_2 a1_0 a1_1 a1_2) else (minecontrollaw18_done.j0 k a2 a1_0 (a1_0 == 1) l0_0 l0_1 a0_2 a1_0 a1_1 a1_2)) = some (r1, r2, r3, r4) := h
 clear h
 have HC4 := aM H
 clear H
 go_enter Try.func22, Try.ntmps22
 go_upto_if 14 with (first | ((with_reducible refine gate_dst (N := 3) rfl ?_); refine box_event ?hg (N := 3) ?hd (cs := #[.slice A0_0 l0_0.length c0_0, .slice A0_1 l0_1.length c0_1, .int .i64 a0_2]) (t := 28) ?hr ?_; (case hd => rfl); (case hg => rfl); (case hr => first | (go_simp; done) | (go_simp; rfl)); intro gb321 hg w5 hbox hb; have BK321 := aM (hbox); have GW321 := aM ((by rw [hg]; exact (below_size (below_mv HB.out)) : w.heap.size ≤ gb321)); have GE321 := aM ((by rw [hg]; exact (below_size (below_mv HB.out)) : w.heap.size ≤ gb321)); replace HB := aM (below_step (below_mv HB.out) hb); clear hb hbox hg) | ((with_reducible refine gate_dst (N := 4) rfl ?_); refine box_event ?hg (N := 4) ?hd (cs := #[.int .i64 a1_0, .int .i64 a1_1, .int .i64 a1_2]) (t := 49) ?hr ?_; (case hd => rfl); (case hg => rfl); (case hr => first | (go_simp; done) | (go_simp; rfl)); intro gb322 hg w6 hbox hb; have BK322 := aM (hbox); have GW322 := aM ((by rw [hg]; exact (below_size (by repeat (first | (with_reducible first | exact HB.out | apply bA | apply bN | apply bD | refine below_set ?_ GE321.out) | exact HB.out))) : w.heap.size ≤ gb322)); have GE322 := aM ((by rw [hg]; exact (below_size (by repeat (first | (with_reducible first | exact HB.out | apply bA | apply bN | apply bD | refine below_set ?_ GE321.out) | exact HB.out))) : w.heap.size ≤ gb322)); replace HB := aM (below_step (by repeat (first | (with_reducible first | exact HB.out | apply bA | apply bN | apply bD | refine below_set ?_ GE321.out) | exact HB.out)) hb); have NB321_322 := aM ((by rw [hg]; exact Nat.ne_of_lt (blk_lt (blk_mv BK321.out)) : gb321 ≠ gb322)); have NB322_321 := aM ((by rw [hg]; exact Nat.ne_of_gt (blk_lt (blk_mv BK321.out)) : gb322 ≠ gb321)); replace BK321 := aM (blk_below (blk_mv BK321.out) hb); clear hb hbox hg) | ((with_reducible refine gate_dst (N := 6) rfl ?_); refine box_event ?hg (N := 6) ?hd (cs := #[.slice none 0 0, .slice none 0 0, .int .i64 0]) (t := 28) ?hr ?_; (case hd => rfl); (case hg => rfl); (case hr => first | (go_simp; done) | (go_simp; rfl)); intro gb323 hg w7 hbox hb; have BK323 := aM (hbox); have GW323 := aM ((by rw [hg]; exact (below_size (by repeat (first | (with_reducible first | exact HB.out | apply bA | apply bN | apply bD | refine below_set ?_ GE321.out | refine below_set ?_ GE322.out) | exact HB.out))) : w.heap.size ≤ gb323)); have GE323 := aM ((by rw [hg]; exact (below_size (by repeat (first | (with_reducible first | exact HB.out | apply bA | apply bN | apply bD | refine below_set ?_ GE321.out | refine below_set ?_ GE322.out) | exact HB.out))) : w.heap.size ≤ gb323)); replace HB := aM (below_step (by repeat (first | (with_reducible first | exact HB.out | apply bA | apply bN | apply bD | refine below_set ?_ GE321.out | refine below_set ?_ GE322.out) | exact HB.out)) hb); have NB321_323 := aM ((by rw [hg]; exact Nat.ne_of_lt (blk_lt (blk_mv BK321.out)) : gb321 ≠ gb323)); have NB323_321 := aM ((by rw [hg]; exact Nat.ne_of_gt (blk_lt (blk_mv BK321.out)) : gb323 ≠ gb321)); replace BK321 := aM (blk_below (blk_mv BK321.out) hb); have NB322_323 := aM ((by rw [hg]; exact Nat.ne_of_lt (blk_lt (blk_mv BK322.out)) : gb322 ≠ gb323)); have NB323_322 := aM ((by rw [hg]; exact Nat.ne_of_gt (blk_lt (blk_mv BK322.out)) : gb323 ≠ gb322)); replace BK322 := aM (blk_below (blk_mv BK322.out) hb); clear hb hbox hg; have hnb8 := NB322_321.out; have hnc8 := NB321_322.out; have hnb9 := NB322_323.out; have hnc9 := NB323_322.out; obtain ⟨hcz10_0, hcz10_1, hcz10_2, hfz10_0, hfz10_1, hfz10_2⟩ := blk3 BK322.out))
 (try simp only [Act.put, List.setIfInBounds_toArray, List.set_cons_zero, List.set_cons_succ])
 go_cut [14] (fun v14 wc => ∃ (kq : Nat) (x14_3 : Bool), v14 = .bool x14_3 ∧ Aside0 (minecontrollaw18_done.j0 kq a2 a1_0 x14_3 l0_0 l0_1 a0_2 a1_0 a1_1 a1_2 = some (r1, r2, r3, r4)) ∧ Aside0 (kq ≤ k) ∧ Aside0 (wc.heap[gb321]? = some (.cells #[(.slice A0_0 l0_0.length c0_0), (.slice A0_1 l0_1.length c0_1), .int .i64 a0_2] 28 (0, 0))) ∧ Aside0 (wc.heap[gb322]? = some (.cells #[.int .i64 a1_0, .int .i64 a1_1, .int .i64 a1_2] 49 (0, 0))) ∧ Aside0 (wc.heap[gb323]? = some (.cells #[(.slice none 0 0), (.slice none 0 0), .int .i64 0] 28 (0, 0))) ∧ Aside0 (Below w.heap.size w wc))
 case first =>
  have H := HC4.out
  clear HC4
  by_cases c11 : a1_0 = 0
  ·
   rw [if_pos c11] at H
   have c11b0 : (a1_0 == 0) = true := beq_iff_eq.mpr c11
   have c11b1 : (a1_0 != 0) = false := bne_eq_false_iff_eq.mpr c11
   clear c11
   (first | rw [c11b0] | (simp only [i64_w, i32_w]; rw [c11b0]) | skip)
   have H' := aM H
   clear H
   go_wp2
   go_meet
   case rel => exact ⟨_, ((a1_0 == 0)), (by first | rfl | (simp; done) | (simp [*]; done)), H', ⟨by first | omega | exact Nat.le_refl _⟩, ⟨blk_mv BK321.out⟩, ⟨blk_mv BK322.out⟩, ⟨blk_mv BK323.out⟩, ⟨by repeat (first | (with_reducible first | exact HB.out | apply bA | apply bN | apply bD | refine below_set ?_ GE321.out | refine below_set ?_ GE322.out | refine below_set ?_ GE323.out) | exact HB.out)⟩⟩
  rw [if_neg c11] at H
  have c11b0 : (a1_0 == 0) = false := beq_eq_false_iff_ne.mpr c11
  have c11b1 : (a1_0 != 0) = true := bne_iff_ne.mpr c11
  (first | rw [c11b0] | (simp only [i64_w, i32_w]; rw [c11b0]) | skip)
  have H' := aM H
  clear H
  go_wp2
  go_meet
  case rel => exact ⟨_, ((a1_0 == 1)), (by first | rfl | (simp; done) | (simp [*]; done)), H', ⟨by first | omega | exact Nat.le_refl _⟩, ⟨blk_mv BK321.out⟩, ⟨blk_mv BK322.out⟩, ⟨blk_mv BK323.out⟩, ⟨by repeat (first | (with_reducible first | exact HB.out | apply bA | apply bN | apply bD | refine below_set ?_ GE321.out | refine below_set ?_ GE322.out | refine below_set ?_ GE323.out) | exact HB.out)⟩⟩
 case rest =>
  clear HC4
  obtain ⟨kq, x14_3, rfl, HA, HJ3, BK321, BK322, BK323, HB⟩ := hcut
  cases kq with
  | zero => exact absurd HA.out (by simp [minecontrollaw18_done.j0])
  | succ kj3 =>
   have H := HA.out
   clear HA
   simp only [minecontrollaw18_done.j0] at H
   by_cases c12 : x14_3 = true
   ·
    subst c12
    have H1 : ((feeder_Open.f kj3 l0_0 l0_1 a0_2 a1_1 a2).bind fun bt324 => (some (bt324.1, bt324.2.1, bt324.2.2.1, bt324.2.2.2))) = some (r1, r2, r3, r4) := by rw [if_pos rfl] at H; exact H
    clear H
    have H := H1
    clear H1
    replace H := Option.bind_eq_some_iff.mp H
    obtain ⟨⟨t324, t327, t330, t331⟩, A130, H⟩ := H
    replace H : (some (t324, t327, t330, t331)) = some (r1, r2, r3, r4) := H
    have A13 := aM A130
    clear A130
    simp only [Option.some.injEq, Prod.mk.injEq] at H
    obtain ⟨rfl, rfl, rfl, rfl⟩ := H
    have hnb14 := NB321_322.out
    have hnc14 := NB322_321.out
    have hnb15 := NB321_323.out
    have hnc15 := NB323_321.out
    obtain ⟨hcz16_0, hcz16_1, hcz16_2, hfz16_0, hfz16_1, hfz16_2⟩ := blk3 BK321.out
    have hnb17 := NB322_323.out
    have hnc17 := NB323_322.out
    obtain ⟨hcz18_0, hcz18_1, hcz18_2, hfz18_0, hfz18_1, hfz18_2⟩ := blk3 BK322.out
    go_wp2_with (first | ((with_reducible refine gate_callee (f := 14) rfl ?_); refine goesL_ (some 21) rfl rfl Try.func14 (by kernel_rfl) rfl #[.agg #[.slice A0_0 l0_0.length c0_0, .slice A0_1 l0_1.length c0_1, .int .i64 a0_2], .int .i64 a1_1, .int .i64 a2] rfl (by first | rfl | (simp only [List.map_toArray, List.map_cons, List.map_nil, List.length_drop, List.length_take]; try rfl)) ?_; (with_reducible refine (feeder_Open.calls kj3 _ _ l0_0 _ _ l0_1 a0_2 a1_1 a2 t324 t327 t330 t331 _ ?side1 ?side2 ?side3 ?side4 A13.out).mono ?_); (case side1 => first | exact C_mv (Kd.C_below HR0_0.out HB.out) | exact C_mv HR0_0.out); (case side2 => exact HC0_0.out); (case side3 => first | exact C_mv (Kd.C_below HR0_1.out HB.out) | exact C_mv HR0_1.out); (case side4 => exact HC0_1.out); rintro e w19 ⟨v325, v328, rfl, ho0, ho1, hb⟩; refine ⟨_, rfl, ?_⟩; have HO326 := aM (Kd.R_lower ho0 (below_size (by repeat (first | (with_reducible first | exact HB.out | apply bA | apply bN | apply bD | refine below_set ?_ GE321.out | refine below_set ?_ GE322.out | refine below_set ?_ GE323.out) | exact HB.out)))); have HO329 := aM (Kd.R_lower ho1 (below_size (by repeat (first | (with_reducible first | exact HB.out | apply bA | apply bN | apply bD | refine below_set ?_ GE321.out | refine below_set ?_ GE322.out | refine below_set ?_ GE323.out) | exact HB.out)))); replace BK321 := aM (blk_below (blk_mv BK321.out) hb); replace BK322 := aM (blk_below (blk_mv BK322.out) hb); replace BK323 := aM (blk_below (blk_mv BK323.out) hb); replace HB := aM (below_step (by repeat (first | (with_reducible first | exact HB.out | apply bA | apply bN | apply bD | refine below_set ?_ GE321.out | refine below_set ?_ GE322.out | refine below_set ?_ GE323.out) | exact HB.out)) hb); (try clear hb); (try clear hb2); (try clear hge); (try clear hk); (try clear hi); (try clear ho0); (try clear ho1); obtain ⟨Ao20, co20, eo20⟩ := Kd.R_slice HO326.out; subst eo20; obtain ⟨hcz21_0, hcz21_1, hcz21_2, hfz21_0, hfz21_1, hfz21_2⟩ := blk3 BK323.out; obtain ⟨Ao22, co22, eo22⟩ := Kd.R_slice HO329.out; subst eo22))
    refine bodyPost_ret (results_ct rfl _ _ gb323 28 #[.slice Ao20 t324.length co20, .slice Ao22 t327.length co22, .int .i64 t330] (0, 0) _ rfl (by (with_reducible repeat (first | refine kN ?_ _ | refine kD ?_ | refine kA ?_ _)); refine blk_put (cs := #[.slice Ao20 t324.length co20, .slice Ao22 t327.length co22, .int .i64 0]) ?_ 2 _ rfl; (with_reducible repeat (first | refine kN ?_ _ | refine kD ?_ | refine kA ?_ _)); refine blk_put (cs := #[.slice Ao20 t324.length co20, .slice none 0 0, .int .i64 0]) ?_ 1 _ rfl; (with_reducible repeat (first | refine kN ?_ _ | refine kD ?_ | refine kA ?_ _)); refine blk_put (cs := #[.slice none 0 0, .slice none 0 0, .int .i64 0]) ?_ 0 _ rfl; (with_reducible repeat (first | refine kN ?_ _ | refine kD ?_ | refine kA ?_ _)); exact BK323.out) Try.underlying28 rfl (by kernel_rfl)) rfl ?_
    exact ⟨_, _, by first | rfl | (simp [errW_none, errW_some] <;> rfl) | (simp [*, errW_none, errW_some] <;> rfl), by (with_reducible repeat (first | apply Kd.R_alloc | apply Kd.R_drewN | apply Kd.R_drew)); exact Kd.R_mono (Kd.R_far (p := ⟨gb323, 2, none⟩) (Kd.R_far (p := ⟨gb323, 1, none⟩) (Kd.R_far (p := ⟨gb323, 0, none⟩) (Kd.R_types HO326.out BK323.out (by decide)) (fun _ hk => hk.2) (.slice Ao20 t324.length co20)) (fun _ hk => hk.2) (.slice Ao22 t327.length co22)) (fun _ hk => hk.2) (.int .i64 t330)) (fun _ hk => trivial), by (with_reducible repeat (first | apply Kd.R_alloc | apply Kd.R_drewN | apply Kd.R_drew)); exact Kd.R_mono (Kd.R_far (p := ⟨gb323, 2, none⟩) (Kd.R_far (p := ⟨gb323, 1, none⟩) (Kd.R_far (p := ⟨gb323, 0, none⟩) (Kd.R_types HO329.out BK323.out (by decide)) (fun _ hk => hk.2) (.slice Ao20 t324.length co20)) (fun _ hk => hk.2) (.slice Ao22 t327.length co22)) (fun _ hk => hk.2) (.int .i64 t330)) (fun _ hk => trivial), by repeat (first | (with_reducible first | exact HB.out | apply bA | apply bN | apply bD | refine below_set ?_ GE321.out | refine below_set ?_ GE322.out | refine below_set ?_ GE323.out) | exact HB.out)⟩
   replace c12 := Bool.eq_false_iff.mpr c12
   subst c12
   have H1 : (if a1_0 = 2 then ((feeder_Close.f kj3 l0_0 l0_1 a0_2 a1_1 a2).bind fun bt332 => (some (bt332.1, bt332.2.1, bt332.2.2.1, bt332.2.2.2))) else (if a1_0 = 3 then ((feeder_Answer.f kj3 l0_0 l0_1 a0_2 a1_1 (-1)).bind fun bt340 => (some (bt340.1, bt340.2.1, bt340.2.2.1, bt340.2.2.2))) else (if a1_0 = 4 then ((feeder_Answer.f kj3 l0_0 l0_1 a0_2 a1_1 1).bind fun bt348 => (some (bt348.1, bt348.2.1, bt348.2.2.1, bt348.2.2.2))) else ((feeder_Tick.f kj3 l0_0 l0_1 a0_2 a2).bind fun bt356 => (some (bt356.1, bt356.2.1, bt356.2.2.1, bt356.2.2.2.2.2)))))) = some (r1, r2, r3, r4) := by rw [if_neg (show ¬ (false = true) by decide)] at H; exact H
   clear H
   have H := H1
   clear H1
   by_cases c23 : a1_0 = 2
   ·
    rw [if_pos c23] at H
    have c23b0 : (a1_0 == 2) = true := beq_iff_eq.mpr c23
    have c23b1 : (a1_0 != 2) = false := bne_eq_false_iff_eq.mpr c23
    clear c23
    replace H := Option.bind_eq_some_iff.mp H
    obtain ⟨⟨t332, t335, t338, t339⟩, A240, H⟩ := H
    replace H : (some (t332, t335, t338, t339)) = some (r1, r2, r3, r4) := H
    have A24 := aM A240
    clear A240
    simp only [Option.some.injEq, Prod.mk.injEq] at H
    obtain ⟨rfl, rfl, rfl, rfl⟩ := H
    have hnb25 := NB321_322.out
    have hnc25 := NB322_321.out
    have hnb26 := NB321_323.out
    have hnc26 := NB323_321.out
    obtain ⟨hcz27_0, hcz27_1, hcz27_2, hfz27_0, hfz27_1, hfz27_2⟩ := blk3 BK321.out
    have hnb28 := NB322_323.out
    have hnc28 := NB323_322.out
    obtain ⟨hcz29_0, hcz29_1, hcz29_2, hfz29_0, hfz29_1, hfz29_2⟩ := blk3 BK322.out
    go_wp2_with (first | ((with_reducible refine gate_callee (f := 25) rfl ?_); refine goesL_ (some 30) rfl rfl Try.func25 (by kernel_rfl) rfl #[.agg #[.slice A0_0 l0_0.length c0_0, .slice A0_1 l0_1.length c0_1, .int .i64 a0_2], .int .i64 a1_1, .int .i64 a2] rfl (by first | rfl | (simp only [List.map_toArray, List.map_cons, List.map_nil, List.length_drop, List.length_take]; try rfl)) ?_; (with_reducible refine (feeder_Close.calls kj3 _ _ l0_0 _ _ l0_1 a0_2 a1_1 a2 t332 t335 t338 t339 _ ?side1 ?side2 ?side3 ?side4 A24.out).mono ?_); (case side1 => first | exact C_mv (Kd.C_below HR0_0.out HB.out) | exact C_mv HR0_0.out); (case side2 => exact HC0_0.out); (case side3 => first | exact C_mv (Kd.C_below HR0_1.out HB.out) | exact C_mv HR0_1.out); (case side4 => exact HC0_1.out); rintro e w30 ⟨v333, v336, rfl, ho0, ho1, hb⟩; refine ⟨_, rfl, ?_⟩; have HO334 := aM (Kd.R_lower ho0 (below_size (by repeat (first | (with_reducible first | exact HB.out | apply bA | apply bN | apply bD | refine below_set ?_ GE321.out | refine below_set ?_ GE322.out | refine below_set ?_ GE323.out) | exact HB.out)))); have HO337 := aM (Kd.R_lower ho1 (below_size (by repeat (first | (with_reducible first | exact HB.out | apply bA | apply bN | apply bD | refine below_set ?_ GE321.out | refine below_set ?_ GE322.out | refine below_set ?_ GE323.out) | exact HB.out)))); replace BK321 := aM (blk_below (blk_mv BK321.out) hb); replace BK322 := aM (blk_below (blk_mv BK322.out) hb); replace BK323 := aM (blk_below (blk_mv BK323.out) hb); replace HB := aM (below_step (by repeat (first | (with_reducible first | exact HB.out | apply bA | apply bN | apply bD | refine below_set ?_ GE321.out | refine below_set ?_ GE322.out | refine below_set ?_ GE323.out) | exact HB.out)) hb); (try clear hb); (try clear hb2); (try clear hge); (try clear hk); (try clear hi); (try clear ho0); (try clear ho1); obtain ⟨Ao31, co31, eo31⟩ := Kd.R_slice HO334.out; subst eo31; obtain ⟨hcz32_0, hcz32_1, hcz32_2, hfz32_0, hfz32_1, hfz32_2⟩ := blk3 BK323.out; obtain ⟨Ao33, co33, eo33⟩ := Kd.R_slice HO337.out; subst eo33))
    refine bodyPost_ret (results_ct rfl _ _ gb323 28 #[.slice Ao31 t332.length co31, .slice Ao33 t335.length co33, .int .i64 t338] (0, 0) _ rfl (by (with_reducible repeat (first | refine kN ?_ _ | refine kD ?_ | refine kA ?_ _)); refine blk_put (cs := #[.slice Ao31 t332.length co31, .slice Ao33 t335.length co33, .int .i64 0]) ?_ 2 _ rfl; (with_reducible repeat (first | refine kN ?_ _ | refine kD ?_ | refine kA ?_ _)); refine blk_put (cs := #[.slice Ao31 t332.length co31, .slice none 0 0, .int .i64 0]) ?_ 1 _ rfl; (with_reducible repeat (first | refine kN ?_ _ | refine kD ?_ | refine kA ?_ _)); refine blk_put (cs := #[.slice none 0 0, .slice none 0 0, .int .i64 0]) ?_ 0 _ rfl; (with_reducible repeat (first | refine kN ?_ _ | refine kD ?_ | refine kA ?_ _)); exact BK323.out) Try.underlying28 rfl (by kernel_rfl)) rfl ?_
    exact ⟨_, _, by first | rfl | (simp [errW_none, errW_some] <;> rfl) | (simp [*, errW_none, errW_some] <;> rfl), by (with_reducible repeat (first | apply Kd.R_alloc | apply Kd.R_drewN | apply Kd.R_drew)); exact Kd.R_mono (Kd.R_far (p := ⟨gb323, 2, none⟩) (Kd.R_far (p := ⟨gb323, 1, none⟩) (Kd.R_far (p := ⟨gb323, 0, none⟩) (Kd.R_types HO334.out BK323.out (by decide)) (fun _ hk => hk.2) (.slice Ao31 t332.length co31)) (fun _ hk => hk.2) (.slice Ao33 t335.length co33)) (fun _ hk => hk.2) (.int .i64 t338)) (fun _ hk => trivial), by (with_reducible repeat (first | apply Kd.R_alloc | apply Kd.R_drewN | apply Kd.R_drew)); exact Kd.R_mono (Kd.R_far (p := ⟨gb323, 2, none⟩) (Kd.R_far (p := ⟨gb323, 1, none⟩) (Kd.R_far (p := ⟨gb323, 0, none⟩) (Kd.R_types HO337.out BK323.out (by decide)) (fun _ hk => hk.2) (.slice Ao31 t332.length co31)) (fun _ hk => hk.2) (.slice Ao33 t335.length co33)) (fun _ hk => hk.2) (.int .i64 t338)) (fun _ hk => trivial), by repeat (first | (with_reducible first | exact HB.out | apply bA | apply bN | apply bD | refine below_set ?_ GE321.out | refine below_set ?_ GE322.out | refine below_set ?_ GE323.out) | exact HB.out)⟩
   rw [if_neg c23] at H
   have c23b0 : (a1_0 == 2) = false := beq_eq_false_iff_ne.mpr c23
   have c23b1 : (a1_0 != 2) = true := bne_iff_ne.mpr c23
   by_cases c34 : a1_0 = 3
   ·
    rw [if_pos c34] at H
    have c34b0 : (a1_0 == 3) = true := beq_iff_eq.mpr c34
    have c34b1 : (a1_0 != 3) = false := bne_eq_false_iff_eq.mpr c34
    clear c34
    replace H := Option.bind_eq_some_iff.mp H
    obtain ⟨⟨t340, t343, t346, t347⟩, A350, H⟩ := H
    replace H : (some (t340, t343, t346, t347)) = some (r1, r2, r3, r4) := H
    have A35 := aM A350
    clear A350
    simp only [Option.some.injEq, Prod.mk.injEq] at H
    obtain ⟨rfl, rfl, rfl, rfl⟩ := H
    have hnb36 := NB321_322.out
    have hnc36 := NB322_321.out
    have hnb37 := NB321_323.out
    have hnc37 := NB323_321.out
    obtain ⟨hcz38_0, hcz38_1, hcz38_2, hfz38_0, hfz38_1, hfz38_2⟩ := blk3 BK321.out
    have hnb39 := NB322_323.out
    have hnc39 := NB323_322.out
    obtain ⟨hcz40_0, hcz40_1, hcz40_2, hfz40_0, hfz40_1, hfz40_2⟩ := blk3 BK322.out
    go_wp2_with (first | ((with_reducible refine gate_callee (f := 27) rfl ?_); refine goesL_ (some 38) rfl rfl Try.func27 (by kernel_rfl) rfl #[.agg #[.slice A0_0 l0_0.length c0_0, .slice A0_1 l0_1.length c0_1, .int .i64 a0_2], .int .i64 a1_1, .int .i64 (-1)] rfl (by first | rfl | (simp only [List.map_toArray, List.map_cons, List.map_nil, List.length_drop, List.length_take]; try rfl)) ?_; (with_reducible refine (feeder_Answer.calls kj3 _ _ l0_0 _ _ l0_1 a0_2 a1_1 (-1) t340 t343 t346 t347 _ ?side1 ?side2 ?side3 ?side4 A35.out).mono ?_); (case side1 => first | exact C_mv (Kd.C_below HR0_0.out HB.out) | exact C_mv HR0_0.out); (case side2 => exact HC0_0.out); (case side3 => first | exact C_mv (Kd.C_below HR0_1.out HB.out) | exact C_mv HR0_1.out); (case side4 => exact HC0_1.out); rintro e w41 ⟨v341, v344, rfl, ho0, ho1, hb⟩; refine ⟨_, rfl, ?_⟩; have HO342 := aM (Kd.R_lower ho0 (below_size (by repeat (first | (with_reducible first | exact HB.out | apply bA | apply bN | apply bD | refine below_set ?_ GE321.out | refine below_set ?_ GE322.out | refine below_set ?_ GE323.out) | exact HB.out)))); have HO345 := aM (Kd.R_lower ho1 (below_size (by repeat (first | (with_reducible first | exact HB.out | apply bA | apply bN | apply bD | refine below_set ?_ GE321.out | refine below_set ?_ GE322.out | refine below_set ?_ GE323.out) | exact HB.out)))); replace BK321 := aM (blk_below (blk_mv BK321.out) hb); replace BK322 := aM (blk_below (blk_mv BK322.out) hb); replace BK323 := aM (blk_below (blk_mv BK323.out) hb); replace HB := aM (below_step (by repeat (first | (with_reducible first | exact HB.out | apply bA | apply bN | apply bD | refine below_set ?_ GE321.out | refine below_set ?_ GE322.out | refine below_set ?_ GE323.out) | exact HB.out)) hb); (try clear hb); (try clear hb2); (try clear hge); (try clear hk); (try clear hi); (try clear ho0); (try clear ho1); obtain ⟨Ao42, co42, eo42⟩ := Kd.R_slice HO342.out; subst eo42; obtain ⟨hcz43_0, hcz43_1, hcz43_2, hfz43_0, hfz43_1, hfz43_2⟩ := blk3 BK323.out; obtain ⟨Ao44, co44, eo44⟩ := Kd.R_slice HO345.out; subst eo44))
    refine bodyPost_ret (results_ct rfl _ _ gb323 28 #[.slice Ao42 t340.length co42, .slice Ao44 t343.length co44, .int .i64 t346] (0, 0) _ rfl (by (with_reducible repeat (first | refine kN ?_ _ | refine kD ?_ | refine kA ?_ _)); refine blk_put (cs := #[.slice Ao42 t340.length co42, .slice Ao44 t343.length co44, .int .i64 0]) ?_ 2 _ rfl; (with_reducible repeat (first | refine kN ?_ _ | refine kD ?_ | refine kA ?_ _)); refine blk_put (cs := #[.slice Ao42 t340.length co42, .slice none 0 0, .int .i64 0]) ?_ 1 _ rfl; (with_reducible repeat (first | refine kN ?_ _ | refine kD ?_ | refine kA ?_ _)); refine blk_put (cs := #[.slice none 0 0, .slice none 0 0, .int .i64 0]) ?_ 0 _ rfl; (with_reducible repeat (first | refine kN ?_ _ | refine kD ?_ | refine kA ?_ _)); exact BK323.out) Try.underlying28 rfl (by kernel_rfl)) rfl ?_
    exact ⟨_, _, by first | rfl | (simp [errW_none, errW_some] <;> rfl) | (simp [*, errW_none, errW_some] <;> rfl), by (with_reducible repeat (first | apply Kd.R_alloc | apply Kd.R_drewN | apply Kd.R_drew)); exact Kd.R_mono (Kd.R_far (p := ⟨gb323, 2, none⟩) (Kd.R_far (p := ⟨gb323, 1, none⟩) (Kd.R_far (p := ⟨gb323, 0, none⟩) (Kd.R_types HO342.out BK323.out (by decide)) (fun _ hk => hk.2) (.slice Ao42 t340.length co42)) (fun _ hk => hk.2) (.slice Ao44 t343.length co44)) (fun _ hk => hk.2) (.int .i64 t346)) (fun _ hk => trivial), by (with_reducible repeat (first | apply Kd.R_alloc | apply Kd.R_drewN | apply Kd.R_drew)); exact Kd.R_mono (Kd.R_far (p := ⟨gb323, 2, none⟩) (Kd.R_far (p := ⟨gb323, 1, none⟩) (Kd.R_far (p := ⟨gb323, 0, none⟩) (Kd.R_types HO345.out BK323.out (by decide)) (fun _ hk => hk.2) (.slice Ao42 t340.length co42)) (fun _ hk => hk.2) (.slice Ao44 t343.length co44)) (fun _ hk => hk.2) (.int .i64 t346)) (fun _ hk => trivial), by repeat (first | (with_reducible first | exact HB.out | apply bA | apply bN | apply bD | refine below_set ?_ GE321.out | refine below_set ?_ GE322.out | refine below_set ?_ GE323.out) | exact HB.out)⟩
   rw [if_neg c34] at H
   have c34b0 : (a1_0 == 3) = false := beq_eq_false_iff_ne.mpr c34
   have c34b1 : (a1_0 != 3) = true := bne_iff_ne.mpr c34
   by_cases c45 : a1_0 = 4
   ·
    rw [if_pos c45] at H
    have c45b0 : (a1_0 == 4) = true := beq_iff_eq.mpr c45
    have c45b1 : (a1_0 != 4) = false := bne_eq_false_iff_eq.mpr c45
    clear c45
    replace H := Option.bind_eq_some_iff.mp H
    obtain ⟨⟨t348, t351, t354, t355⟩, A460, H⟩ := H
    replace H : (some (t348, t351, t354, t355)) = some (r1, r2, r3, r4) := H
    have A46 := aM A460
    clear A460
    simp only [Option.some.injEq, Prod.mk.injEq] at H
    obtain ⟨rfl, rfl, rfl, rfl⟩ := H
    have hnb47 := NB321_322.out
    have hnc47 := NB322_321.out
    have hnb48 := NB321_323.out
    have hnc48 := NB323_321.out
    obtain ⟨hcz49_0, hcz49_1, hcz49_2, hfz49_0, hfz49_1, hfz49_2⟩ := blk3 BK321.out
    have hnb50 := NB322_323.out
    have hnc50 := NB323_322.out
    obtain ⟨hcz51_0, hcz51_1, hcz51_2, hfz51_0, hfz51_1, hfz51_2⟩ := blk3 BK322.out
    go_wp2_with (first | ((with_reducible refine gate_callee (f := 27) rfl ?_); refine goesL_ (some 46) rfl rfl Try.func27 (by kernel_rfl) rfl #[.agg #[.slice A0_0 l0_0.length c0_0, .slice A0_1 l0_1.length c0_1, .int .i64 a0_2], .int .i64 a1_1, .int .i64 1] rfl (by first | rfl | (simp only [List.map_toArray, List.map_cons, List.map_nil, List.length_drop, List.length_take]; try rfl)) ?_; (with_reducible refine (feeder_Answer.calls kj3 _ _ l0_0 _ _ l0_1 a0_2 a1_1 1 t348 t351 t354 t355 _ ?side1 ?side2 ?side3 ?side4 A46.out).mono ?_); (case side1 => first | exact C_mv (Kd.C_below HR0_0.out HB.out) | exact C_mv HR0_0.out); (case side2 => exact HC0_0.out); (case side3 => first | exact C_mv (Kd.C_below HR0_1.out HB.out) | exact C_mv HR0_1.out); (case side4 => exact HC0_1.out); rintro e w52 ⟨v349, v352, rfl, ho0, ho1, hb⟩; refine ⟨_, rfl, ?_⟩; have HO350 := aM (Kd.R_lower ho0 (below_size (by repeat (first | (with_reducible first | exact HB.out | apply bA | apply bN | apply bD | refine below_set ?_ GE321.out | refine below_set ?_ GE322.out | refine below_set ?_ GE323.out) | exact HB.out)))); have HO353 := aM (Kd.R_lower ho1 (below_size (by repeat (first | (with_reducible first | exact HB.out | apply bA | apply bN | apply bD | refine below_set ?_ GE321.out | refine below_set ?_ GE322.out | refine below_set ?_ GE323.out) | exact HB.out)))); replace BK321 := aM (blk_below (blk_mv BK321.out) hb); replace BK322 := aM (blk_below (blk_mv BK322.out) hb); replace BK323 := aM (blk_below (blk_mv BK323.out) hb); replace HB := aM (below_step (by repeat (first | (with_reducible first | exact HB.out | apply bA | apply bN | apply bD | refine below_set ?_ GE321.out | refine below_set ?_ GE322.out | refine below_set ?_ GE323.out) | exact HB.out)) hb); (try clear hb); (try clear hb2); (try clear hge); (try clear hk); (try clear hi); (try clear ho0); (try clear ho1); obtain ⟨Ao53, co53, eo53⟩ := Kd.R_slice HO350.out; subst eo53; obtain ⟨hcz54_0, hcz54_1, hcz54_2, hfz54_0, hfz54_1, hfz54_2⟩ := blk3 BK323.out; obtain ⟨Ao55, co55, eo55⟩ := Kd.R_slice HO353.out; subst eo55))
    refine bodyPost_ret (results_ct rfl _ _ gb323 28 #[.slice Ao53 t348.length co53, .slice Ao55 t351.length co55, .int .i64 t354] (0, 0) _ rfl (by (with_reducible repeat (first | refine kN ?_ _ | refine kD ?_ | refine kA ?_ _)); refine blk_put (cs := #[.slice Ao53 t348.length co53, .slice Ao55 t351.length co55, .int .i64 0]) ?_ 2 _ rfl; (with_reducible repeat (first | refine kN ?_ _ | refine kD ?_ | refine kA ?_ _)); refine blk_put (cs := #[.slice Ao53 t348.length co53, .slice none 0 0, .int .i64 0]) ?_ 1 _ rfl; (with_reducible repeat (first | refine kN ?_ _ | refine kD ?_ | refine kA ?_ _)); refine blk_put (cs := #[.slice none 0 0, .slice none 0 0, .int .i64 0]) ?_ 0 _ rfl; (with_reducible repeat (first | refine kN ?_ _ | refine kD ?_ | refine kA ?_ _)); exact BK323.out) Try.underlying28 rfl (by kernel_rfl)) rfl ?_
    exact ⟨_, _, by first | rfl | (simp [errW_none, errW_some] <;> rfl) | (simp [*, errW_none, errW_some] <;> rfl), by (with_reducible repeat (first | apply Kd.R_alloc | apply Kd.R_drewN | apply Kd.R_drew)); exact Kd.R_mono (Kd.R_far (p := ⟨gb323, 2, none⟩) (Kd.R_far (p := ⟨gb323, 1, none⟩) (Kd.R_far (p := ⟨gb323, 0, none⟩) (Kd.R_types HO350.out BK323.out (by decide)) (fun _ hk => hk.2) (.slice Ao53 t348.length co53)) (fun _ hk => hk.2) (.slice Ao55 t351.length co55)) (fun _ hk => hk.2) (.int .i64 t354)) (fun _ hk => trivial), by (with_reducible repeat (first | apply Kd.R_alloc | apply Kd.R_drewN | apply Kd.R_drew)); exact Kd.R_mono (Kd.R_far (p := ⟨gb323, 2, none⟩) (Kd.R_far (p := ⟨gb323, 1, none⟩) (Kd.R_far (p := ⟨gb323, 0, none⟩) (Kd.R_types HO353.out BK323.out (by decide)) (fun _ hk => hk.2) (.slice Ao53 t348.length co53)) (fun _ hk => hk.2) (.slice Ao55 t351.length co55)) (fun _ hk => hk.2) (.int .i64 t354)) (fun _ hk => trivial), by repeat (first | (with_reducible first | exact HB.out | apply bA | apply bN | apply bD | refine below_set ?_ GE321.out | refine below_set ?_ GE322.out | refine below_set ?_ GE323.out) | exact HB.out)⟩
   rw [if_neg c45] at H
   have c45b0 : (a1_0 == 4) = false := beq_eq_false_iff_ne.mpr c45
   have c45b1 : (a1_0 != 4) = true := bne_iff_ne.mpr c45
   replace H := Option.bind_eq_some_iff.mp H
   obtain ⟨⟨t356, t359, t362, t363, t366, t369⟩, A560, H⟩ := H
   replace H : (some (t356, t359, t362, t369)) = some (r1, r2, r3, r4) := H
   have A56 := aM A560
   clear A560
   simp only [Option.some.injEq, Prod.mk.injEq] at H
   obtain ⟨rfl, rfl, rfl, rfl⟩ := H
   have hnb57 := NB321_322.out
   have hnc57 := NB322_321.out
   have hnb58 := NB321_323.out
   have hnc58 := NB323_321.out
   obtain ⟨hcz59_0, hcz59_1, hcz59_2, hfz59_0, hfz59_1, hfz59_2⟩ := blk3 BK321.out
   go_wp2_with (first | ((with_reducible refine gate_callee (f := 16) rfl ?_); refine goesL_ (some 52) rfl rfl Try.func16 (by kernel_rfl) rfl #[.agg #[.slice A0_0 l0_0.length c0_0, .slice A0_1 l0_1.length c0_1, .int .i64 a0_2], .int .i64 a2] rfl (by first | rfl | (simp only [List.map_toArray, List.map_cons, List.map_nil, List.length_drop, List.length_take]; try rfl)) ?_; (with_reducible refine (feeder_Tick.calls kj3 _ _ l0_0 _ _ l0_1 a0_2 a2 t356 t359 t362 t363 t366 t369 _ ?side1 ?side2 ?side3 ?side4 A56.out).mono ?_); (case side1 => first | exact C_mv (Kd.C_below HR0_0.out HB.out) | exact C_mv HR0_0.out); (case side2 => exact HC0_0.out); (case side3 => first | exact C_mv (Kd.C_below HR0_1.out HB.out) | exact C_mv HR0_1.out); (case side4 => exact HC0_1.out); rintro e w60 ⟨v357, v360, v364, v367, rfl, ho0, ho1, ho2, ho3, hb⟩; refine ⟨_, rfl, ?_⟩; have HO358 := aM (Kd.R_lower ho0 (below_size (by repeat (first | (with_reducible first | exact HB.out | apply bA | apply bN | apply bD | refine below_set ?_ GE321.out | refine below_set ?_ GE322.out | refine below_set ?_ GE323.out) | exact HB.out)))); have HO361 := aM (Kd.R_lower ho1 (below_size (by repeat (first | (with_reducible first | exact HB.out | apply bA | apply bN | apply bD | refine below_set ?_ GE321.out | refine below_set ?_ GE322.out | refine below_set ?_ GE323.out) | exact HB.out)))); have HO365 := aM (Kd.R_lower ho2 (below_size (by repeat (first | (with_reducible first | exact HB.out | apply bA | apply bN | apply bD | refine below_set ?_ GE321.out | refine below_set ?_ GE322.out | refine below_set ?_ GE323.out) | exact HB.out)))); have HO368 := aM (Kd.R_lower ho3 (below_size (by repeat (first | (with_reducible first | exact HB.out | apply bA | apply bN | apply bD | refine below_set ?_ GE321.out | refine below_set ?_ GE322.out | refine below_set ?_ GE323.out) | exact HB.out)))); replace BK321 := aM (blk_below (blk_mv BK321.out) hb); replace BK322 := aM (blk_below (blk_mv BK322.out) hb); replace BK323 := aM (blk_below (blk_mv BK323.out) hb); replace HB := aM (below_step (by repeat (first | (with_reducible first | exact HB.out | apply bA | apply bN | apply bD | refine below_set ?_ GE321.out | refine below_set ?_ GE322.out | refine below_set ?_ GE323.out) | exact HB.out)) hb); (try clear hb); (try clear hb2); (try clear hge); (try clear hk); (try clear hi); (try clear ho0); (try clear ho1); (try clear ho2); (try clear ho3)) | ((with_reducible refine gate_dst (N := 8) rfl ?_); refine box_event ?hg (N := 8) ?hd (cs := #[.slice none 0 0, .slice none 0 0, .int .i64 0]) (t := 28) ?hr ?_; (case hd => rfl); (case hg => rfl); (case hr => first | (go_simp; done) | (go_simp; rfl)); intro gb370 hg w61 hbox hb; replace HO358 := aM (Kd.R_below (R_mv HO358.out) hb); replace HO361 := aM (Kd.R_below (R_mv HO361.out) hb); replace HO365 := aM (Kd.R_below (R_mv HO365.out) hb); replace HO368 := aM (Kd.R_below (R_mv HO368.out) hb); have BK370 := aM (hbox); have GW370 := aM ((by rw [hg]; exact (below_size (by repeat (first | (with_reducible first | exact HB.out | apply bA | apply bN | apply bD | refine below_set ?_ GE321.out | refine below_set ?_ GE322.out | refine below_set ?_ GE323.out) | exact HB.out))) : w.heap.size ≤ gb370)); have GE370 := aM ((by rw [hg]; exact (below_size (by repeat (first | (with_reducible first | exact HB.out | apply bA | apply bN | apply bD | refine below_set ?_ GE321.out | refine below_set ?_ GE322.out | refine below_set ?_ GE323.out) | exact HB.out))) : w.heap.size ≤ gb370)); replace HB := aM (below_step (by repeat (first | (with_reducible first | exact HB.out | apply bA | apply bN | apply bD | refine below_set ?_ GE321.out | refine below_set ?_ GE322.out | refine below_set ?_ GE323.out) | exact HB.out)) hb); have NB321_370 := aM ((by rw [hg]; exact Nat.ne_of_lt (blk_lt (blk_mv BK321.out)) : gb321 ≠ gb370)); have NB370_321 := aM ((by rw [hg]; exact Nat.ne_of_gt (blk_lt (blk_mv BK321.out)) : gb370 ≠ gb321)); replace BK321 := aM (blk_below (blk_mv BK321.out) hb); have NB322_370 := aM ((by rw [hg]; exact Nat.ne_of_lt (blk_lt (blk_mv BK322.out)) : gb322 ≠ gb370)); have NB370_322 := aM ((by rw [hg]; exact Nat.ne_of_gt (blk_lt (blk_mv BK322.out)) : gb370 ≠ gb322)); replace BK322 := aM (blk_below (blk_mv BK322.out) hb); have NB323_370 := aM ((by rw [hg]; exact Nat.ne_of_lt (blk_lt (blk_mv BK323.out)) : gb323 ≠ gb370)); have NB370_323 := aM ((by rw [hg]; exact Nat.ne_of_gt (blk_lt (blk_mv BK323.out)) : gb370 ≠ gb323)); replace BK323 := aM (blk_below (blk_mv BK323.out) hb); clear hb hbox hg; obtain ⟨Ao62, co62, eo62⟩ := Kd.R_slice HO358.out; subst eo62; have hnb63 := NB370_321.out; have hnc63 := NB321_370.out; have hnb64 := NB370_322.out; have hnc64 := NB322_370.out; have hnb65 := NB370_323.out; have hnc65 := NB323_370.out; obtain ⟨hcz66_0, hcz66_1, hcz66_2, hfz66_0, hfz66_1, hfz66_2⟩ := blk3 BK370.out; obtain ⟨Ao67, co67, eo67⟩ := Kd.R_slice HO361.out; subst eo67; have hnb68 := NB323_322.out; have hnc68 := NB322_323.out; obtain ⟨hcz69_0, hcz69_1, hcz69_2, hfz69_0, hfz69_1, hfz69_2⟩ := blk3 BK323.out))
   refine bodyPost_ret (results_ct rfl _ _ gb323 28 #[.slice Ao62 t356.length co62, .slice Ao67 t359.length co67, .int .i64 t362] (0, 0) _ rfl (by (with_reducible repeat (first | refine kN ?_ _ | refine kD ?_ | refine kA ?_ _)); refine blk_put (cs := #[.slice Ao62 t356.length co62, .slice Ao67 t359.length co67, .int .i64 0]) ?_ 2 _ rfl; (with_reducible repeat (first | refine kN ?_ _ | refine kD ?_ | refine kA ?_ _)); refine blk_put (cs := #[.slice Ao62 t356.length co62, .slice none 0 0, .int .i64 0]) ?_ 1 _ rfl; (with_reducible repeat (first | refine kN ?_ _ | refine kD ?_ | refine kA ?_ _)); refine blk_put (cs := #[.slice none 0 0, .slice none 0 0, .int .i64 0]) ?_ 0 _ rfl; (with_reducible repeat (first | refine kN ?_ _ | refine kD ?_ | refine kA ?_ _)); refine blk_far ?_ NB323_370.out _; (with_reducible repeat (first | refine kN ?_ _ | refine kD ?_ | refine kA ?_ _)); refine blk_far ?_ NB323_370.out _; (with_reducible repeat (first | refine kN ?_ _ | refine kD ?_ | refine kA ?_ _)); refine blk_far ?_ NB323_370.out _; (with_reducible repeat (first | refine kN ?_ _ | refine kD ?_ | refine kA ?_ _)); exact BK323.out) Try.underlying28 rfl (by kernel_rfl)) rfl ?_
   exact ⟨_, _, by first | rfl | (simp [errW_none, errW_some] <;> rfl) | (simp [*, errW_none, errW_some] <;> rfl), by (with_reducible repeat (first | apply Kd.R_alloc | apply Kd.R_drewN | apply Kd.R_drew)); exact Kd.R_mono (Kd.R_far (p := ⟨gb323, 2, none⟩) (Kd.R_far (p := ⟨gb323, 1, none⟩) (Kd.R_far (p := ⟨gb323, 0, none⟩) (Kd.R_far (p := ⟨gb370, 2, none⟩) (Kd.R_far (p := ⟨gb370, 1, none⟩) (Kd.R_far (p := ⟨gb370, 0, none⟩) (Kd.R_types (Kd.R_types HO358.out BK370.out (by decide)) BK323.out (by decide)) (fun _ hk => hk.1.2) (.slice Ao62 t356.length co62)) (fun _ hk => hk.1.2) (.slice Ao67 t359.length co67)) (fun _ hk => hk.1.2) (.int .i64 t362)) (fun _ hk => hk.2) (.slice Ao62 t356.length co62)) (fun _ hk => hk.2) (.slice Ao67 t359.length co67)) (fun _ hk => hk.2) (.int .i64 t362)) (fun _ hk => trivial), by (with_reducible repeat (first | apply Kd.R_alloc | apply Kd.R_drewN | apply Kd.R_drew)); exact Kd.R_mono (Kd.R_far (p := ⟨gb323, 2, none⟩) (Kd.R_far (p := ⟨gb323, 1, none⟩) (Kd.R_far (p := ⟨gb323, 0, none⟩) (Kd.R_far (p := ⟨gb370, 2, none⟩) (Kd.R_far (p := ⟨gb370, 1, none⟩) (Kd.R_far (p := ⟨gb370, 0, none⟩) (Kd.R_types (Kd.R_types HO361.out BK370.out (by decide)) BK323.out (by decide)) (fun _ hk => hk.1.2) (.slice Ao62 t356.length co62)) (fun _ hk => hk.1.2) (.slice Ao67 t359.length co67)) (fun _ hk => hk.1.2) (.int .i64 t362)) (fun _ hk => hk.2) (.slice Ao62 t356.length co62)) (fun _ hk => hk.2) (.slice Ao67 t359.length co67)) (fun _ hk => hk.2) (.int .i64 t362)) (fun _ hk => trivial), by repeat (first | (with_reducible first | exact HB.out | apply bA | apply bN | apply bD | refine below_set ?_ GE321.out | refine below_set ?_ GE322.out | refine below_set ?_ GE323.out | refine below_set ?_ GE370.out) | exact HB.out)⟩

end Go.Proofs.Ytcgeflbifbaecaa.PFes
