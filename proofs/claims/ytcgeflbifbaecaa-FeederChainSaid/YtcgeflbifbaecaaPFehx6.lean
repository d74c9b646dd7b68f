/- Functions of the given program as Lean functions, and proofs that its calls come to what these say. Written by a program of this seat (wip/mkprint.py); Lean checks it all. -/
import Derived.Test.YtcgeflbifbaecaaPFehx0
import Derived.Test.YtcgeflbifbaecaaPFehx3
import Derived.Test.YtcgeflbifbaecaaPFehx4
namespace Go.Proofs.Ytcgeflbifbaecaa.PFeh
open Go.RowKit Go.Proofs.YtcgeflbifbaecaaW.PrintWords Go.Proofs.YtcgeflbifbaecaaW.PrintLast Go.Proofs.YtcgeflbifbaecaaW.PrintMore
attribute [local go_sem] max2_int min2_int max_two min_two max_three min_three max_four min_four   -- for this text's walks alone
set_option linter.unusedVariables false
set_option linter.unusedSimpArgs false

/-! ### feeder_Tick: function 16 -/
mutual
def feeder_Tick.l0 : Nat → Int → List Int → List Int → Int → List (S32) → List Int → Int → List (S32) → List Int → Int → Option ((List (S32)) × List Int × Int × List Int × List Int × Int)
 | 0, _, _, _, _, _, _, _, _, _, _ => none
 | k + 1, x1, x10, x11, x12, x186000, x186001, x186002, x197000, x197001, x197002 => if x12 ≥ 0 then (if 0 ≤ x12 then (if x12 < (x197000.length : Int) then ((feeder_waits.f ((rd_T32 x197000 x12).f0) ((rd_T32 x197000 x12).f1) ((rd_T32 x197000 x12).f2) ((rd_T32 x197000 x12).f3) ((rd_T32 x197000 x12).f4)).bind fun t199 => (if t199 = true then (feeder_Tick.j1 k x1 x10 x11 x12 (decide ((wrap64 (x1 - ((rd_T32 x197000 x12).f1))) < x186002)) x186000 x186001 x186002 x197000 x197001 x197002) else (feeder_Tick.j1 k x1 x10 x11 x12 true x186000 x186001 x186002 x197000 x197001 x197002))) else (none)) else (none)) else (some (x197000, x197001, x197002, x10, x11, 0))
def feeder_Tick.j1 : Nat → Int → List Int → List Int → Int → Bool → List (S32) → List Int → Int → List (S32) → List Int → Int → Option ((List (S32)) × List Int × Int × List Int × List Int × Int)
 | 0, _, _, _, _, _, _, _, _, _, _, _ => none
 | k + 1, x1, x10, x11, x12, x54, x186000, x186001, x186002, x197000, x197001, x197002 => if x54 = true then (feeder_Tick.l0 k x1 x10 x11 (wrap64 (x12 - 1)) x186000 x186001 x186002 x197000 x197001 x197002) else (if 0 ≤ x12 then (if x12 < (x197000.length : Int) then ((some (x197000.set (x12 : Int).toNat (⟨(rd_T32 x197000 x12).f0, (rd_T32 x197000 x12).f1, (rd_T32 x197000 x12).f2, (rd_T32 x197000 x12).f3, true⟩ : S32) : List (S32))).bind fun y201 => (if x10.length < 17592186044416 then ((some (x10 ++ [x12] : List Int)).bind fun y202 => (if ((rd_T32 y201 x12).f0) ≥ 0 then ((feeder_open.f y201 x197001 x197002 ((rd_T32 y201 x12).f0) x1).bind fun bt207 => (if bt207.1 = true then (if x11.length < 17592186044416 then (feeder_Tick.l0 k x1 y202 (x11 ++ [(rd_T32 bt207.2 x12).f0]) (wrap64 (x12 - 1)) x186000 x186001 x186002 bt207.2 x197001 x197002) else (none)) else (feeder_Tick.l0 k x1 y202 x11 (wrap64 (x12 - 1)) x186000 x186001 x186002 bt207.2 x197001 x197002))) else (feeder_Tick.l0 k x1 y202 x11 (wrap64 (x12 - 1)) x186000 x186001 x186002 y201 x197001 x197002))) else (none))) else (none)) else (none))
end
def feeder_Tick.f (k : Nat) (l0_0 : List (S32)) (l0_1 : List Int) (a0_2 : Int) (a1 : Int) : Option ((List (S32)) × List Int × Int × List Int × List Int × Int) := (feeder_Check.f k l0_0 l0_1 a0_2).bind fun t187 => (if t187 = 0 then ((feeder_timely.f k l0_0 l0_1 a0_2 a1).bind fun t188 => (if t188 = true then ((feeder_clone.f l0_0 l0_1 a0_2).bind fun bt189 => (feeder_Tick.l0 k a1 ([] : List Int) ([] : List Int) (wrap64 ((bt189.1.length : Int) - 1)) l0_0 l0_1 a0_2 bt189.1 bt189.2.1 bt189.2.2)) else (some (([] : List (S32)), ([] : List Int), 0, ([] : List Int), ([] : List Int), 8)))) else (some (([] : List (S32)), ([] : List Int), 0, ([] : List Int), ([] : List Int), t187)))
theorem feeder_Tick.mono_l : ∀ k, (∀ y0 y1 y2 y3 y4 y5 y6 y7 y8 y9, LeO (feeder_Tick.l0 k y0 y1 y2 y3 y4 y5 y6 y7 y8 y9) (feeder_Tick.l0 (k + 1) y0 y1 y2 y3 y4 y5 y6 y7 y8 y9)) ∧ (∀ y0 y1 y2 y3 y4 y5 y6 y7 y8 y9 y10, LeO (feeder_Tick.j1 k y0 y1 y2 y3 y4 y5 y6 y7 y8 y9 y10) (feeder_Tick.j1 (k + 1) y0 y1 y2 y3 y4 y5 y6 y7 y8 y9 y10))
 | 0 => ⟨fun _ _ _ _ _ _ _ _ _ _ r h => by simp [feeder_Tick.l0] at h, fun _ _ _ _ _ _ _ _ _ _ _ r h => by simp [feeder_Tick.j1] at h⟩
 | k + 1 => by
  obtain ⟨ih0, ih1⟩ := feeder_Tick.mono_l k
  refine ⟨?_, ?_⟩
  ·
   intro y0 y1 y2 y3 y4 y5 y6 y7 y8 y9
   unfold feeder_Tick.l0
   repeat' first
   | (with_reducible exact ih0 _ _ _ _ _ _ _ _ _ _)
   | (with_reducible exact ih1 _ _ _ _ _ _ _ _ _ _ _)
   | (with_reducible exact feeder_Check.mono _ _ _ _)
   | (with_reducible exact feeder_timely.mono _ _ _ _ _)
   | (with_reducible exact LeO.refl _)
   | (with_reducible exact LeO.none _)
   | (with_reducible refine LeO.ite ?_ ?_)
   | (with_reducible refine LeO.bind ?_ (fun _ => ?_))
   | exact ih0 _ _ _ _ _ _ _ _ _ _
   | exact ih1 _ _ _ _ _ _ _ _ _ _ _
   | exact LeO.none _
   | refine LeO.ite ?_ ?_
   | refine LeO.bind ?_ (fun _ => ?_)
  intro y0 y1 y2 y3 y4 y5 y6 y7 y8 y9 y10
  unfold feeder_Tick.j1
  repeat' first
  | (with_reducible exact ih0 _ _ _ _ _ _ _ _ _ _)
  | (with_reducible exact ih1 _ _ _ _ _ _ _ _ _ _ _)
  | (with_reducible exact feeder_Check.mono _ _ _ _)
  | (with_reducible exact feeder_timely.mono _ _ _ _ _)
  | (with_reducible exact LeO.refl _)
  | (with_reducible exact LeO.none _)
  | (with_reducible refine LeO.ite ?_ ?_)
  | (with_reducible refine LeO.bind ?_ (fun _ => ?_))
  | exact ih0 _ _ _ _ _ _ _ _ _ _
  | exact ih1 _ _ _ _ _ _ _ _ _ _ _
  | exact LeO.none _
  | refine LeO.ite ?_ ?_
  | refine LeO.bind ?_ (fun _ => ?_)
theorem feeder_Tick.mono : ∀ a0 a1 a2 a3 k, LeO (feeder_Tick.f k a0 a1 a2 a3) (feeder_Tick.f (k + 1) a0 a1 a2 a3) := by
 intro a0 a1 a2 a3 k
 obtain ⟨ih0, ih1⟩ := feeder_Tick.mono_l k
 unfold feeder_Tick.f
 repeat' first
   | (with_reducible exact ih0 _ _ _ _ _ _ _ _ _ _)
   | (with_reducible exact ih1 _ _ _ _ _ _ _ _ _ _ _)
   | (with_reducible exact feeder_Check.mono _ _ _ _)
   | (with_reducible exact feeder_timely.mono _ _ _ _ _)
   | (with_reducible exact LeO.refl _)
   | (with_reducible exact LeO.none _)
   | (with_reducible refine LeO.ite ?_ ?_)
   | (with_reducible refine LeO.bind ?_ (fun _ => ?_))
   | exact ih0 _ _ _ _ _ _ _ _ _ _
   | exact ih1 _ _ _ _ _ _ _ _ _ _ _
   | exact LeO.none _
   | refine LeO.ite ?_ ?_
   | refine LeO.bind ?_ (fun _ => ?_)
def feeder_Tick.T12 : Bool × List (List Nat × List Nat) := (true, [([], []), ([0], [0]), ([1], [1]), ([2], [2]), ([3], [3]), ([4, 3], [4]), ([5], [5]), ([5], [5]), ([7, 5], [5, 7]), ([8, 5], [5, 8]), ([9, 5], [5, 9]), ([6, 10, 5], [5, 6, 10]), ([5], [5]), ([12, 5], [5, 12]), ([11, 13, 5], [5, 11, 13]), ([5, 14], [5, 14])])
def feeder_Tick.B12 : List Nat := [0, 1, 3, 7, 15, 31, 63, 63, 191, 447, 959, 2047, 63, 4159, 16383, 32767]
theorem feeder_Tick.tab12 : rtab .any (opsOf Try.f16 12) = feeder_Tick.T12 := by kernel_rfl
theorem feeder_Tick.bits12 : waitsOk feeder_Tick.T12.2 feeder_Tick.B12 = true := by kernel_rfl
def feeder_Tick.T15 : Bool × List (List Nat × List Nat) := (true, [([], []), ([0], [0]), ([1], [1]), ([2], [2]), ([3], [3]), ([4], [4]), ([5], [5]), ([5], [5]), ([7, 5], [5, 7]), ([8, 5], [5, 8]), ([9, 5], [5, 9]), ([5], [5]), ([6, 10, 11, 5, 5], [5, 6, 10, 11]), ([5, 12], [5, 12])])
def feeder_Tick.B15 : List Nat := [0, 1, 3, 7, 15, 31, 63, 63, 191, 447, 959, 63, 4095, 8191]
theorem feeder_Tick.tab15 : rtab .any (opsOf Try.f16 15) = feeder_Tick.T15 := by kernel_rfl
theorem feeder_Tick.bits15 : waitsOk feeder_Tick.T15.2 feeder_Tick.B15 = true := by kernel_rfl
set_option maxHeartbeats 8000000 in
set_option maxRecDepth 100000 in
theorem feeder_Tick.calls (k : Nat) (A0_0 : Option Addr) (c0_0 : Nat) (l0_0 : List (S32)) (A0_1 : Option Addr) (c0_1 : Nat) (l0_1 : List Int) (a0_2 : Int) (a1 : Int) (r1 : List (S32)) (r2 : List Int) (r3 : Int) (r4 : List Int) (r5 : List Int) (r6 : Int) (w : World) (hr0_0 : Kd.C k32 w A0_0 l0_0.length l0_0) (hc0_0 : l0_0.length ≤ c0_0) (hr0_1 : Kd.C (Kd.int .i64) w A0_1 l0_1.length l0_1) (hc0_1 : l0_1.length ≤ c0_1) (h : feeder_Tick.f k l0_0 l0_1 a0_2 a1 = some (r1, r2, r3, r4, r5, r6)) :
  Calls Try.prog 16 #[.agg #[.slice A0_0 l0_0.length c0_0, .slice A0_1 l0_1.length c0_1, .int .i64 a0_2], .int .i64 a1] w fun e w' => ∃ v0_ v1_ v3_ v4_ : Value, e = .returned (.tuple #[.agg #[v0_, v1_, .int .i64 r3], v3_, v4_, .int .i64 r6]) ∧ Kd.R k32 32 w' w.heap.size (fun _ => True) v0_ r1 ∧ Kd.R (Kd.int .i64) 3 w' w.heap.size (fun k_ => some k_ ≠ (v3_ : Value).ownBlock ∧ some k_ ≠ (v4_ : Value).ownBlock) v1_ r2 ∧ Kd.R (Kd.int .i64) 3 w' w.heap.size (fun k_ => some k_ ≠ (v1_ : Value).ownBlock ∧ some k_ ≠ (v4_ : Value).ownBlock) v3_ r4 ∧ Kd.R (Kd.int .i64) 3 w' w.heap.size (fun k_ => some k_ ≠ (v1_ : Value).ownBlock ∧ some k_ ≠ (v3_ : Value).ownBlock) v4_ r5 ∧ Below w.heap.size w w' := by
 have hu28 := Try.underlying28
 have hu32 := Try.underlying32
 have HR0_0 := aM hr0_0
 have HC0_0 := aM hc0_0
 clear hr0_0 hc0_0
 have HR0_1 := aM hr0_1
 have HC0_1 := aM hc0_1
 clear hr0_1 hc0_1
 have HB := aM (Below.refl w.heap.size w)
 have H : ((feeder_Check.f k l0_0 l0_1 a0_2).bind fun t187 => (if t187 = 0 then ((feeder_timely.f k l0_0 l0_1 a0_2 a1).bind fun t188 => (if t188 = true then ((feeder_clone.f l0_0 l0_1 a0_2).bind fun bt189 => (feeder_Tick.l0 k a1 ([] : List Int) ([] : List Int) (wrap64 ((bt189.1.length : Int) - 1)) l0_0 l0_1 a0_2 bt189.1 bt189.2.1 bt189.2.2)) else (some (([] : List (S32)), ([] : List Int), 0, ([] : List Int), ([] : List Int), 8)))) else (some (([] : List (S32)), ([] : List Int), 0, ([] : List Int), ([] : List Int), t187)))) = some (r1, r2, r3, r4, r5, r6) := h
 clear h
 replace H := Option.bind_eq_some_iff.mp H
 obtain ⟨t187, A30, H⟩ := H
 replace H : (if t187 = 0 then ((feeder_timely.f k l0_0 l0_1 a0_2 a1).bind fun t188 => (if t188 = true then ((feeder_clone.f l0_0 l0_1 a0_2).bind fun bt189 => (feeder_Tick.l0 k a1 ([] : List Int) ([] : List Int) (wrap64 ((bt189.1.length : Int) - 1)) l0_0 l0_1 a0_2 bt189.1 bt189.2.1 bt189.2.2)) else (some (([] : List (S32)), ([] : List Int), 0, ([] : List Int), ([] : List Int), 8)))) else (some (([] : List (S32)), ([] : List Int), 0, ([] : List Int), ([] : List Int), t187))) = some (r1, r2, r3, r4, r5, r6) := H
 have A3 := aM A30
 clear A30
 by_cases c4 : t187 = 0
 ·
  rw [if_pos c4] at H
  have c4b0 : (t187 == 0) = true := beq_iff_eq.mpr c4
  have c4b1 : (t187 != 0) = false := bne_eq_false_iff_eq.mpr c4
  clear c4
  replace H := Option.bind_eq_some_iff.mp H
  obtain ⟨t188, A50, H⟩ := H
  replace H : (if t188 = true then ((feeder_clone.f l0_0 l0_1 a0_2).bind fun bt189 => (feeder_Tick.l0 k a1 ([] : List Int) ([] : List Int) (wrap64 ((bt189.1.length : Int) - 1)) l0_0 l0_1 a0_2 bt189.1 bt189.2.1 bt189.2.2)) else (some (([] : List (S32)), ([] : List Int), 0, ([] : List Int), ([] : List Int), 8))) = some (r1, r2, r3, r4, r5, r6) := H
  have A5 := aM A50
  clear A50
  by_cases c6 : t188 = true
  ·
   subst c6
   have H1 : ((feeder_clone.f l0_0 l0_1 a0_2).bind fun bt189 => (feeder_Tick.l0 k a1 ([] : List Int) ([] : List Int) (wrap64 ((bt189.1.length : Int) - 1)) l0_0 l0_1 a0_2 bt189.1 bt189.2.1 bt189.2.2)) = some (r1, r2, r3, r4, r5, r6) := by rw [if_pos rfl] at H; exact H
   clear H
   have H := H1
   clear H1
   replace H := Option.bind_eq_some_iff.mp H
   obtain ⟨⟨t189, t192, t195⟩, A70, H⟩ := H
   replace H : (feeder_Tick.l0 k a1 ([] : List Int) ([] : List Int) (wrap64 ((t189.length : Int) - 1)) l0_0 l0_1 a0_2 t189 t192 t195) = some (r1, r2, r3, r4, r5, r6) := H
   have A7 := aM A70
   clear A70
   have H' := aM H
   clear H
   go_enter Try.func16, Try.ntmps16
   go_wp2_with (first | ((with_reducible refine gate_dst (N := 2) rfl ?_); refine box_event ?hg (N := 2) ?hd (cs := #[.slice A0_0 l0_0.length c0_0, .slice A0_1 l0_1.length c0_1, .int .i64 a0_2]) (t := 28) ?hr ?_; (case hd => rfl); (case hg => rfl); (case hr => first | (go_simp; done) | (go_simp; rfl)); intro gb185 hg w8 hbox hb; have BK185 := aM (hbox); have GW185 := aM ((by rw [hg]; exact (below_size (below_mv HB.out)) : w.heap.size ≤ gb185)); have GE185 := aM ((by rw [hg]; exact (below_size (below_mv HB.out)) : w.heap.size ≤ gb185)); replace HB := aM (below_step (below_mv HB.out) hb); clear hb hbox hg) | ((with_reducible refine gate_dst (N := 4) rfl ?_); refine box_event ?hg (N := 4) ?hd (cs := #[.slice none 0 0, .slice none 0 0, .int .i64 0]) (t := 28) ?hr ?_; (case hd => rfl); (case hg => rfl); (case hr => first | (go_simp; done) | (go_simp; rfl)); intro gb186 hg w9 hbox hb; have BK186 := aM (hbox); have GW186 := aM ((by rw [hg]; exact (below_size (by repeat (first | (with_reducible first | exact HB.out | apply bA | apply bN | apply bD | refine below_set ?_ GE185.out) | exact HB.out))) : w.heap.size ≤ gb186)); have GE186 := aM ((by rw [hg]; exact (below_size (by repeat (first | (with_reducible first | exact HB.out | apply bA | apply bN | apply bD | refine below_set ?_ GE185.out) | exact HB.out))) : w.heap.size ≤ gb186)); replace HB := aM (below_step (by repeat (first | (with_reducible first | exact HB.out | apply bA | apply bN | apply bD | refine below_set ?_ GE185.out) | exact HB.out)) hb); have NB185_186 := aM ((by rw [hg]; exact Nat.ne_of_lt (blk_lt (blk_mv BK185.out)) : gb185 ≠ gb186)); have NB186_185 := aM ((by rw [hg]; exact Nat.ne_of_gt (blk_lt (blk_mv BK185.out)) : gb186 ≠ gb185)); replace BK185 := aM (blk_below (blk_mv BK185.out) hb); clear hb hbox hg; have hnb10 := NB185_186.out; have hnc10 := NB186_185.out; obtain ⟨hcz11_0, hcz11_1, hcz11_2, hfz11_0, hfz11_1, hfz11_2⟩ := blk3 BK185.out) | ((with_reducible refine gate_callee (f := 23) rfl ?_); refine goesL_ (some 15) rfl rfl Try.func23 (by kernel_rfl) rfl #[.agg #[.slice A0_0 l0_0.length c0_0, .slice A0_1 l0_1.length c0_1, .int .i64 a0_2]] rfl (by first | rfl | (simp only [List.map_toArray, List.map_cons, List.map_nil, List.length_drop, List.length_take]; try rfl)) ?_; (with_reducible refine (feeder_Check.calls k _ _ l0_0 _ _ l0_1 a0_2 t187 _ ?side1 ?side2 ?side3 ?side4 A3.out).mono ?_); (case side1 => first | exact C_mv (Kd.C_below HR0_0.out HB.out) | exact C_mv HR0_0.out); (case side2 => exact HC0_0.out); (case side3 => first | exact C_mv (Kd.C_below HR0_1.out HB.out) | exact C_mv HR0_1.out); (case side4 => exact HC0_1.out); rintro e w12 ⟨rfl, hb⟩; refine ⟨_, rfl, ?_⟩; replace BK185 := aM (blk_below (blk_mv BK185.out) hb); replace BK186 := aM (blk_below (blk_mv BK186.out) hb); replace HB := aM (below_step (by repeat (first | (with_reducible first | exact HB.out | apply bA | apply bN | apply bD | refine below_set ?_ GE185.out | refine below_set ?_ GE186.out) | exact HB.out)) hb); (try clear hb); (try clear hb2); (try clear hge); (try clear hk); (try clear hi); obtain ⟨hcz13_0, hcz13_1, hcz13_2, hfz13_0, hfz13_1, hfz13_2⟩ := blk3 BK185.out) | ((with_reducible refine gate_callee (f := 46) rfl ?_); refine goesL_ (some 22) rfl rfl Try.func46 (by kernel_rfl) rfl #[.agg #[.slice A0_0 l0_0.length c0_0, .slice A0_1 l0_1.length c0_1, .int .i64 a0_2], .int .i64 a1] rfl (by first | rfl | (simp only [List.map_toArray, List.map_cons, List.map_nil, List.length_drop, List.length_take]; try rfl)) ?_; (with_reducible refine (feeder_timely.calls k _ _ l0_0 _ _ l0_1 a0_2 a1 true _ ?side1 ?side2 ?side3 ?side4 A5.out).mono ?_); (case side1 => first | exact C_mv (Kd.C_below HR0_0.out HB.out) | exact C_mv HR0_0.out); (case side2 => exact HC0_0.out); (case side3 => first | exact C_mv (Kd.C_below HR0_1.out HB.out) | exact C_mv HR0_1.out); (case side4 => exact HC0_1.out); rintro e w14 ⟨rfl, hb⟩; refine ⟨_, rfl, ?_⟩; replace BK185 := aM (blk_below (blk_mv BK185.out) hb); replace BK186 := aM (blk_below (blk_mv BK186.out) hb); replace HB := aM (below_step (by repeat (first | (with_reducible first | exact HB.out | apply bA | apply bN | apply bD | refine below_set ?_ GE185.out | refine below_set ?_ GE186.out) | exact HB.out)) hb); (try clear hb); (try clear hb2); (try clear hge); (try clear hk); (try clear hi); obtain ⟨hcz15_0, hcz15_1, hcz15_2, hfz15_0, hfz15_1, hfz15_2⟩ := blk3 BK185.out) | ((with_reducible refine gate_callee (f := 43) rfl ?_); refine goesL_ (some 26) rfl rfl Try.func43 (by kernel_rfl) rfl #[.agg #[.slice A0_0 l0_0.length c0_0, .slice A0_1 l0_1.length c0_1, .int .i64 a0_2]] rfl (by first | rfl | (simp only [List.map_toArray, List.map_cons, List.map_nil, List.length_drop, List.length_take]; try rfl)) ?_; (with_reducible refine (feeder_clone.calls _ _ l0_0 _ _ l0_1 a0_2 t189 t192 t195 _ ?side1 ?side2 ?side3 ?side4 A7.out).mono ?_); (case side1 => first | exact C_mv (Kd.C_below HR0_0.out HB.out) | exact C_mv HR0_0.out); (case side2 => exact HC0_0.out); (case side3 => first | exact C_mv (Kd.C_below HR0_1.out HB.out) | exact C_mv HR0_1.out); (case side4 => exact HC0_1.out); rintro e w16 ⟨v190, v193, rfl, ho0, ho1, hb⟩; refine ⟨_, rfl, ?_⟩; have HO191 := aM (Kd.R_lower ho0 (below_size (by repeat (first | (with_reducible first | exact HB.out | apply bA | apply bN | apply bD | refine below_set ?_ GE185.out | refine below_set ?_ GE186.out) | exact HB.out)))); have HO194 := aM (Kd.R_lower ho1 (below_size (by repeat (first | (with_reducible first | exact HB.out | apply bA | apply bN | apply bD | refine below_set ?_ GE185.out | refine below_set ?_ GE186.out) | exact HB.out)))); replace BK185 := aM (blk_below (blk_mv BK185.out) hb); replace BK186 := aM (blk_below (blk_mv BK186.out) hb); replace HB := aM (below_step (by repeat (first | (with_reducible first | exact HB.out | apply bA | apply bN | apply bD | refine below_set ?_ GE185.out | refine below_set ?_ GE186.out) | exact HB.out)) hb); (try clear hb); (try clear hb2); (try clear hge); (try clear hk); (try clear hi); (try clear ho0); (try clear ho1)) | ((with_reducible refine gate_dst (N := 9) rfl ?_); refine box_event ?hg (N := 9) ?hd (cs := #[.slice none 0 0, .slice none 0 0, .int .i64 0]) (t := 28) ?hr ?_; (case hd => rfl); (case hg => rfl); (case hr => first | (go_simp; done) | (go_simp; rfl)); intro gb196 hg w17 hbox hb; replace HO191 := aM (Kd.R_below (R_mv HO191.out) hb); replace HO194 := aM (Kd.R_below (R_mv HO194.out) hb); have BK196 := aM (hbox); have GW196 := aM ((by rw [hg]; exact (below_size (by repeat (first | (with_reducible first | exact HB.out | apply bA | apply bN | apply bD | refine below_set ?_ GE185.out | refine below_set ?_ GE186.out) | exact HB.out))) : w.heap.size ≤ gb196)); have GE196 := aM ((by rw [hg]; exact (below_size (by repeat (first | (with_reducible first | exact HB.out | apply bA | apply bN | apply bD | refine below_set ?_ GE185.out | refine below_set ?_ GE186.out) | exact HB.out))) : w.heap.size ≤ gb196)); replace HB := aM (below_step (by repeat (first | (with_reducible first | exact HB.out | apply bA | apply bN | apply bD | refine below_set ?_ GE185.out | refine below_set ?_ GE186.out) | exact HB.out)) hb); have NB185_196 := aM ((by rw [hg]; exact Nat.ne_of_lt (blk_lt (blk_mv BK185.out)) : gb185 ≠ gb196)); have NB196_185 := aM ((by rw [hg]; exact Nat.ne_of_gt (blk_lt (blk_mv BK185.out)) : gb196 ≠ gb185)); replace BK185 := aM (blk_below (blk_mv BK185.out) hb); have NB186_196 := aM ((by rw [hg]; exact Nat.ne_of_lt (blk_lt (blk_mv BK186.out)) : gb186 ≠ gb196)); have NB196_186 := aM ((by rw [hg]; exact Nat.ne_of_gt (blk_lt (blk_mv BK186.out)) : gb196 ≠ gb186)); replace BK186 := aM (blk_below (blk_mv BK186.out) hb); clear hb hbox hg; obtain ⟨Ao18, co18, eo18⟩ := Kd.R_slice HO191.out; subst eo18; have hnb19 := NB196_185.out; have hnc19 := NB185_196.out; have hnb20 := NB196_186.out; have hnc20 := NB186_196.out; obtain ⟨hcz21_0, hcz21_1, hcz21_2, hfz21_0, hfz21_1, hfz21_2⟩ := blk3 BK196.out; obtain ⟨Ao22, co22, eo22⟩ := Kd.R_slice HO194.out; subst eo22))
   go_loopg [10, 11, 12] k (fun kq v10 v11 v12 w' => ∃ (x10_1 : List Int) (x11_1 : List Int) (x12_1 : Int) (x197000_1 : List (S32)) (u197000 : Value), v12 = .int .i64 x12_1 ∧ Aside0 (feeder_Tick.l0 kq a1 x10_1 x11_1 x12_1 l0_0 l0_1 a0_2 x197000_1 t192 t195 = some (r1, r2, r3, r4, r5, r6)) ∧ Aside0 (kq ≤ k) ∧ Aside0 (Kd.R (Kd.int .i64) 3 w' w.heap.size (fun k_ => some k_ ≠ (v11 : Value).ownBlock ∧ some k_ ≠ ((.slice Ao22 t192.length co22) : Value).ownBlock) v10 x10_1) ∧ Aside0 (Kd.R (Kd.int .i64) 3 w' w.heap.size (fun k_ => some k_ ≠ (v10 : Value).ownBlock ∧ some k_ ≠ ((.slice Ao22 t192.length co22) : Value).ownBlock) v11 x11_1) ∧ Aside0 (Kd.R k32 32 w' w.heap.size (fun _ => True) u197000 x197000_1) ∧ Aside0 (Kd.R (Kd.int .i64) 3 w' w.heap.size (fun k_ => some k_ ≠ (v10 : Value).ownBlock ∧ some k_ ≠ (v11 : Value).ownBlock) (.slice Ao22 t192.length co22) t192) ∧ Aside0 (w'.heap[gb185]? = some (.cells #[(.slice A0_0 l0_0.length c0_0), (.slice A0_1 l0_1.length c0_1), .int .i64 a0_2] 28 (0, 0))) ∧ Aside0 (w'.heap[gb186]? = some (.cells #[(.slice none 0 0), (.slice none 0 0), .int .i64 0] 28 (0, 0))) ∧ Aside0 (w'.heap[gb196]? = some (.cells #[u197000, (.slice Ao22 t192.length co22), .int .i64 t195] 28 (0, 0))) ∧ Aside0 (Below w.heap.size w w'))
   case atStart => exact ⟨(([] : List Int)), (([] : List Int)), (wrap64 ((t189.length : Int) - 1)), (t189), (.slice Ao18 t189.length co18), (by first | rfl | (simp; done) | (simp [*]; done)), H', ⟨Nat.le_refl _⟩, ⟨by first | exact Kd.R_nil _ _ _ _ _ | exact Kd.N_nil _ _ _ _ _ | exact Kd.V_nil _ _ _ _ _ | exact Kd.Q_nil _ _ _ _ _ | exact Kd.S_nil _ _ _ _ _⟩, ⟨by first | exact Kd.R_nil _ _ _ _ _ | exact Kd.N_nil _ _ _ _ _ | exact Kd.V_nil _ _ _ _ _ | exact Kd.Q_nil _ _ _ _ _ | exact Kd.S_nil _ _ _ _ _⟩, ⟨by (with_reducible repeat (first | apply Kd.R_alloc | apply Kd.R_drewN | apply Kd.R_drew)); exact Kd.R_mono (f3 HO191.out BK196.out (by decide)) (fun _ hk => trivial)⟩, ⟨by (with_reducible repeat (first | apply Kd.R_alloc | apply Kd.R_drewN | apply Kd.R_drew)); exact Kd.R_mono (f3 HO194.out BK196.out (by decide)) (fun _ hk => ⟨(by simp [Value.ownBlock]), (by simp [Value.ownBlock])⟩)⟩, ⟨by (with_reducible repeat (first | refine kN ?_ _ | refine kD ?_ | refine kA ?_ _)); refine blk_far ?_ NB185_196.out _; (with_reducible repeat (first | refine kN ?_ _ | refine kD ?_ | refine kA ?_ _)); refine blk_far ?_ NB185_196.out _; (with_reducible repeat (first | refine kN ?_ _ | refine kD ?_ | refine kA ?_ _)); refine blk_far ?_ NB185_196.out _; (with_reducible repeat (first | refine kN ?_ _ | refine kD ?_ | refine kA ?_ _)); exact BK185.out⟩, ⟨by (with_reducible repeat (first | refine kN ?_ _ | refine kD ?_ | refine kA ?_ _)); refine blk_far ?_ NB186_196.out _; (with_reducible repeat (first | refine kN ?_ _ | refine kD ?_ | refine kA ?_ _)); refine blk_far ?_ NB186_196.out _; (with_reducible repeat (first | refine kN ?_ _ | refine kD ?_ | refine kA ?_ _)); refine blk_far ?_ NB186_196.out _; (with_reducible repeat (first | refine kN ?_ _ | refine kD ?_ | refine kA ?_ _)); exact BK186.out⟩, ⟨by (with_reducible repeat (first | refine kN ?_ _ | refine kD ?_ | refine kA ?_ _)); refine blk_put (cs := #[.slice Ao18 t189.length co18, .slice Ao22 t192.length co22, .int .i64 0]) ?_ 2 _ rfl; (with_reducible repeat (first | refine kN ?_ _ | refine kD ?_ | refine kA ?_ _)); refine blk_put (cs := #[.slice Ao18 t189.length co18, .slice none 0 0, .int .i64 0]) ?_ 1 _ rfl; (with_reducible repeat (first | refine kN ?_ _ | refine kD ?_ | refine kA ?_ _)); refine blk_put (cs := #[.slice none 0 0, .slice none 0 0, .int .i64 0]) ?_ 0 _ rfl; (with_reducible repeat (first | refine kN ?_ _ | refine kD ?_ | refine kA ?_ _)); exact BK196.out⟩, ⟨by repeat (first | (with_reducible first | exact HB.out | apply bA | apply bN | apply bD | refine below_set ?_ GE185.out | refine below_set ?_ GE186.out | refine below_set ?_ GE196.out) | exact HB.out)⟩⟩
   case round =>
    clear H'
    obtain ⟨x10_1, x11_1, x12_1, x197000_1, u197000, rfl, HA, HK1, HO_10, HO_11, HO_197000, HO_197001, BK185, BK186, BK196, HB⟩ := hrel
    cases gk with
    | zero => exact absurd HA.out (by simp [feeder_Tick.l0])
    | succ k1 =>
     have H := HA.out
     clear HA
     simp only [feeder_Tick.l0] at H
     by_cases c23 : x12_1 ≥ 0
     ·
      rw [if_pos c23] at H
      have c23b0 : decide (0 ≤ x12_1) = true := decide_eq_true c23
      clear c23
      by_cases c24 : 0 ≤ x12_1
      rotate_left
      ·
       rw [if_neg c24] at H
       exact absurd H (by simp)
      rw [if_pos c24] at H
      have c24b0 : decide (0 ≤ x12_1) = true := decide_eq_true c24
      clear c24
      by_cases c25 : x12_1 < (x197000_1.length : Int)
      rotate_left
      ·
       rw [if_neg c25] at H
       exact absurd H (by simp)
      rw [if_pos c25] at H
      have c25b0 : decide (x12_1 < (x197000_1.length : Int)) = true := decide_eq_true c25
      clear c25
      have HC26 := aM H
      clear H
      have hnb27 := NB196_185.out
      have hnc27 := NB185_196.out
      have hnb28 := NB196_186.out
      have hnc28 := NB186_196.out
      obtain ⟨hcz29_0, hcz29_1, hcz29_2, hfz29_0, hfz29_1, hfz29_2⟩ := blk3 BK196.out
      obtain ⟨Ao30, co30, eo30⟩ := Kd.R_slice HO_197000.out
      subst eo30
      have p197 : 0 ≤ (x12_1 : Int) := of_decide_eq_true (by first | (with_reducible assumption) | assumption)
      have q197 : x12_1 < (x197000_1.length : Int) := of_decide_eq_true (by first | (with_reducible assumption) | assumption)
      obtain ⟨ad197, e197, hx197_0, hx197_1, hx197_2, hx197_3, hx197_4⟩ := at_T32 (Kd.R_reads' HO_197000.out).2.2 x12_1 p197 q197
      cases e197
      replace p197 := eq_true p197
      replace q197 := eq_true q197
      go_upto_region 12 with (fail)
      go_cut [54] (fun v54 wc => ∃ (kq : Nat) (x54_25 : Bool), v54 = .bool x54_25 ∧ Aside0 (feeder_Tick.j1 kq a1 x10_1 x11_1 x12_1 x54_25 l0_0 l0_1 a0_2 x197000_1 t192 t195 = some (r1, r2, r3, r4, r5, r6)) ∧ Aside0 (kq ≤ k1) ∧ Aside0 (Kd.R (Kd.int .i64) 3 wc w.heap.size (fun k_ => some k_ ≠ (u11 : Value).ownBlock ∧ some k_ ≠ ((.slice Ao22 t192.length co22) : Value).ownBlock) u10 x10_1) ∧ Aside0 (Kd.R (Kd.int .i64) 3 wc w.heap.size (fun k_ => some k_ ≠ (u10 : Value).ownBlock ∧ some k_ ≠ ((.slice Ao22 t192.length co22) : Value).ownBlock) u11 x11_1) ∧ Aside0 (Kd.R k32 32 wc w.heap.size (fun _ => True) (.slice (some ad197) x197000_1.length co30) x197000_1) ∧ Aside0 (Kd.R (Kd.int .i64) 3 wc w.heap.size (fun k_ => some k_ ≠ (u10 : Value).ownBlock ∧ some k_ ≠ (u11 : Value).ownBlock) (.slice Ao22 t192.length co22) t192) ∧ Aside0 (wc.heap[gb185]? = some (.cells #[(.slice A0_0 l0_0.length c0_0), (.slice A0_1 l0_1.length c0_1), .int .i64 a0_2] 28 (0, 0))) ∧ Aside0 (wc.heap[gb186]? = some (.cells #[(.slice none 0 0), (.slice none 0 0), .int .i64 0] 28 (0, 0))) ∧ Aside0 (wc.heap[gb196]? = some (.cells #[(.slice (some ad197) x197000_1.length co30), (.slice Ao22 t192.length co22), .int .i64 t195] 28 (0, 0))) ∧ Aside0 (Below w.heap.size w wc))
      case first =>
       have H := HC26.out
       clear HC26
       replace H := Option.bind_eq_some_iff.mp H
       obtain ⟨t199, A310, H⟩ := H
       replace H : (if t199 = true then (feeder_Tick.j1 k1 a1 x10_1 x11_1 x12_1 (decide ((wrap64 (a1 - ((rd_T32 x197000_1 x12_1).f1))) < a0_2)) l0_0 l0_1 a0_2 x197000_1 t192 t195) else (feeder_Tick.j1 k1 a1 x10_1 x11_1 x12_1 true l0_0 l0_1 a0_2 x197000_1 t192 t195)) = some (r1, r2, r3, r4, r5, r6) := H
       have A31 := aM A310
       clear A310
       by_cases c32 : t199 = true
       ·
        subst c32
        have H1 : (feeder_Tick.j1 k1 a1 x10_1 x11_1 x12_1 (decide ((wrap64 (a1 - ((rd_T32 x197000_1 x12_1).f1))) < a0_2)) l0_0 l0_1 a0_2 x197000_1 t192 t195) = some (r1, r2, r3, r4, r5, r6) := by rw [if_pos rfl] at H; exact H
        clear H
        have H := H1
        clear H1
        have H' := aM H
        clear H
        try go_wp2
        replace HO_10 := aM (Kd.R_drew HO_10.out)
        replace HO_11 := aM (Kd.R_drew HO_11.out)
        replace HO_197000 := aM (Kd.R_drew HO_197000.out)
        replace HO_197001 := aM (Kd.R_drew HO_197001.out)
        replace BK185 := aM (blk_drew BK185.out)
        replace BK186 := aM (blk_drew BK186.out)
        replace BK196 := aM (blk_drew BK196.out)
        replace HB := aM (below_drew1 HB.out)
        have p198 : 0 ≤ (x12_1 : Int) := of_decide_eq_true (by first | (with_reducible assumption) | assumption)
        have q198 : x12_1 < (x197000_1.length : Int) := of_decide_eq_true (by first | (with_reducible assumption) | assumption)
        obtain ⟨ad198, e198, hx198_0, hx198_1, hx198_2, hx198_3, hx198_4⟩ := at_T32 (Kd.R_reads' HO_197000.out).2.2 x12_1 p198 q198
        obtain rfl : ad197 = ad198 := (by injection e198)
        replace p198 := eq_true p198
        replace q198 := eq_true q198
        have p200 : 0 ≤ (x12_1 : Int) := of_decide_eq_true (by first | (with_reducible assumption) | assumption)
        have q200 : x12_1 < (x197000_1.length : Int) := of_decide_eq_true (by first | (with_reducible assumption) | assumption)
        obtain ⟨ad200, e200, hx200_0, hx200_1, hx200_2, hx200_3, hx200_4⟩ := at_T32 (Kd.R_reads' HO_197000.out).2.2 x12_1 p200 q200
        obtain rfl : ad197 = ad200 := (by injection e200)
        replace p200 := eq_true p200
        replace q200 := eq_true q200
        refine start_ (n := 16) (S := fun w' => w'.cell? ⟨gb185, 0, none⟩ = some (.slice A0_0 l0_0.length c0_0) ∧ w'.cell? ⟨gb185, 1, none⟩ = some (.slice A0_1 l0_1.length c0_1) ∧ w'.cell? ⟨gb185, 2, none⟩ = some (.int .i64 a0_2) ∧ w'.cell? (ad197.add ((x12_1).toNat * 5)) = some (.int .i64 ((rd_T32 x197000_1 x12_1).f0)) ∧ w'.cell? ⟨(ad197.add ((x12_1).toNat * 5)).block, (ad197.add ((x12_1).toNat * 5)).off + 1, none⟩ = some (.int .i64 ((rd_T32 x197000_1 x12_1).f1)) ∧ w'.cell? ⟨(ad197.add ((x12_1).toNat * 5)).block, (ad197.add ((x12_1).toNat * 5)).off + 2, none⟩ = some (.int .i64 ((rd_T32 x197000_1 x12_1).f2)) ∧ w'.cell? ⟨(ad197.add ((x12_1).toNat * 5)).block, (ad197.add ((x12_1).toNat * 5)).off + 3, none⟩ = some (.bool ((rd_T32 x197000_1 x12_1).f3)) ∧ w'.cell? ⟨(ad197.add ((x12_1).toNat * 5)).block, (ad197.add ((x12_1).toNat * 5)).off + 4, none⟩ = some (.bool ((rd_T32 x197000_1 x12_1).f4)) ∧ w'.cell? (ad197.add ((x12_1).toNat * 5)) = some (.int .i64 ((rd_T32 x197000_1 x12_1).f0)) ∧ w'.cell? ⟨(ad197.add ((x12_1).toNat * 5)).block, (ad197.add ((x12_1).toNat * 5)).off + 1, none⟩ = some (.int .i64 ((rd_T32 x197000_1 x12_1).f1)) ∧ w'.cell? ⟨(ad197.add ((x12_1).toNat * 5)).block, (ad197.add ((x12_1).toNat * 5)).off + 2, none⟩ = some (.int .i64 ((rd_T32 x197000_1 x12_1).f2)) ∧ w'.cell? ⟨(ad197.add ((x12_1).toNat * 5)).block, (ad197.add ((x12_1).toNat * 5)).off + 3, none⟩ = some (.bool ((rd_T32 x197000_1 x12_1).f3)) ∧ w'.cell? ⟨(ad197.add ((x12_1).toNat * 5)).block, (ad197.add ((x12_1).toNat * 5)).off + 4, none⟩ = some (.bool ((rd_T32 x197000_1 x12_1).f4))) (ds := []) #[false, false, false, false, false, false, false, false, false, false, false, false, false, false, false, false] (by kernel_rfl) rfl rfl ⟨(blk_cell BK185.out 0).trans rfl, (blk_cell BK185.out 1).trans rfl, (blk_cell BK185.out 2).trans rfl, hx198_0, hx198_1, hx198_2, hx198_3, hx198_4, hx200_0, hx200_1, hx200_2, hx200_3, hx200_4⟩ (fun hHeld => ?_); refine with_tabW feeder_Tick.tab12 feeder_Tick.bits12 (fun HT_ HW_ => ?_)
        generalize wr.drew = w33 at HO_10 HO_11 HO_197000 HO_197001 BK185 BK186 BK196 HB hx198_0 hx198_1 hx198_2 hx198_3 hx198_4 hx200_0 hx200_1 hx200_2 hx200_3 hx200_4 hHeld ⊢
        refine pure_ (i := 0) (N := some 39) (v := ?_) (a' := ?_) #[true, false, false, false, false, false, false, false, false, false, false, false, false, false, false, false] rfl rfl (any_of HT_.out (by kernel_rfl)) (fun _ _ _ h => h) (Or.inl ⟨by rfl, ?_⟩) ?_ ?_
        rotate_left
        ·
         intro w'
         go_simp
         with_reducible rfl
        rotate_left
        ·
         simp only [Act.put, sT, sZ, sS, i64_w, i32_w]
         rfl
        refine pure_ (i := 1) (N := some 40) (v := ?_) (a' := ?_) #[true, true, false, false, false, false, false, false, false, false, false, false, false, false, false, false] rfl rfl (any_of HT_.out (by kernel_rfl)) (fun _ _ _ h => h) (Or.inl ⟨by rfl, ?_⟩) ?_ ?_
        rotate_left
        ·
         intro w'
         go_simp
         with_reducible rfl
        rotate_left
        ·
         simp only [Act.put, sT, sZ, sS, i64_w, i32_w]
         rfl
        refine take_ (i := 2) (N := some 41) (v := ?_) (a' := ?_) #[true, true, true, false, false, false, false, false, false, false, false, false, false, false, false, false] rfl rfl (take_ofW HT_.out HW_.out (by kernel_rfl)) (fun _ _ _ h => h) (Or.inl ⟨by rfl, ?_⟩) hHeld ?_ ?_
        rotate_left
        ·
         rintro w' ⟨s0, s1, s2, s3, s4, s5, s6, s7, s8, s9, s10, s11, s12⟩
         go_simp
         with_reducible rfl
        rotate_left
        ·
         simp only [Act.put, sT, sZ, sS, i64_w, i32_w]
         rfl
        refine one_ (i := 3) (N := some 42) #[true, true, true, true, false, false, false, false, false, false, false, false, false, false, false, false] rfl rfl (one_of HT_.out (by kernel_rfl)) (by decide) (fun K hK => ?_)
        refine goes_ Try.func45 (by kernel_rfl) rfl #[.agg #[.int .i64 ((rd_T32 x197000_1 x12_1).f0), .int .i64 ((rd_T32 x197000_1 x12_1).f1), .int .i64 ((rd_T32 x197000_1 x12_1).f2), .bool ((rd_T32 x197000_1 x12_1).f3), .bool ((rd_T32 x197000_1 x12_1).f4)]] (by rfl) rfl rfl (by first | rfl | (simp only [List.map_toArray, List.map_cons, List.map_nil, List.length_drop, List.length_take]; try rfl)) ?_
        with_reducible refine (feeder_waits.calls ((rd_T32 x197000_1 x12_1).f0) ((rd_T32 x197000_1 x12_1).f1) ((rd_T32 x197000_1 x12_1).f2) ((rd_T32 x197000_1 x12_1).f3) ((rd_T32 x197000_1 x12_1).f4) true _ A31.out).mono ?_
        rintro e w34 ⟨rfl, hb⟩
        have HS3_ := (hb.cell (World.block_lt_of_cell? _ _ (hHeld.2.2.2.1))).trans (hHeld.2.2.2.1)
        have HS4_ := (hb.cell (World.block_lt_of_cell? _ _ (hHeld.2.2.2.2.1))).trans (hHeld.2.2.2.2.1)
        have HS5_ := (hb.cell (World.block_lt_of_cell? _ _ (hHeld.2.2.2.2.2.1))).trans (hHeld.2.2.2.2.2.1)
        have HS6_ := (hb.cell (World.block_lt_of_cell? _ _ (hHeld.2.2.2.2.2.2.1))).trans (hHeld.2.2.2.2.2.2.1)
        have HS7_ := (hb.cell (World.block_lt_of_cell? _ _ (hHeld.2.2.2.2.2.2.2.1))).trans (hHeld.2.2.2.2.2.2.2.1)
        have HS8_ := (hb.cell (World.block_lt_of_cell? _ _ (hHeld.2.2.2.2.2.2.2.2.1))).trans (hHeld.2.2.2.2.2.2.2.2.1)
        have HS9_ := (hb.cell (World.block_lt_of_cell? _ _ (hHeld.2.2.2.2.2.2.2.2.2.1))).trans (hHeld.2.2.2.2.2.2.2.2.2.1)
        have HS10_ := (hb.cell (World.block_lt_of_cell? _ _ (hHeld.2.2.2.2.2.2.2.2.2.2.1))).trans (hHeld.2.2.2.2.2.2.2.2.2.2.1)
        have HS11_ := (hb.cell (World.block_lt_of_cell? _ _ (hHeld.2.2.2.2.2.2.2.2.2.2.2.1))).trans (hHeld.2.2.2.2.2.2.2.2.2.2.2.1)
        have HS12_ := (hb.cell (World.block_lt_of_cell? _ _ (hHeld.2.2.2.2.2.2.2.2.2.2.2.2))).trans (hHeld.2.2.2.2.2.2.2.2.2.2.2.2)
        refine ⟨_, rfl, ?_⟩
        replace HO_10 := aM (Kd.R_below (R_mv HO_10.out) hb)
        replace HO_11 := aM (Kd.R_below (R_mv HO_11.out) hb)
        replace HO_197000 := aM (Kd.R_below (R_mv HO_197000.out) hb)
        replace HO_197001 := aM (Kd.R_below (R_mv HO_197001.out) hb)
        replace BK185 := aM (blk_below (blk_mv BK185.out) hb)
        replace BK186 := aM (blk_below (blk_mv BK186.out) hb)
        replace BK196 := aM (blk_below (blk_mv BK196.out) hb)
        replace HB := aM (below_step (by repeat (first | (with_reducible first | exact HB.out | apply bA | apply bN | apply bD | refine below_set ?_ GE185.out | refine below_set ?_ GE186.out | refine below_set ?_ GE196.out) | exact HB.out)) hb)
        (try clear hb)
        (try clear hb2)
        (try clear hge)
        (try clear hk)
        (try clear hi)
        refine hK.out _ _ ⟨(blk_cell BK185.out 0).trans rfl, (blk_cell BK185.out 1).trans rfl, (blk_cell BK185.out 2).trans rfl, HS3_, HS4_, HS5_, HS6_, HS7_, HS8_, HS9_, HS10_, HS11_, HS12_⟩ (fun hHeld => ?_)
        clear hK K
        refine norm_ (a' := ?_) ?_ ?_
        rotate_left
        ·
         show Act.put _ (some 42) _ = _
         simp only [Act.put, sT, sZ, sS, i64_w, i32_w]
         rfl
        refine pure_ (i := 4) (N := some 43) (v := ?_) (a' := ?_) #[true, true, true, true, true, false, false, false, false, false, false, false, false, false, false, false] rfl rfl (any_of HT_.out (by kernel_rfl)) (fun _ _ _ h => h) (Or.inl ⟨by rfl, ?_⟩) ?_ ?_
        rotate_left
        ·
         intro w'
         go_simp
         with_reducible rfl
        rotate_left
        ·
         simp only [Act.put, sT, sZ, sS, i64_w, i32_w]
         rfl
        refine pure_ (i := 5) (N := some 44) (v := ?_) (a' := ?_) #[true, true, true, true, true, true, false, false, false, false, false, false, false, false, false, false] rfl rfl (any_of HT_.out (by kernel_rfl)) (fun _ _ _ h => h) (Or.inl ⟨by rfl, ?_⟩) ?_ ?_
        rotate_left
        ·
         intro w'
         go_simp
         with_reducible rfl
        rotate_left
        ·
         simp only [Act.put, sT, sZ, sS, i64_w, i32_w]
         rfl
        refine pure_ (i := 6) (N := some 45) (v := ?_) (a' := ?_) #[true, true, true, true, true, true, true, false, false, false, false, false, false, false, false, false] rfl rfl (any_of HT_.out (by kernel_rfl)) (fun _ _ _ h => h) (Or.inl ⟨by rfl, ?_⟩) ?_ ?_
        rotate_left
        ·
         intro w'
         go_simp
         with_reducible rfl
        rotate_left
        ·
         simp only [Act.put, sT, sZ, sS, i64_w, i32_w]
         rfl
        refine pure_ (i := 7) (N := some 46) (v := ?_) (a' := ?_) #[true, true, true, true, true, true, true, true, false, false, false, false, false, false, false, false] rfl rfl (any_of HT_.out (by kernel_rfl)) (fun _ _ _ h => h) (Or.inl ⟨by rfl, ?_⟩) ?_ ?_
        rotate_left
        ·
         intro w'
         go_simp
         with_reducible rfl
        rotate_left
        ·
         simp only [Act.put, sT, sZ, sS, i64_w, i32_w]
         rfl
        refine pure_ (i := 8) (N := some 47) (v := ?_) (a' := ?_) #[true, true, true, true, true, true, true, true, true, false, false, false, false, false, false, false] rfl rfl (any_of HT_.out (by kernel_rfl)) (fun _ _ _ h => h) (Or.inl ⟨by rfl, ?_⟩) ?_ ?_
        rotate_left
        ·
         intro w'
         go_simp
         with_reducible rfl
        rotate_left
        ·
         simp only [Act.put, sT, sZ, sS, i64_w, i32_w]
         rfl
        refine pure_ (i := 9) (N := some 48) (v := ?_) (a' := ?_) #[true, true, true, true, true, true, true, true, true, true, false, false, false, false, false, false] rfl rfl (any_of HT_.out (by kernel_rfl)) (fun _ _ _ h => h) (Or.inl ⟨by rfl, ?_⟩) ?_ ?_
        rotate_left
        ·
         intro w'
         go_simp
         with_reducible rfl
        rotate_left
        ·
         simp only [Act.put, sT, sZ, sS, i64_w, i32_w]
         rfl
        refine pure_ (i := 12) (N := some 51) (v := ?_) (a' := ?_) #[true, true, true, true, true, true, true, true, true, true, false, false, true, false, false, false] rfl rfl (any_of HT_.out (by kernel_rfl)) (fun _ _ _ h => h) (Or.inl ⟨by rfl, ?_⟩) ?_ ?_
        rotate_left
        ·
         intro w'
         go_simp
         with_reducible rfl
        rotate_left
        ·
         simp only [Act.put, sT, sZ, sS, i64_w, i32_w]
         rfl
        refine take_ (i := 10) (N := some 49) (v := ?_) (a' := ?_) #[true, true, true, true, true, true, true, true, true, true, true, false, true, false, false, false] rfl rfl (take_ofW HT_.out HW_.out (by kernel_rfl)) (fun _ _ _ h => h) (Or.inl ⟨by rfl, ?_⟩) hHeld ?_ ?_
        rotate_left
        ·
         rintro w' ⟨s0, s1, s2, s3, s4, s5, s6, s7, s8, s9, s10, s11, s12⟩
         go_simp
         with_reducible rfl
        rotate_left
        ·
         simp only [Act.put, sT, sZ, sS, i64_w, i32_w]
         rfl
        refine pure_ (i := 11) (N := some 50) (v := ?_) (a' := ?_) #[true, true, true, true, true, true, true, true, true, true, true, true, true, false, false, false] rfl rfl (any_of HT_.out (by kernel_rfl)) (fun _ _ _ h => h) (Or.inl ⟨by rfl, ?_⟩) ?_ ?_
        rotate_left
        ·
         intro w'
         go_simp
         with_reducible rfl
        rotate_left
        ·
         simp only [Act.put, sT, sZ, sS, i64_w, i32_w]
         rfl
        refine take_ (i := 13) (N := some 52) (v := ?_) (a' := ?_) #[true, true, true, true, true, true, true, true, true, true, true, true, true, true, false, false] rfl rfl (take_ofW HT_.out HW_.out (by kernel_rfl)) (fun _ _ _ h => h) (Or.inl ⟨by rfl, ?_⟩) hHeld ?_ ?_
        rotate_left
        ·
         rintro w' ⟨s0, s1, s2, s3, s4, s5, s6, s7, s8, s9, s10, s11, s12⟩
         go_simp
         with_reducible rfl
        rotate_left
        ·
         simp only [Act.put, sT, sZ, sS, i64_w, i32_w]
         rfl
        refine pure_ (i := 14) (N := some 53) (v := ?_) (a' := ?_) #[true, true, true, true, true, true, true, true, true, true, true, true, true, true, true, false] rfl rfl (any_of HT_.out (by kernel_rfl)) (fun _ _ _ h => h) (Or.inl ⟨by rfl, ?_⟩) ?_ ?_
        rotate_left
        ·
         intro w'
         go_simp
         with_reducible rfl
        rotate_left
        ·
         simp only [Act.put, sT, sZ, sS, i64_w, i32_w]
         rfl
        refine pure_ (i := 15) (N := some 54) (v := ?_) (a' := ?_) #[true, true, true, true, true, true, true, true, true, true, true, true, true, true, true, true] rfl rfl (any_of HT_.out (by kernel_rfl)) (fun _ _ _ h => h) (Or.inl ⟨by rfl, ?_⟩) ?_ ?_
        rotate_left
        ·
         intro w'
         go_simp
         with_reducible rfl
        rotate_left
        ·
         simp only [Act.put, sT, sZ, sS, i64_w, i32_w]
         rfl
        refine done_ (done_of HT_.out (by kernel_rfl)) ?_
        try go_wp2
        go_meet
        case rel => exact ⟨_, (decide ((wrap64 (a1 - ((rd_T32 x197000_1 x12_1).f1))) < a0_2)), (by first | rfl | (simp; done) | (simp [*]; done)), H', ⟨by have := HK1.out; first | omega | exact Nat.le_refl _⟩, ⟨by (with_reducible repeat (first | apply Kd.R_alloc | apply Kd.R_drewN | apply Kd.R_drew)); exact HO_10.out⟩, ⟨by (with_reducible repeat (first | apply Kd.R_alloc | apply Kd.R_drewN | apply Kd.R_drew)); exact HO_11.out⟩, ⟨by (with_reducible repeat (first | apply Kd.R_alloc | apply Kd.R_drewN | apply Kd.R_drew)); exact HO_197000.out⟩, ⟨by (with_reducible repeat (first | apply Kd.R_alloc | apply Kd.R_drewN | apply Kd.R_drew)); exact HO_197001.out⟩, ⟨blk_mv BK185.out⟩, ⟨blk_mv BK186.out⟩, ⟨blk_mv BK196.out⟩, ⟨by repeat (first | (with_reducible first | exact HB.out | apply bA | apply bN | apply bD | refine below_set ?_ GE185.out | refine below_set ?_ GE186.out | refine below_set ?_ GE196.out) | exact HB.out)⟩⟩
       replace c32 := Bool.eq_false_iff.mpr c32
       subst c32
       have H1 : (feeder_Tick.j1 k1 a1 x10_1 x11_1 x12_1 true l0_0 l0_1 a0_2 x197000_1 t192 t195) = some (r1, r2, r3, r4, r5, r6) := by rw [if_neg (show ¬ (false = true) by decide)] at H; exact H
       clear H
       have H := H1
       clear H1
       have H' := aM H
       clear H
       try go_wp2
       replace HO_10 := aM (Kd.R_drew HO_10.out)
       replace HO_11 := aM (Kd.R_drew HO_11.out)
       replace HO_197000 := aM (Kd.R_drew HO_197000.out)
       replace HO_197001 := aM (Kd.R_drew HO_197001.out)
       replace BK185 := aM (blk_drew BK185.out)
       replace BK186 := aM (blk_drew BK186.out)
       replace BK196 := aM (blk_drew BK196.out)
       replace HB := aM (below_drew1 HB.out)
       have p198 : 0 ≤ (x12_1 : Int) := of_decide_eq_true (by first | (with_reducible assumption) | assumption)
       have q198 : x12_1 < (x197000_1.length : Int) := of_decide_eq_true (by first | (with_reducible assumption) | assumption)
       obtain ⟨ad198, e198, hx198_0, hx198_1, hx198_2, hx198_3, hx198_4⟩ := at_T32 (Kd.R_reads' HO_197000.out).2.2 x12_1 p198 q198
       obtain rfl : ad197 = ad198 := (by injection e198)
       replace p198 := eq_true p198
       replace q198 := eq_true q198
       refine start_ (n := 16) (S := fun w' => w'.cell? (ad197.add ((x12_1).toNat * 5)) = some (.int .i64 ((rd_T32 x197000_1 x12_1).f0)) ∧ w'.cell? ⟨(ad197.add ((x12_1).toNat * 5)).block, (ad197.add ((x12_1).toNat * 5)).off + 1, none⟩ = some (.int .i64 ((rd_T32 x197000_1 x12_1).f1)) ∧ w'.cell? ⟨(ad197.add ((x12_1).toNat * 5)).block, (ad197.add ((x12_1).toNat * 5)).off + 2, none⟩ = some (.int .i64 ((rd_T32 x197000_1 x12_1).f2)) ∧ w'.cell? ⟨(ad197.add ((x12_1).toNat * 5)).block, (ad197.add ((x12_1).toNat * 5)).off + 3, none⟩ = some (.bool ((rd_T32 x197000_1 x12_1).f3)) ∧ w'.cell? ⟨(ad197.add ((x12_1).toNat * 5)).block, (ad197.add ((x12_1).toNat * 5)).off + 4, none⟩ = some (.bool ((rd_T32 x197000_1 x12_1).f4))) (ds := []) #[false, false, false, false, false, false, false, false, false, false, false, false, false, false, false, false] (by kernel_rfl) rfl rfl ⟨hx198_0, hx198_1, hx198_2, hx198_3, hx198_4⟩ (fun hHeld => ?_); refine with_tabW feeder_Tick.tab12 feeder_Tick.bits12 (fun HT_ HW_ => ?_)
       generalize wr.drew = w35 at HO_10 HO_11 HO_197000 HO_197001 BK185 BK186 BK196 HB hx198_0 hx198_1 hx198_2 hx198_3 hx198_4 hHeld ⊢
       refine pure_ (i := 0) (N := some 39) (v := ?_) (a' := ?_) #[true, false, false, false, false, false, false, false, false, false, false, false, false, false, false, false] rfl rfl (any_of HT_.out (by kernel_rfl)) (fun _ _ _ h => h) (Or.inl ⟨by rfl, ?_⟩) ?_ ?_
       rotate_left
       ·
        intro w'
        go_simp
        with_reducible rfl
       rotate_left
       ·
        simp only [Act.put, sT, sZ, sS, i64_w, i32_w]
        rfl
       refine pure_ (i := 1) (N := some 40) (v := ?_) (a' := ?_) #[true, true, false, false, false, false, false, false, false, false, false, false, false, false, false, false] rfl rfl (any_of HT_.out (by kernel_rfl)) (fun _ _ _ h => h) (Or.inl ⟨by rfl, ?_⟩) ?_ ?_
       rotate_left
       ·
        intro w'
        go_simp
        with_reducible rfl
       rotate_left
       ·
        simp only [Act.put, sT, sZ, sS, i64_w, i32_w]
        rfl
       refine take_ (i := 2) (N := some 41) (v := ?_) (a' := ?_) #[true, true, true, false, false, false, false, false, false, false, false, false, false, false, false, false] rfl rfl (take_ofW HT_.out HW_.out (by kernel_rfl)) (fun _ _ _ h => h) (Or.inl ⟨by rfl, ?_⟩) hHeld ?_ ?_
       rotate_left
       ·
        rintro w' ⟨s0, s1, s2, s3, s4⟩
        go_simp
        with_reducible rfl
       rotate_left
       ·
        simp only [Act.put, sT, sZ, sS, i64_w, i32_w]
        rfl
       refine one_ (i := 3) (N := some 42) #[true, true, true, true, false, false, false, false, false, false, false, false, false, false, false, false] rfl rfl (one_of HT_.out (by kernel_rfl)) (by decide) (fun K hK => ?_)
       refine goes_ Try.func45 (by kernel_rfl) rfl #[.agg #[.int .i64 ((rd_T32 x197000_1 x12_1).f0), .int .i64 ((rd_T32 x197000_1 x12_1).f1), .int .i64 ((rd_T32 x197000_1 x12_1).f2), .bool ((rd_T32 x197000_1 x12_1).f3), .bool ((rd_T32 x197000_1 x12_1).f4)]] (by rfl) rfl rfl (by first | rfl | (simp only [List.map_toArray, List.map_cons, List.map_nil, List.length_drop, List.length_take]; try rfl)) ?_
       with_reducible refine (feeder_waits.calls ((rd_T32 x197000_1 x12_1).f0) ((rd_T32 x197000_1 x12_1).f1) ((rd_T32 x197000_1 x12_1).f2) ((rd_T32 x197000_1 x12_1).f3) ((rd_T32 x197000_1 x12_1).f4) false _ A31.out).mono ?_
       rintro e w36 ⟨rfl, hb⟩
       have HS0_ := (hb.cell (World.block_lt_of_cell? _ _ (hHeld.1))).trans (hHeld.1)
       have HS1_ := (hb.cell (World.block_lt_of_cell? _ _ (hHeld.2.1))).trans (hHeld.2.1)
       have HS2_ := (hb.cell (World.block_lt_of_cell? _ _ (hHeld.2.2.1))).trans (hHeld.2.2.1)
       have HS3_ := (hb.cell (World.block_lt_of_cell? _ _ (hHeld.2.2.2.1))).trans (hHeld.2.2.2.1)
       have HS4_ := (hb.cell (World.block_lt_of_cell? _ _ (hHeld.2.2.2.2))).trans (hHeld.2.2.2.2)
       refine ⟨_, rfl, ?_⟩
       replace HO_10 := aM (Kd.R_below (R_mv HO_10.out) hb)
       replace HO_11 := aM (Kd.R_below (R_mv HO_11.out) hb)
       replace HO_197000 := aM (Kd.R_below (R_mv HO_197000.out) hb)
       replace HO_197001 := aM (Kd.R_below (R_mv HO_197001.out) hb)
       replace BK185 := aM (blk_below (blk_mv BK185.out) hb)
       replace BK186 := aM (blk_below (blk_mv BK186.out) hb)
       replace BK196 := aM (blk_below (blk_mv BK196.out) hb)
       replace HB := aM (below_step (by repeat (first | (with_reducible first | exact HB.out | apply bA | apply bN | apply bD | refine below_set ?_ GE185.out | refine below_set ?_ GE186.out | refine below_set ?_ GE196.out) | exact HB.out)) hb)
       (try clear hb)
       (try clear hb2)
       (try clear hge)
       (try clear hk)
       (try clear hi)
       refine hK.out _ _ ⟨HS0_, HS1_, HS2_, HS3_, HS4_⟩ (fun hHeld => ?_)
       clear hK K
       refine norm_ (a' := ?_) ?_ ?_
       rotate_left
       ·
        show Act.put _ (some 42) _ = _
        simp only [Act.put, sT, sZ, sS, i64_w, i32_w]
        rfl
       refine pure_ (i := 4) (N := some 43) (v := ?_) (a' := ?_) #[true, true, true, true, true, false, false, false, false, false, false, false, false, false, false, false] rfl rfl (any_of HT_.out (by kernel_rfl)) (fun _ _ _ h => h) (Or.inl ⟨by rfl, ?_⟩) ?_ ?_
       rotate_left
       ·
        intro w'
        go_simp
        with_reducible rfl
       rotate_left
       ·
        simp only [Act.put, sT, sZ, sS, i64_w, i32_w]
        rfl
       refine pure_ (i := 5) (N := some 44) (v := ?_) (a' := ?_) #[true, true, true, true, true, true, false, false, false, false, false, false, false, false, false, false] rfl rfl (any_of HT_.out (by kernel_rfl)) (fun _ _ _ h => h) (Or.inl ⟨by rfl, ?_⟩) ?_ ?_
       rotate_left
       ·
        intro w'
        go_simp
        with_reducible rfl
       rotate_left
       ·
        simp only [Act.put, sT, sZ, sS, i64_w, i32_w]
        rfl
       refine pure_ (i := 6) (N := some 45) (v := undef) (a' := ?_) #[true, true, true, true, true, true, true, false, false, false, false, false, false, false, false, false] rfl rfl (any_of HT_.out (by kernel_rfl)) (fun _ _ _ h => h) (Or.inr ⟨by rfl, rfl⟩) ?_ ?_
       rotate_left
       ·
        simp only [Act.put, sT, sZ, sS, i64_w, i32_w]
        rfl
       refine pure_ (i := 7) (N := some 46) (v := undef) (a' := ?_) #[true, true, true, true, true, true, true, true, false, false, false, false, false, false, false, false] rfl rfl (any_of HT_.out (by kernel_rfl)) (fun _ _ _ h => h) (Or.inr ⟨by rfl, rfl⟩) ?_ ?_
       rotate_left
       ·
        simp only [Act.put, sT, sZ, sS, i64_w, i32_w]
        rfl
       refine pure_ (i := 8) (N := some 47) (v := undef) (a' := ?_) #[true, true, true, true, true, true, true, true, true, false, false, false, false, false, false, false] rfl rfl (any_of HT_.out (by kernel_rfl)) (fun _ _ _ h => h) (Or.inr ⟨by rfl, rfl⟩) ?_ ?_
       rotate_left
       ·
        simp only [Act.put, sT, sZ, sS, i64_w, i32_w]
        rfl
       refine pure_ (i := 9) (N := some 48) (v := undef) (a' := ?_) #[true, true, true, true, true, true, true, true, true, true, false, false, false, false, false, false] rfl rfl (any_of HT_.out (by kernel_rfl)) (fun _ _ _ h => h) (Or.inr ⟨by rfl, rfl⟩) ?_ ?_
       rotate_left
       ·
        simp only [Act.put, sT, sZ, sS, i64_w, i32_w]
        rfl
       refine pure_ (i := 10) (N := some 49) (v := undef) (a' := ?_) #[true, true, true, true, true, true, true, true, true, true, true, false, false, false, false, false] rfl rfl (any_of HT_.out (by kernel_rfl)) (fun _ _ _ h => h) (Or.inr ⟨by rfl, rfl⟩) ?_ ?_
       rotate_left
       ·
        simp only [Act.put, sT, sZ, sS, i64_w, i32_w]
        rfl
       refine pure_ (i := 11) (N := some 50) (v := undef) (a' := ?_) #[true, true, true, true, true, true, true, true, true, true, true, true, false, false, false, false] rfl rfl (any_of HT_.out (by kernel_rfl)) (fun _ _ _ h => h) (Or.inr ⟨by rfl, rfl⟩) ?_ ?_
       rotate_left
       ·
        simp only [Act.put, sT, sZ, sS, i64_w, i32_w]
        rfl
       refine pure_ (i := 12) (N := some 51) (v := undef) (a' := ?_) #[true, true, true, true, true, true, true, true, true, true, true, true, true, false, false, false] rfl rfl (any_of HT_.out (by kernel_rfl)) (fun _ _ _ h => h) (Or.inr ⟨by rfl, rfl⟩) ?_ ?_
       rotate_left
       ·
        simp only [Act.put, sT, sZ, sS, i64_w, i32_w]
        rfl
       refine pure_ (i := 13) (N := some 52) (v := undef) (a' := ?_) #[true, true, true, true, true, true, true, true, true, true, true, true, true, true, false, false] rfl rfl (any_of HT_.out (by kernel_rfl)) (fun _ _ _ h => h) (Or.inr ⟨by rfl, rfl⟩) ?_ ?_
       rotate_left
       ·
        simp only [Act.put, sT, sZ, sS, i64_w, i32_w]
        rfl
       refine pure_ (i := 14) (N := some 53) (v := undef) (a' := ?_) #[true, true, true, true, true, true, true, true, true, true, true, true, true, true, true, false] rfl rfl (any_of HT_.out (by kernel_rfl)) (fun _ _ _ h => h) (Or.inr ⟨by rfl, rfl⟩) ?_ ?_
       rotate_left
       ·
        simp only [Act.put, sT, sZ, sS, i64_w, i32_w]
        rfl
       refine pure_ (i := 15) (N := some 54) (v := ?_) (a' := ?_) #[true, true, true, true, true, true, true, true, true, true, true, true, true, true, true, true] rfl rfl (any_of HT_.out (by kernel_rfl)) (fun _ _ _ h => h) (Or.inl ⟨by rfl, ?_⟩) ?_ ?_
       rotate_left
       ·
        intro w'
        go_simp
        with_reducible rfl
       rotate_left
       ·
        simp only [Act.put, sT, sZ, sS, i64_w, i32_w]
        rfl
       refine done_ (done_of HT_.out (by kernel_rfl)) ?_
       try go_wp2
       go_meet
       case rel => exact ⟨_, (true), (by first | rfl | (simp; done) | (simp [*]; done)), H', ⟨by have := HK1.out; first | omega | exact Nat.le_refl _⟩, ⟨by (with_reducible repeat (first | apply Kd.R_alloc | apply Kd.R_drewN | apply Kd.R_drew)); exact HO_10.out⟩, ⟨by (with_reducible repeat (first | apply Kd.R_alloc | apply Kd.R_drewN | apply Kd.R_drew)); exact HO_11.out⟩, ⟨by (with_reducible repeat (first | apply Kd.R_alloc | apply Kd.R_drewN | apply Kd.R_drew)); exact HO_197000.out⟩, ⟨by (with_reducible repeat (first | apply Kd.R_alloc | apply Kd.R_drewN | apply Kd.R_drew)); exact HO_197001.out⟩, ⟨blk_mv BK185.out⟩, ⟨blk_mv BK186.out⟩, ⟨blk_mv BK196.out⟩, ⟨by repeat (first | (with_reducible first | exact HB.out | apply bA | apply bN | apply bD | refine below_set ?_ GE185.out | refine below_set ?_ GE186.out | refine below_set ?_ GE196.out) | exact HB.out)⟩⟩
      case rest =>
       clear HC26
       obtain ⟨kq, x54_25, rfl, HA, HJ25, HO_10, HO_11, HO_197000, HO_197001, BK185, BK186, BK196, HB⟩ := hcut
       cases kq with
       | zero => exact absurd HA.out (by simp [feeder_Tick.j1])
       | succ kj25 =>
        have H := HA.out
        clear HA
        simp only [feeder_Tick.j1] at H
        by_cases c37 : x54_25 = true
        ·
         subst c37
         have H1 : (feeder_Tick.l0 kj25 a1 x10_1 x11_1 (wrap64 (x12_1 - 1)) l0_0 l0_1 a0_2 x197000_1 t192 t195) = some (r1, r2, r3, r4, r5, r6) := by rw [if_pos rfl] at H; exact H
         clear H
         have H := H1
         clear H1
         have H' := aM H
         clear H
         go_wp2
         go_roundg kj25
         case measure => have := HK1.out; have := HJ25.out; omega
         case rel => exact ⟨(x10_1), (x11_1), (wrap64 (x12_1 - 1)), (x197000_1), (.slice (some ad197) x197000_1.length co30), (by first | rfl | (simp; done) | (simp [*]; done)), H', ⟨by have := HK1.out; have := HJ25.out; omega⟩, ⟨by (with_reducible repeat (first | apply Kd.R_alloc | apply Kd.R_drewN | apply Kd.R_drew)); exact HO_10.out⟩, ⟨by (with_reducible repeat (first | apply Kd.R_alloc | apply Kd.R_drewN | apply Kd.R_drew)); exact HO_11.out⟩, ⟨by (with_reducible repeat (first | apply Kd.R_alloc | apply Kd.R_drewN | apply Kd.R_drew)); exact HO_197000.out⟩, ⟨by (with_reducible repeat (first | apply Kd.R_alloc | apply Kd.R_drewN | apply Kd.R_drew)); exact HO_197001.out⟩, ⟨blk_mv BK185.out⟩, ⟨blk_mv BK186.out⟩, ⟨blk_mv BK196.out⟩, ⟨by repeat (first | (with_reducible first | exact HB.out | apply bA | apply bN | apply bD | refine below_set ?_ GE185.out | refine below_set ?_ GE186.out | refine below_set ?_ GE196.out) | exact HB.out)⟩⟩
        replace c37 := Bool.eq_false_iff.mpr c37
        subst c37
        have H1 : (if 0 ≤ x12_1 then (if x12_1 < (x197000_1.length : Int) then ((some (x197000_1.set (x12_1 : Int).toNat (⟨(rd_T32 x197000_1 x12_1).f0, (rd_T32 x197000_1 x12_1).f1, (rd_T32 x197000_1 x12_1).f2, (rd_T32 x197000_1 x12_1).f3, true⟩ : S32) : List (S32))).bind fun y201 => (if x10_1.length < 17592186044416 then ((some (x10_1 ++ [x12_1] : List Int)).bind fun y202 => (if ((rd_T32 y201 x12_1).f0) ≥ 0 then ((feeder_open.f y201 t192 t195 ((rd_T32 y201 x12_1).f0) a1).bind fun bt207 => (if bt207.1 = true then (if x11_1.length < 17592186044416 then (feeder_Tick.l0 kj25 a1 y202 (x11_1 ++ [(rd_T32 bt207.2 x12_1).f0]) (wrap64 (x12_1 - 1)) l0_0 l0_1 a0_2 bt207.2 t192 t195) else (none)) else (feeder_Tick.l0 kj25 a1 y202 x11_1 (wrap64 (x12_1 - 1)) l0_0 l0_1 a0_2 bt207.2 t192 t195))) else (feeder_Tick.l0 kj25 a1 y202 x11_1 (wrap64 (x12_1 - 1)) l0_0 l0_1 a0_2 y201 t192 t195))) else (none))) else (none)) else (none)) = some (r1, r2, r3, r4, r5, r6) := by rw [if_neg (show ¬ (false = true) by decide)] at H; exact H
        clear H
        have H := H1
        clear H1
        by_cases c38 : 0 ≤ x12_1
        rotate_left
        ·
         rw [if_neg c38] at H
         exact absurd H (by simp)
        rw [if_pos c38] at H
        have c38b0 : decide (0 ≤ x12_1) = true := decide_eq_true c38
        clear c38
        by_cases c39 : x12_1 < (x197000_1.length : Int)
        rotate_left
        ·
         rw [if_neg c39] at H
         exact absurd H (by simp)
        rw [if_pos c39] at H
        have c39b0 : decide (x12_1 < (x197000_1.length : Int)) = true := decide_eq_true c39
        clear c39
        obtain ⟨y201, hy201⟩ : ∃ y_ : List (S32), y_ = (x197000_1.set (x12_1 : Int).toNat (⟨(rd_T32 x197000_1 x12_1).f0, (rd_T32 x197000_1 x12_1).f1, (rd_T32 x197000_1 x12_1).f2, (rd_T32 x197000_1 x12_1).f3, true⟩ : S32)) := ⟨_, rfl⟩
        replace H : (if x10_1.length < 17592186044416 then ((some (x10_1 ++ [x12_1] : List Int)).bind fun y202 => (if ((rd_T32 y201 x12_1).f0) ≥ 0 then ((feeder_open.f y201 t192 t195 ((rd_T32 y201 x12_1).f0) a1).bind fun bt207 => (if bt207.1 = true then (if x11_1.length < 17592186044416 then (feeder_Tick.l0 kj25 a1 y202 (x11_1 ++ [(rd_T32 bt207.2 x12_1).f0]) (wrap64 (x12_1 - 1)) l0_0 l0_1 a0_2 bt207.2 t192 t195) else (none)) else (feeder_Tick.l0 kj25 a1 y202 x11_1 (wrap64 (x12_1 - 1)) l0_0 l0_1 a0_2 bt207.2 t192 t195))) else (feeder_Tick.l0 kj25 a1 y202 x11_1 (wrap64 (x12_1 - 1)) l0_0 l0_1 a0_2 y201 t192 t195))) else (none)) = some (r1, r2, r3, r4, r5, r6) := by first | (rw [hy201]; with_reducible exact H) | (have H2_ := (Option.bind_some _ _).symm.trans H; rw [hy201]; with_reducible exact H2_) | (have H2_ := (Option.bind_some _ _).symm.trans H; with_reducible exact H2_) | with_reducible exact H | (rw [hy201]; exact H) | exact H
        have Ny201 := aM hy201
        clear hy201
        by_cases c41 : x10_1.length < 17592186044416
        rotate_left
        ·
         rw [if_neg c41] at H
         exact absurd H (by simp)
        rw [if_pos c41] at H
        have LMc41 := aM c41
        clear c41
        obtain ⟨y202, hy202⟩ : ∃ y_ : List Int, y_ = (x10_1 ++ [x12_1]) := ⟨_, rfl⟩
        replace H : (if ((rd_T32 y201 x12_1).f0) ≥ 0 then ((feeder_open.f y201 t192 t195 ((rd_T32 y201 x12_1).f0) a1).bind fun bt207 => (if bt207.1 = true then (if x11_1.length < 17592186044416 then (feeder_Tick.l0 kj25 a1 y202 (x11_1 ++ [(rd_T32 bt207.2 x12_1).f0]) (wrap64 (x12_1 - 1)) l0_0 l0_1 a0_2 bt207.2 t192 t195) else (none)) else (feeder_Tick.l0 kj25 a1 y202 x11_1 (wrap64 (x12_1 - 1)) l0_0 l0_1 a0_2 bt207.2 t192 t195))) else (feeder_Tick.l0 kj25 a1 y202 x11_1 (wrap64 (x12_1 - 1)) l0_0 l0_1 a0_2 y201 t192 t195)) = some (r1, r2, r3, r4, r5, r6) := by first | (rw [hy202]; with_reducible exact H) | (have H2_ := (Option.bind_some _ _).symm.trans H; rw [hy202]; with_reducible exact H2_) | (have H2_ := (Option.bind_some _ _).symm.trans H; with_reducible exact H2_) | with_reducible exact H | (rw [hy202]; exact H) | exact H
        have Ny202 := aM hy202
        clear hy202
        by_cases c42 : ((rd_T32 y201 x12_1).f0) ≥ 0
        ·
         rw [if_pos c42] at H
         have c42b0 : decide (0 ≤ ((rd_T32 y201 x12_1).f0)) = true := decide_eq_true c42
         clear c42
         replace H := Option.bind_eq_some_iff.mp H
         obtain ⟨⟨t207, t208⟩, A430, H⟩ := H
         replace H : (if t207 = true then (if x11_1.length < 17592186044416 then (feeder_Tick.l0 kj25 a1 y202 (x11_1 ++ [(rd_T32 t208 x12_1).f0]) (wrap64 (x12_1 - 1)) l0_0 l0_1 a0_2 t208 t192 t195) else (none)) else (feeder_Tick.l0 kj25 a1 y202 x11_1 (wrap64 (x12_1 - 1)) l0_0 l0_1 a0_2 t208 t192 t195)) = some (r1, r2, r3, r4, r5, r6) := H
         have A43 := aM A430
         clear A430
         by_cases c44 : t207 = true
         ·
          subst c44
          have H1 : (if x11_1.length < 17592186044416 then (feeder_Tick.l0 kj25 a1 y202 (x11_1 ++ [(rd_T32 t208 x12_1).f0]) (wrap64 (x12_1 - 1)) l0_0 l0_1 a0_2 t208 t192 t195) else (none)) = some (r1, r2, r3, r4, r5, r6) := by rw [if_pos rfl] at H; exact H
          clear H
          have H := H1
          clear H1
          by_cases c45 : x11_1.length < 17592186044416
          rotate_left
          ·
           rw [if_neg c45] at H
           exact absurd H (by simp)
          rw [if_pos c45] at H
          have LMc45 := aM c45
          clear c45
          obtain ⟨y210, hy210⟩ : ∃ y_ : List Int, y_ = (x11_1 ++ [(rd_T32 t208 x12_1).f0]) := ⟨_, rfl⟩
          replace H : (feeder_Tick.l0 kj25 a1 y202 y210 (wrap64 (x12_1 - 1)) l0_0 l0_1 a0_2 t208 t192 t195) = some (r1, r2, r3, r4, r5, r6) := by first | (rw [hy210]; with_reducible exact H) | (have H2_ := (Option.bind_some _ _).symm.trans H; rw [hy210]; with_reducible exact H2_) | (have H2_ := (Option.bind_some _ _).symm.trans H; with_reducible exact H2_) | with_reducible exact H | (rw [hy210]; exact H) | exact H
          have Ny210 := aM hy210
          clear hy210
          have H' := aM H
          clear H
          have p40 : 0 ≤ (x12_1 : Int) := of_decide_eq_true (by first | (with_reducible assumption) | assumption)
          have q40 : (x12_1 : Int) < ((x197000_1.length : Int) : Int) := of_decide_eq_true (by first | (with_reducible assumption) | assumption)
          obtain ⟨go40, co40, eo40, gb40, gl40, cl40, HG40⟩ := Kd.R_form HO_197000.out (by omega)
          (first | cases eo40 | (injection eo40 with ea_ en_ ec_; (first | subst ea_ | (injection ea_ with ea_; subst ea_)); subst ec_; clear en_))
          have GB40 := aM gb40
          have GG40 := aM HG40
          clear gb40 gl40 HG40
          (first | simp only [add_plain] at hx197_0 | skip)
          (first | simp only [add_plain] at hx197_1 | skip)
          (first | simp only [add_plain] at hx197_2 | skip)
          (first | simp only [add_plain] at hx197_3 | skip)
          (first | simp only [add_plain] at hx197_4 | skip)
          (first | simp only [add_plain] at hx198_0 | skip)
          (first | simp only [add_plain] at hx198_1 | skip)
          (first | simp only [add_plain] at hx198_2 | skip)
          (first | simp only [add_plain] at hx198_3 | skip)
          (first | simp only [add_plain] at hx198_4 | skip)
          (first | simp only [add_plain] at hx200_0 | skip)
          (first | simp only [add_plain] at hx200_1 | skip)
          (first | simp only [add_plain] at hx200_2 | skip)
          (first | simp only [add_plain] at hx200_3 | skip)
          (first | simp only [add_plain] at hx200_4 | skip)
          obtain ⟨ce40, hcl40, hM40, hcc40, hfr40⟩ := Kd.R_elem HO_197000.out z32 (x12_1 : Int) p40 q40
          obtain rfl := k32_openM hM40
          have hx40_0 : wc.cell? ⟨go40, (x12_1 : Int).toNat * 5, none⟩ = some (.int .i64 ((rd_T32 x197000_1 x12_1).f0)) := hcc40 0 _ rfl
          have hx40_1 : wc.cell? ⟨go40, (x12_1 : Int).toNat * 5 + 1, none⟩ = some (.int .i64 ((rd_T32 x197000_1 x12_1).f1)) := hcc40 1 _ rfl
          have hx40_2 : wc.cell? ⟨go40, (x12_1 : Int).toNat * 5 + 2, none⟩ = some (.int .i64 ((rd_T32 x197000_1 x12_1).f2)) := hcc40 2 _ rfl
          have hx40_3 : wc.cell? ⟨go40, (x12_1 : Int).toNat * 5 + 3, none⟩ = some (.bool ((rd_T32 x197000_1 x12_1).f3)) := hcc40 3 _ rfl
          have hx40_4 : wc.cell? ⟨go40, (x12_1 : Int).toNat * 5 + 4, none⟩ = some (.bool ((rd_T32 x197000_1 x12_1).f4)) := hcc40 4 _ rfl
          have hf40_0 : wc.frozen? ⟨go40, (x12_1 : Int).toNat * 5, none⟩ = false := hfr40 0
          have hf40_1 : wc.frozen? ⟨go40, (x12_1 : Int).toNat * 5 + 1, none⟩ = false := hfr40 1
          have hf40_2 : wc.frozen? ⟨go40, (x12_1 : Int).toNat * 5 + 2, none⟩ = false := hfr40 2
          have hf40_3 : wc.frozen? ⟨go40, (x12_1 : Int).toNat * 5 + 3, none⟩ = false := hfr40 3
          have hf40_4 : wc.frozen? ⟨go40, (x12_1 : Int).toNat * 5 + 4, none⟩ = false := hfr40 4
          clear hcl40 hcc40 hfr40 hM40
          replace p40 := eq_true p40
          replace q40 := eq_true q40
          have HX46 := aM (show Kd.R k32 32 wc w.heap.size (fun _ => True) (.slice (some ⟨go40, 0, none⟩) x197000_1.length co30) x197000_1 from (R_mv HO_197000.out))
          obtain ⟨ce46, hcl46, hM46, hcc46, hfr46⟩ := Kd.R_elem HX46.out z32 (x12_1 : Int) (of_decide_eq_true (by first | (with_reducible assumption) | assumption)) (by have h_ : (x12_1 : Int) < ((x197000_1.length : Int) : Int) := of_decide_eq_true (by first | (with_reducible assumption) | assumption); first | exact h_ | (have e_ := (Kd.R_reads' HO_197000.out).1; omega) | simpa using h_)
          obtain rfl := k32_openM hM46
          have HP46 := Kd.R_seg HX46.out (x12_1 : Int) (of_decide_eq_true (by first | (with_reducible assumption) | assumption)) (by have h_ : (x12_1 : Int) < ((x197000_1.length : Int) : Int) := of_decide_eq_true (by first | (with_reducible assumption) | assumption); first | exact h_ | (have e_ := (Kd.R_reads' HO_197000.out).1; omega) | simpa using h_) (seg := [.bool true]) (j := 4) hcl46 hcc46 (show 5 ≤ 5 from by decide) (x' := (⟨(rd_T32 x197000_1 x12_1).f0, (rd_T32 x197000_1 x12_1).f1, (rd_T32 x197000_1 x12_1).f2, (rd_T32 x197000_1 x12_1).f3, true⟩ : S32)) (k32_mkM _ _ _ (⟨(rd_T32 x197000_1 x12_1).f0, (rd_T32 x197000_1 x12_1).f1, (rd_T32 x197000_1 x12_1).f2, (rd_T32 x197000_1 x12_1).f3, true⟩ : S32) ) (fun _ hk => hk)
          have hx46_4 := hcc46 4 _ rfl
          (try simp only [show (k32).sz = 5 from rfl, Nat.mul_one, Nat.add_zero] at hx46_4)
          have hf46_4 := hfr46 4
          (try simp only [show (k32).sz = 5 from rfl, Nat.mul_one, Nat.add_zero] at hf46_4)
          clear hcl46 hcc46 hfr46 hM46
          try go_wp2_with (first | ((with_reducible refine gate_store (t := 4) (p := 57) rfl ?_); refine store_event (t := 4) (p := 57) (v := ?vo_w47) (w1 := (wc.setCell ⟨go40, (x12_1 : Int).toNat * 5 + 4, none⟩ (.bool true))) ?hg ?ho ?hn ?hr ?_; (case ho => rfl); (case hg => rfl); (case hn => rfl); (case hr => first | (go_simp; done) | (go_simp; rfl)); intro w47 hw; have hg : wc.grownBy w47 (some go40) := (by rw [hw]; exact HP46.2); have hp_ : Kd.R k32 32 w47 w.heap.size (fun _ => True) (.slice (some ⟨go40, 0, none⟩) x197000_1.length co30) y201 := (by rw [hw, Ny201.out]; exact HP46.1); clear HP46; replace HO_10 := aM (Kd.R_over' (v := (.slice (some ⟨go40, 0, none⟩) x197000_1.length co30)) (R_mv HO_10.out) (Kd.R_typed HO_197000.out) (by decide) hg); replace HO_11 := aM (Kd.R_over' (v := (.slice (some ⟨go40, 0, none⟩) x197000_1.length co30)) (R_mv HO_11.out) (Kd.R_typed HO_197000.out) (by decide) hg); replace HO_197001 := aM (Kd.R_over' (v := (.slice (some ⟨go40, 0, none⟩) x197000_1.length co30)) (R_mv HO_197001.out) (Kd.R_typed HO_197000.out) (by decide) hg); replace BK185 := aM (blk_grown (blk_mv BK185.out) hg (Kd.R_ne HO_197000.out BK185.out (by decide))); replace BK186 := aM (blk_grown (blk_mv BK186.out) hg (Kd.R_ne HO_197000.out BK186.out (by decide))); replace BK196 := aM (blk_grown (blk_mv BK196.out) hg (Kd.R_ne HO_197000.out BK196.out (by decide))); replace HO_197000 := aM (hp_); replace HB := aM ((by rw [hw]; exact below_set (HB.out) GB40.out : Below w.heap.size w w47)); clear hg hw hp_) | ((with_reducible refine gate_builtin (b := .append) (xs := #[.tmp 58, .tmp 60]) rfl ?_); at_builtin; refine Kd.R_append (Kd.int .i64) (w0 := w) w.heap.size rfl (.tmp 58) (.tmp 60) 26 3 (.int .i64 0) 8 rfl Try.underlying26 info3 rfl (by decide) (by omega) u10 x10_1 x12_1 [.int .i64 x12_1] (fun k_ => some k_ ≠ (u11 : Value).ownBlock ∧ some k_ ≠ (.slice Ao22 t192.length co22 : Value).ownBlock) (fun _ => False) rfl rfl ?aP (fun _ hk => hk.elim) ?aF ?aO ?aB ?aS ?aL ?_; (case aP => exact rfl); (case aB => exact (by repeat (first | (with_reducible first | exact HB.out | apply bA | apply bN | apply bD | refine below_set ?_ GE185.out | refine below_set ?_ GE186.out | refine below_set ?_ GE196.out) | exact HB.out))); (case aF => exact (fun k_ hk => ⟨Kd.fresh' (Kd.R_lt (R_mv HO_11.out)) k_ hk, Kd.fresh' (Kd.R_lt (R_mv HO_197001.out)) k_ hk⟩)); (case aO => exact (R_mv HO_10.out)); (case aS => exact (below_size (by repeat (first | (with_reducible first | exact HB.out | apply bA | apply bN | apply bD | refine below_set ?_ GE185.out | refine below_set ?_ GE186.out | refine below_set ?_ GE196.out) | exact HB.out)))); (case aL => have := LMc41.out; omega); intro v203 w48 ho hb hg hat; rw [← Ny202.out] at ho; have n0_ := aM (Kd.R_after (ok := (fun k_ => some k_ ≠ (.slice Ao22 t192.length co22 : Value).ownBlock)) (by (with_reducible repeat (first | apply Kd.R_alloc | apply Kd.R_drewN | apply Kd.R_drew)); exact Kd.R_mono HO_11.out (fun _ hk => ⟨hk.2, hk.1⟩)) hg hat); have n1_ := aM (Kd.R_over' (R_mv HO_197000.out) (Kd.R_typed (R_mv HO_10.out)) (by decide) hg); have n2_ := aM (Kd.R_after (ok := (fun k_ => some k_ ≠ (u11 : Value).ownBlock)) (by (with_reducible repeat (first | apply Kd.R_alloc | apply Kd.R_drewN | apply Kd.R_drew)); exact Kd.R_mono HO_197001.out (fun _ hk => ⟨hk.2, hk.1⟩)) hg hat); have n3_ := aM (blk_grown (blk_mv BK185.out) hg (Kd.R_ne HO_10.out BK185.out (by decide))); have n4_ := aM (blk_grown (blk_mv BK186.out) hg (Kd.R_ne HO_10.out BK186.out (by decide))); have n5_ := aM (blk_grown (blk_mv BK196.out) hg (Kd.R_ne HO_10.out BK196.out (by decide))); have n6_ := aM (hb); have n7_ := aM (ho); clear HO_11; clear HO_197000; clear HO_197001; clear BK185; clear BK186; clear BK196; clear HB; clear HO_10; have HO_11 := n0_; have HO_197000 := n1_; have HO_197001 := n2_; have BK185 := n3_; have BK186 := n4_; have BK196 := n5_; have HB := n6_; have HO204 := n7_; clear n0_ n1_ n2_ n3_ n4_ n5_ n6_ n7_; clear ho hb hg hat))
          replace HO_11 := aM (Kd.R_drew HO_11.out)
          replace HO_197000 := aM (Kd.R_drew HO_197000.out)
          replace HO_197001 := aM (Kd.R_drew HO_197001.out)
          replace HO204 := aM (Kd.R_drew HO204.out)
          replace BK185 := aM (blk_drew BK185.out)
          replace BK186 := aM (blk_drew BK186.out)
          replace BK196 := aM (blk_drew BK196.out)
          replace HB := aM (below_drew1 HB.out)
          have p205 : 0 ≤ (x12_1 : Int) := of_decide_eq_true (by first | (with_reducible assumption) | assumption)
          have q205 : x12_1 < (y201.length : Int) := (by have h_ : (x12_1 : Int) < ((x197000_1.length : Int) : Int) := of_decide_eq_true (by first | (with_reducible assumption) | assumption); first | (have e_ := (Kd.R_reads' HO_197000.out).1; omega) | simpa only [Ny201.out, List.length_set] using h_)
          have ql205 : ((x12_1 : Int) < ((x197000_1.length : Int) : Int)) = True := eq_true (of_decide_eq_true (by first | (with_reducible assumption) | assumption))
          obtain ⟨ad205, e205, hx205_0, hx205_1, hx205_2, hx205_3, hx205_4⟩ := at_T32 (Kd.R_reads' HO_197000.out).2.2 x12_1 p205 q205
          obtain rfl : (⟨go40, 0, none⟩ : Addr) = ad205 := (by injection e205)
          (first | simp only [add_plain] at hx205_0 | simp only [add_at] at hx205_0 | simp only [Addr.add, Nat.zero_add] at hx205_0 | skip)
          (first | simp only [add_plain] at hx205_1 | simp only [add_at] at hx205_1 | simp only [Addr.add, Nat.zero_add] at hx205_1 | skip)
          (first | simp only [add_plain] at hx205_2 | simp only [add_at] at hx205_2 | simp only [Addr.add, Nat.zero_add] at hx205_2 | skip)
          (first | simp only [add_plain] at hx205_3 | simp only [add_at] at hx205_3 | simp only [Addr.add, Nat.zero_add] at hx205_3 | skip)
          (first | simp only [add_plain] at hx205_4 | simp only [add_at] at hx205_4 | simp only [Addr.add, Nat.zero_add] at hx205_4 | skip)
          replace p205 := eq_true p205
          replace q205 := eq_true q205
          have p206 : 0 ≤ (x12_1 : Int) := of_decide_eq_true (by first | (with_reducible assumption) | assumption)
          have q206 : x12_1 < (y201.length : Int) := (by have h_ : (x12_1 : Int) < ((x197000_1.length : Int) : Int) := of_decide_eq_true (by first | (with_reducible assumption) | assumption); first | (have e_ := (Kd.R_reads' HO_197000.out).1; omega) | simpa only [Ny201.out, List.length_set] using h_)
          have ql206 : ((x12_1 : Int) < ((x197000_1.length : Int) : Int)) = True := eq_true (of_decide_eq_true (by first | (with_reducible assumption) | assumption))
          obtain ⟨ad206, e206, hx206_0, hx206_1, hx206_2, hx206_3, hx206_4⟩ := at_T32 (Kd.R_reads' HO_197000.out).2.2 x12_1 p206 q206
          obtain rfl : (⟨go40, 0, none⟩ : Addr) = ad206 := (by injection e206)
          (first | simp only [add_plain] at hx206_0 | simp only [add_at] at hx206_0 | simp only [Addr.add, Nat.zero_add] at hx206_0 | skip)
          (first | simp only [add_plain] at hx206_1 | simp only [add_at] at hx206_1 | simp only [Addr.add, Nat.zero_add] at hx206_1 | skip)
          (first | simp only [add_plain] at hx206_2 | simp only [add_at] at hx206_2 | simp only [Addr.add, Nat.zero_add] at hx206_2 | skip)
          (first | simp only [add_plain] at hx206_3 | simp only [add_at] at hx206_3 | simp only [Addr.add, Nat.zero_add] at hx206_3 | skip)
          (first | simp only [add_plain] at hx206_4 | simp only [add_at] at hx206_4 | simp only [Addr.add, Nat.zero_add] at hx206_4 | skip)
          replace p206 := eq_true p206
          replace q206 := eq_true q206
          refine start_ (n := 14) (S := fun w' => w'.cell? ⟨gb196, 0, none⟩ = some (.slice (some ⟨go40, 0, none⟩) x197000_1.length co30) ∧ w'.cell? ⟨gb196, 1, none⟩ = some (.slice Ao22 t192.length co22) ∧ w'.cell? ⟨gb196, 2, none⟩ = some (.int .i64 t195) ∧ w'.cell? ⟨go40, (x12_1).toNat * 5, none⟩ = some (.int .i64 ((rd_T32 y201 x12_1).f0)) ∧ w'.cell? ⟨go40, (x12_1).toNat * 5 + 1, none⟩ = some (.int .i64 ((rd_T32 y201 x12_1).f1)) ∧ w'.cell? ⟨go40, (x12_1).toNat * 5 + 2, none⟩ = some (.int .i64 ((rd_T32 y201 x12_1).f2)) ∧ w'.cell? ⟨go40, (x12_1).toNat * 5 + 3, none⟩ = some (.bool ((rd_T32 y201 x12_1).f3)) ∧ w'.cell? ⟨go40, (x12_1).toNat * 5 + 4, none⟩ = some (.bool ((rd_T32 y201 x12_1).f4)) ∧ w'.cell? ⟨go40, (x12_1).toNat * 5, none⟩ = some (.int .i64 ((rd_T32 y201 x12_1).f0)) ∧ w'.cell? ⟨go40, (x12_1).toNat * 5 + 1, none⟩ = some (.int .i64 ((rd_T32 y201 x12_1).f1)) ∧ w'.cell? ⟨go40, (x12_1).toNat * 5 + 2, none⟩ = some (.int .i64 ((rd_T32 y201 x12_1).f2)) ∧ w'.cell? ⟨go40, (x12_1).toNat * 5 + 3, none⟩ = some (.bool ((rd_T32 y201 x12_1).f3)) ∧ w'.cell? ⟨go40, (x12_1).toNat * 5 + 4, none⟩ = some (.bool ((rd_T32 y201 x12_1).f4))) (ds := [12]) #[false, false, false, false, false, false, false, false, false, false, false, false, false, false] (by kernel_rfl) rfl rfl ⟨(blk_cell BK196.out 0).trans rfl, (blk_cell BK196.out 1).trans rfl, (blk_cell BK196.out 2).trans rfl, hx205_0, hx205_1, hx205_2, hx205_3, hx205_4, hx206_0, hx206_1, hx206_2, hx206_3, hx206_4⟩ (fun hHeld => ?_); refine with_tabW feeder_Tick.tab15 feeder_Tick.bits15 (fun HT_ HW_ => ?_)
          generalize w48.drew = w49 at HO_11 HO_197000 HO_197001 HO204 BK185 BK186 BK196 HB hx205_0 hx205_1 hx205_2 hx205_3 hx205_4 hx206_0 hx206_1 hx206_2 hx206_3 hx206_4 hHeld ⊢
          refine pure_ (i := 0) (N := some 62) (v := ?_) (a' := ?_) #[true, false, false, false, false, false, false, false, false, false, false, false, false, false] rfl rfl (any_of HT_.out (by kernel_rfl)) (fun _ _ _ h => h) (Or.inl ⟨by rfl, ?_⟩) ?_ ?_
          rotate_left
          ·
           intro w'
           go_simp
           with_reducible rfl
          rotate_left
          ·
           simp only [Act.put, sT, sZ, sS, i64_w, i32_w]
           rfl
          refine pure_ (i := 1) (N := some 63) (v := ?_) (a' := ?_) #[true, true, false, false, false, false, false, false, false, false, false, false, false, false] rfl rfl (any_of HT_.out (by kernel_rfl)) (fun _ _ _ h => h) (Or.inl ⟨by rfl, ?_⟩) ?_ ?_
          rotate_left
          ·
           intro w'
           go_simp
           with_reducible rfl
          rotate_left
          ·
           simp only [Act.put, sT, sZ, sS, i64_w, i32_w]
           rfl
          refine pure_ (i := 2) (N := some 64) (v := ?_) (a' := ?_) #[true, true, true, false, false, false, false, false, false, false, false, false, false, false] rfl rfl (any_of HT_.out (by kernel_rfl)) (fun _ _ _ h => h) (Or.inl ⟨by rfl, ?_⟩) ?_ ?_
          rotate_left
          ·
           intro w'
           go_simp
           with_reducible rfl
          rotate_left
          ·
           simp only [Act.put, sT, sZ, sS, i64_w, i32_w]
           rfl
          refine take_ (i := 3) (N := some 65) (v := ?_) (a' := ?_) #[true, true, true, true, false, false, false, false, false, false, false, false, false, false] rfl rfl (take_ofW HT_.out HW_.out (by kernel_rfl)) (fun _ _ _ h => h) (Or.inl ⟨by rfl, ?_⟩) hHeld ?_ ?_
          rotate_left
          ·
           rintro w' ⟨s0, s1, s2, s3, s4, s5, s6, s7, s8, s9, s10, s11, s12⟩
           go_simp
           with_reducible rfl
          rotate_left
          ·
           simp only [Act.put, sT, sZ, sS, i64_w, i32_w]
           rfl
          refine pure_ (i := 4) (N := some 66) (v := ?_) (a' := ?_) #[true, true, true, true, true, false, false, false, false, false, false, false, false, false] rfl rfl (any_of HT_.out (by kernel_rfl)) (fun _ _ _ h => h) (Or.inl ⟨by rfl, ?_⟩) ?_ ?_
          rotate_left
          ·
           intro w'
           go_simp
           with_reducible rfl
          rotate_left
          ·
           simp only [Act.put, sT, sZ, sS, i64_w, i32_w]
           rfl
          refine pure_ (i := 5) (N := some 67) (v := ?_) (a' := ?_) #[true, true, true, true, true, true, false, false, false, false, false, false, false, false] rfl rfl (any_of HT_.out (by kernel_rfl)) (fun _ _ _ h => h) (Or.inl ⟨by rfl, ?_⟩) ?_ ?_
          rotate_left
          ·
           intro w'
           go_simp
           with_reducible rfl
          rotate_left
          ·
           simp only [Act.put, sT, sZ, sS, i64_w, i32_w]
           rfl
          refine pure_ (i := 7) (N := some 69) (v := ?_) (a' := ?_) #[true, true, true, true, true, true, false, true, false, false, false, false, false, false] rfl rfl (any_of HT_.out (by kernel_rfl)) (fun _ _ _ h => h) (Or.inl ⟨by rfl, ?_⟩) ?_ ?_
          rotate_left
          ·
           intro w'
           go_simp
           with_reducible rfl
          rotate_left
          ·
           simp only [Act.put, sT, sZ, sS, i64_w, i32_w]
           rfl
          refine pure_ (i := 8) (N := some 70) (v := ?_) (a' := ?_) #[true, true, true, true, true, true, false, true, true, false, false, false, false, false] rfl rfl (any_of HT_.out (by kernel_rfl)) (fun _ _ _ h => h) (Or.inl ⟨by rfl, ?_⟩) ?_ ?_
          rotate_left
          ·
           intro w'
           go_simp
           with_reducible rfl
          rotate_left
          ·
           simp only [Act.put, sT, sZ, sS, i64_w, i32_w]
           rfl
          refine pure_ (i := 9) (N := some 71) (v := ?_) (a' := ?_) #[true, true, true, true, true, true, false, true, true, true, false, false, false, false] rfl rfl (any_of HT_.out (by kernel_rfl)) (fun _ _ _ h => h) (Or.inl ⟨by rfl, ?_⟩) ?_ ?_
          rotate_left
          ·
           intro w'
           go_simp
           with_reducible rfl
          rotate_left
          ·
           simp only [Act.put, sT, sZ, sS, i64_w, i32_w]
           rfl
          refine pure_ (i := 11) (N := some 73) (v := ?_) (a' := ?_) #[true, true, true, true, true, true, false, true, true, true, false, true, false, false] rfl rfl (any_of HT_.out (by kernel_rfl)) (fun _ _ _ h => h) (Or.inl ⟨by rfl, ?_⟩) ?_ ?_
          rotate_left
          ·
           intro w'
           go_simp
           with_reducible rfl
          rotate_left
          ·
           simp only [Act.put, sT, sZ, sS, i64_w, i32_w]
           rfl
          refine take_ (i := 6) (N := some 68) (v := ?_) (a' := ?_) #[true, true, true, true, true, true, true, true, true, true, false, true, false, false] rfl rfl (take_ofW HT_.out HW_.out (by kernel_rfl)) (fun _ _ _ h => h) (Or.inl ⟨by rfl, ?_⟩) hHeld ?_ ?_
          rotate_left
          ·
           rintro w' ⟨s0, s1, s2, s3, s4, s5, s6, s7, s8, s9, s10, s11, s12⟩
           go_simp
           with_reducible rfl
          rotate_left
          ·
           simp only [Act.put, sT, sZ, sS, i64_w, i32_w]
           rfl
          refine take_ (i := 10) (N := some 72) (v := ?_) (a' := ?_) #[true, true, true, true, true, true, true, true, true, true, true, true, false, false] rfl rfl (take_ofW HT_.out HW_.out (by kernel_rfl)) (fun _ _ _ h => h) (Or.inl ⟨by rfl, ?_⟩) hHeld ?_ ?_
          rotate_left
          ·
           rintro w' ⟨s0, s1, s2, s3, s4, s5, s6, s7, s8, s9, s10, s11, s12⟩
           go_simp
           with_reducible rfl
          rotate_left
          ·
           simp only [Act.put, sT, sZ, sS, i64_w, i32_w]
           rfl
          refine last_ (i := 12) (N := some 74) #[true, true, true, true, true, true, true, true, true, true, true, true, true, false] rfl rfl (one_of HT_.out (by kernel_rfl)) (by decide) (fun K hK => ?_)
          refine goes_ Try.func44 (by kernel_rfl) rfl #[.agg #[.slice (some ⟨go40, 0, none⟩) x197000_1.length co30, .slice Ao22 t192.length co22, .int .i64 t195], .int .i64 ((rd_T32 y201 x12_1).f0), .int .i64 a1] (by rfl) rfl rfl (by first | rfl | (simp only [List.map_toArray, List.map_cons, List.map_nil, List.length_drop, List.length_take]; try rfl)) ?_
          with_reducible refine (feeder_open.calls (fun k_ => some k_ = (.slice (some ⟨go40, 0, none⟩) x197000_1.length co30 : Value).ownBlock) (.slice (some ⟨go40, 0, none⟩) x197000_1.length co30) y201 _ _ t192 t195 ((rd_T32 y201 x12_1).f0) a1 true t208 w _ ?side1 ?side2 ?side3 ?side4 A43.out).mono ?_
          (case side1 => repeat (first | (with_reducible first | exact HB.out | apply bA | apply bN | apply bD | refine below_set ?_ GE185.out | refine below_set ?_ GE186.out | refine below_set ?_ GE196.out) | exact HB.out))
          (case side2 => exact Kd.R_tight rfl HO_197000.out)
          (case side3 => exact Kd.C_kept_own ((Kd.R_apart' HO_197001.out (Kd.R_typed HO_197000.out) (by decide))) (fun k_ hk_ hs_ => (hk_.2) hs_))
          (case side4 => exact (Kd.R_reads' HO_197001.out).2.1)
          rintro e w50 ⟨rfl, hy0, hb, hkp⟩
          refine ⟨_, rfl, ?_⟩
          replace HO_11 := aM (Kd.R_mono (ok' := fun k_ => some k_ ≠ (.slice Ao22 t192.length co22 : Value).ownBlock ∧ some k_ ≠ (v203 : Value).ownBlock) (Kd.R_keptB ((Kd.R_apart' HO_11.out (Kd.R_typed HO_197000.out) (by decide))) hkp (fun k_ hk_ hs_ => (hk_.2) hs_)) (fun k_ hk_ => ⟨hk_.1.1.1, hk_.1.1.2⟩))
          replace HO_197001 := aM (Kd.R_mono (ok' := fun k_ => some k_ ≠ (u11 : Value).ownBlock ∧ some k_ ≠ (v203 : Value).ownBlock) (Kd.R_keptB ((Kd.R_apart' HO_197001.out (Kd.R_typed HO_197000.out) (by decide))) hkp (fun k_ hk_ hs_ => (hk_.2) hs_)) (fun k_ hk_ => ⟨hk_.1.1.1, hk_.1.1.2⟩))
          replace BK185 := aM (blk_kept (by (with_reducible repeat (first | refine kN ?_ _ | refine kD ?_ | refine kA ?_ _)); exact BK185.out) hkp (fun hs_ => (fun e_ => (Kd.R_ne HO_197000.out BK185.out (by decide)) e_) hs_))
          replace BK186 := aM (blk_kept (by (with_reducible repeat (first | refine kN ?_ _ | refine kD ?_ | refine kA ?_ _)); exact BK186.out) hkp (fun hs_ => (fun e_ => (Kd.R_ne HO_197000.out BK186.out (by decide)) e_) hs_))
          replace BK196 := aM (blk_kept (by (with_reducible repeat (first | refine kN ?_ _ | refine kD ?_ | refine kA ?_ _)); exact BK196.out) hkp (fun hs_ => (fun e_ => (Kd.R_ne HO_197000.out BK196.out (by decide)) e_) hs_))
          replace HO204 := aM (Kd.R_mono (ok' := fun k_ => some k_ ≠ (u11 : Value).ownBlock ∧ some k_ ≠ (.slice Ao22 t192.length co22 : Value).ownBlock) (Kd.R_keptB ((Kd.R_apart' HO204.out (Kd.R_typed HO_197000.out) (by decide))) hkp (fun k_ hk_ hs_ => (hk_.2) hs_)) (fun k_ hk_ => ⟨hk_.1.1.1, hk_.1.1.2⟩))
          replace HO_197000 := aM (Kd.R_reok rfl hy0 (fun k_ e_ => HO_197000.out.1 k_ e_))
          replace HB := aM (hb)
          (try clear hb)
          (try clear hkp)
          (try clear hy0)
          refine hK.out _ _ ?_
          clear hK K
          refine norm_ (a' := ?_) ?_ ?_
          rotate_left
          ·
           show Act.put _ (some 74) _ = _
           simp only [Act.put, sT, sZ, sS, i64_w, i32_w]
           rfl
          refine pure_ (i := 13) (N := some 75) (v := ?_) (a' := ?_) #[true, true, true, true, true, true, true, true, true, true, true, true, true, true] rfl rfl (any_of HT_.out (by kernel_rfl)) (fun _ _ _ h => h) (Or.inl ⟨by rfl, ?_⟩) ?_ ?_
          rotate_left
          ·
           intro w'
           go_simp
           with_reducible rfl
          rotate_left
          ·
           simp only [Act.put, sT, sZ, sS, i64_w, i32_w]
           rfl
          refine done_ (done_of HT_.out (by kernel_rfl)) ?_
          have p209 : 0 ≤ (x12_1 : Int) := of_decide_eq_true (by first | (with_reducible assumption) | assumption)
          have q209 : x12_1 < (t208.length : Int) := (by have h_ : (x12_1 : Int) < ((x197000_1.length : Int) : Int) := of_decide_eq_true (by first | (with_reducible assumption) | assumption); have e_ := (Kd.R_reads' HO_197000.out).1; omega)
          have ql209 : ((x12_1 : Int) < ((x197000_1.length : Int) : Int)) = True := eq_true (of_decide_eq_true (by first | (with_reducible assumption) | assumption))
          obtain ⟨ad209, e209, hx209_0, hx209_1, hx209_2, hx209_3, hx209_4⟩ := at_T32 (Kd.R_reads' HO_197000.out).2.2 x12_1 p209 q209
          obtain rfl : (⟨go40, 0, none⟩ : Addr) = ad209 := (by injection e209)
          (first | simp only [add_plain] at hx209_0 | simp only [add_at] at hx209_0 | simp only [Addr.add, Nat.zero_add] at hx209_0 | skip)
          (first | simp only [add_plain] at hx209_1 | simp only [add_at] at hx209_1 | simp only [Addr.add, Nat.zero_add] at hx209_1 | skip)
          (first | simp only [add_plain] at hx209_2 | simp only [add_at] at hx209_2 | simp only [Addr.add, Nat.zero_add] at hx209_2 | skip)
          (first | simp only [add_plain] at hx209_3 | simp only [add_at] at hx209_3 | simp only [Addr.add, Nat.zero_add] at hx209_3 | skip)
          (first | simp only [add_plain] at hx209_4 | simp only [add_at] at hx209_4 | simp only [Addr.add, Nat.zero_add] at hx209_4 | skip)
          replace p209 := eq_true p209
          replace q209 := eq_true q209
          try go_wp2_with (first | ((with_reducible refine gate_builtin (b := .append) (xs := #[.tmp 76, .tmp 81]) rfl ?_); at_builtin; refine Kd.R_append (Kd.int .i64) (w0 := w) w.heap.size rfl (.tmp 76) (.tmp 81) 26 3 (.int .i64 0) 8 rfl Try.underlying26 info3 rfl (by decide) (by omega) u11 x11_1 ((rd_T32 t208 x12_1).f0) [.int .i64 ((rd_T32 t208 x12_1).f0)] (fun k_ => some k_ ≠ (.slice Ao22 t192.length co22 : Value).ownBlock ∧ some k_ ≠ (v203 : Value).ownBlock) (fun _ => False) rfl rfl ?aP (fun _ hk => hk.elim) ?aF ?aO ?aB ?aS ?aL ?_; (case aP => exact rfl); (case aB => exact (by repeat (first | (with_reducible first | exact HB.out | apply bA | apply bN | apply bD | refine below_set ?_ GE185.out | refine below_set ?_ GE186.out | refine below_set ?_ GE196.out) | exact HB.out))); (case aF => exact (fun k_ hk => ⟨Kd.fresh' (Kd.R_lt (R_mv HO_197001.out)) k_ hk, Kd.fresh' (Kd.R_lt (R_mv HO204.out)) k_ hk⟩)); (case aO => exact (R_mv HO_11.out)); (case aS => exact (below_size (by repeat (first | (with_reducible first | exact HB.out | apply bA | apply bN | apply bD | refine below_set ?_ GE185.out | refine below_set ?_ GE186.out | refine below_set ?_ GE196.out) | exact HB.out)))); (case aL => have := LMc45.out; omega); intro v211 w51 ho hb hg hat; rw [← Ny210.out] at ho; have n0_ := aM (Kd.R_over' (R_mv HO_197000.out) (Kd.R_typed (R_mv HO_11.out)) (by decide) hg); have n1_ := aM (Kd.R_after (ok := (fun k_ => some k_ ≠ (v203 : Value).ownBlock)) (by (with_reducible repeat (first | apply Kd.R_alloc | apply Kd.R_drewN | apply Kd.R_drew)); exact Kd.R_mono HO_197001.out (fun _ hk => ⟨hk.2, hk.1⟩)) hg hat); have n2_ := aM (blk_grown (blk_mv BK185.out) hg (Kd.R_ne HO_11.out BK185.out (by decide))); have n3_ := aM (blk_grown (blk_mv BK186.out) hg (Kd.R_ne HO_11.out BK186.out (by decide))); have n4_ := aM (blk_grown (blk_mv BK196.out) hg (Kd.R_ne HO_11.out BK196.out (by decide))); have n5_ := aM (Kd.R_after (ok := (fun k_ => some k_ ≠ (.slice Ao22 t192.length co22 : Value).ownBlock)) (by (with_reducible repeat (first | apply Kd.R_alloc | apply Kd.R_drewN | apply Kd.R_drew)); exact Kd.R_mono HO204.out (fun _ hk => ⟨hk.2, hk.1⟩)) hg hat); have n6_ := aM (hb); have n7_ := aM (ho); clear HO_197000; clear HO_197001; clear BK185; clear BK186; clear BK196; clear HO204; clear HB; clear HO_11; have HO_197000 := n0_; have HO_197001 := n1_; have BK185 := n2_; have BK186 := n3_; have BK196 := n4_; have HO204 := n5_; have HB := n6_; have HO212 := n7_; clear n0_ n1_ n2_ n3_ n4_ n5_ n6_ n7_; clear ho hb hg hat))
          go_roundg kj25
          case measure => have := HK1.out; have := HJ25.out; omega
          case rel => exact ⟨(y202), (y210), (wrap64 (x12_1 - 1)), (t208), (.slice (some ⟨go40, 0, none⟩) x197000_1.length co30), (by first | rfl | (simp; done) | (simp [*]; done)), H', ⟨by have := HK1.out; have := HJ25.out; omega⟩, ⟨by (with_reducible repeat (first | apply Kd.R_alloc | apply Kd.R_drewN | apply Kd.R_drew)); exact Kd.R_mono HO204.out (fun _ hk => ⟨hk.2, hk.1⟩)⟩, ⟨by (with_reducible repeat (first | apply Kd.R_alloc | apply Kd.R_drewN | apply Kd.R_drew)); exact Kd.R_mono HO212.out (fun _ hk => ⟨hk.2, hk.1⟩)⟩, ⟨by (with_reducible repeat (first | apply Kd.R_alloc | apply Kd.R_drewN | apply Kd.R_drew)); exact HO_197000.out⟩, ⟨by (with_reducible repeat (first | apply Kd.R_alloc | apply Kd.R_drewN | apply Kd.R_drew)); exact HO_197001.out⟩, ⟨blk_mv BK185.out⟩, ⟨blk_mv BK186.out⟩, ⟨blk_mv BK196.out⟩, ⟨by repeat (first | (with_reducible first | exact HB.out | apply bA | apply bN | apply bD | refine below_set ?_ GE185.out | refine below_set ?_ GE186.out | refine below_set ?_ GE196.out) | exact HB.out)⟩⟩
         replace c44 := Bool.eq_false_iff.mpr c44
         subst c44
         have H1 : (feeder_Tick.l0 kj25 a1 y202 x11_1 (wrap64 (x12_1 - 1)) l0_0 l0_1 a0_2 t208 t192 t195) = some (r1, r2, r3, r4, r5, r6) := by rw [if_neg (show ¬ (false = true) by decide)] at H; exact H
         clear H
         have H := H1
         clear H1
         have H' := aM H
         clear H
         have p40 : 0 ≤ (x12_1 : Int) := of_decide_eq_true (by first | (with_reducible assumption) | assumption)
         have q40 : (x12_1 : Int) < ((x197000_1.length : Int) : Int) := of_decide_eq_true (by first | (with_reducible assumption) | assumption)
         obtain ⟨go40, co40, eo40, gb40, gl40, cl40, HG40⟩ := Kd.R_form HO_197000.out (by omega)
         (first | cases eo40 | (injection eo40 with ea_ en_ ec_; (first | subst ea_ | (injection ea_ with ea_; subst ea_)); subst ec_; clear en_))
         have GB40 := aM gb40
         have GG40 := aM HG40
         clear gb40 gl40 HG40
         obtain ⟨ce40, hcl40, hM40, hcc40, hfr40⟩ := Kd.R_elem HO_197000.out z32 (x12_1 : Int) p40 q40
         obtain rfl := k32_openM hM40
         have hx40_0 : wc.cell? ⟨go40, (x12_1 : Int).toNat * 5, none⟩ = some (.int .i64 ((rd_T32 x197000_1 x12_1).f0)) := hcc40 0 _ rfl
         have hx40_1 : wc.cell? ⟨go40, (x12_1 : Int).toNat * 5 + 1, none⟩ = some (.int .i64 ((rd_T32 x197000_1 x12_1).f1)) := hcc40 1 _ rfl
         have hx40_2 : wc.cell? ⟨go40, (x12_1 : Int).toNat * 5 + 2, none⟩ = some (.int .i64 ((rd_T32 x197000_1 x12_1).f2)) := hcc40 2 _ rfl
         have hx40_3 : wc.cell? ⟨go40, (x12_1 : Int).toNat * 5 + 3, none⟩ = some (.bool ((rd_T32 x197000_1 x12_1).f3)) := hcc40 3 _ rfl
         have hx40_4 : wc.cell? ⟨go40, (x12_1 : Int).toNat * 5 + 4, none⟩ = some (.bool ((rd_T32 x197000_1 x12_1).f4)) := hcc40 4 _ rfl
         have hf40_0 : wc.frozen? ⟨go40, (x12_1 : Int).toNat * 5, none⟩ = false := hfr40 0
         have hf40_1 : wc.frozen? ⟨go40, (x12_1 : Int).toNat * 5 + 1, none⟩ = false := hfr40 1
         have hf40_2 : wc.frozen? ⟨go40, (x12_1 : Int).toNat * 5 + 2, none⟩ = false := hfr40 2
         have hf40_3 : wc.frozen? ⟨go40, (x12_1 : Int).toNat * 5 + 3, none⟩ = false := hfr40 3
         have hf40_4 : wc.frozen? ⟨go40, (x12_1 : Int).toNat * 5 + 4, none⟩ = false := hfr40 4
         clear hcl40 hcc40 hfr40 hM40
         replace p40 := eq_true p40
         replace q40 := eq_true q40
         have HX52 := aM (show Kd.R k32 32 wc w.heap.size (fun _ => True) (.slice (some ⟨go40, 0, none⟩) x197000_1.length co30) x197000_1 from (R_mv HO_197000.out))
         obtain ⟨ce52, hcl52, hM52, hcc52, hfr52⟩ := Kd.R_elem HX52.out z32 (x12_1 : Int) (of_decide_eq_true (by first | (with_reducible assumption) | assumption)) (by have h_ : (x12_1 : Int) < ((x197000_1.length : Int) : Int) := of_decide_eq_true (by first | (with_reducible assumption) | assumption); first | exact h_ | (have e_ := (Kd.R_reads' HO_197000.out).1; omega) | simpa using h_)
         obtain rfl := k32_openM hM52
         have HP52 := Kd.R_seg HX52.out (x12_1 : Int) (of_decide_eq_true (by first | (with_reducible assumption) | assumption)) (by have h_ : (x12_1 : Int) < ((x197000_1.length : Int) : Int) := of_decide_eq_true (by first | (with_reducible assumption) | assumption); first | exact h_ | (have e_ := (Kd.R_reads' HO_197000.out).1; omega) | simpa using h_) (seg := [.bool true]) (j := 4) hcl52 hcc52 (show 5 ≤ 5 from by decide) (x' := (⟨(rd_T32 x197000_1 x12_1).f0, (rd_T32 x197000_1 x12_1).f1, (rd_T32 x197000_1 x12_1).f2, (rd_T32 x197000_1 x12_1).f3, true⟩ : S32)) (k32_mkM _ _ _ (⟨(rd_T32 x197000_1 x12_1).f0, (rd_T32 x197000_1 x12_1).f1, (rd_T32 x197000_1 x12_1).f2, (rd_T32 x197000_1 x12_1).f3, true⟩ : S32) ) (fun _ hk => hk)
         have hx52_4 := hcc52 4 _ rfl
         (try simp only [show (k32).sz = 5 from rfl, Nat.mul_one, Nat.add_zero] at hx52_4)
         have hf52_4 := hfr52 4
         (try simp only [show (k32).sz = 5 from rfl, Nat.mul_one, Nat.add_zero] at hf52_4)
         clear hcl52 hcc52 hfr52 hM52
         try go_wp2_with (first | ((with_reducible refine gate_store (t := 4) (p := 57) rfl ?_); refine store_event (t := 4) (p := 57) (v := ?vo_w53) (w1 := (wc.setCell ⟨go40, (x12_1 : Int).toNat * 5 + 4, none⟩ (.bool true))) ?hg ?ho ?hn ?hr ?_; (case ho => rfl); (case hg => rfl); (case hn => rfl); (case hr => first | (go_simp; done) | (go_simp; rfl)); intro w53 hw; have hg : wc.grownBy w53 (some go40) := (by rw [hw]; exact HP52.2); have hp_ : Kd.R k32 32 w53 w.heap.size (fun _ => True) (.slice (some ⟨go40, 0, none⟩) x197000_1.length co30) y201 := (by rw [hw, Ny201.out]; exact HP52.1); clear HP52; replace HO_10 := aM (Kd.R_over' (v := (.slice (some ⟨go40, 0, none⟩) x197000_1.length co30)) (R_mv HO_10.out) (Kd.R_typed HO_197000.out) (by decide) hg); replace HO_11 := aM (Kd.R_over' (v := (.slice (some ⟨go40, 0, none⟩) x197000_1.length co30)) (R_mv HO_11.out) (Kd.R_typed HO_197000.out) (by decide) hg); replace HO_197001 := aM (Kd.R_over' (v := (.slice (some ⟨go40, 0, none⟩) x197000_1.length co30)) (R_mv HO_197001.out) (Kd.R_typed HO_197000.out) (by decide) hg); replace BK185 := aM (blk_grown (blk_mv BK185.out) hg (Kd.R_ne HO_197000.out BK185.out (by decide))); replace BK186 := aM (blk_grown (blk_mv BK186.out) hg (Kd.R_ne HO_197000.out BK186.out (by decide))); replace BK196 := aM (blk_grown (blk_mv BK196.out) hg (Kd.R_ne HO_197000.out BK196.out (by decide))); replace HO_197000 := aM (hp_); replace HB := aM ((by rw [hw]; exact below_set (HB.out) GB40.out : Below w.heap.size w w53)); clear hg hw hp_) | ((with_reducible refine gate_builtin (b := .append) (xs := #[.tmp 58, .tmp 60]) rfl ?_); at_builtin; refine Kd.R_append (Kd.int .i64) (w0 := w) w.heap.size rfl (.tmp 58) (.tmp 60) 26 3 (.int .i64 0) 8 rfl Try.underlying26 info3 rfl (by decide) (by omega) u10 x10_1 x12_1 [.int .i64 x12_1] (fun k_ => some k_ ≠ (u11 : Value).ownBlock ∧ some k_ ≠ (.slice Ao22 t192.length co22 : Value).ownBlock) (fun _ => False) rfl rfl ?aP (fun _ hk => hk.elim) ?aF ?aO ?aB ?aS ?aL ?_; (case aP => exact rfl); (case aB => exact (by repeat (first | (with_reducible first | exact HB.out | apply bA | apply bN | apply bD | refine below_set ?_ GE185.out | refine below_set ?_ GE186.out | refine below_set ?_ GE196.out) | exact HB.out))); (case aF => exact (fun k_ hk => ⟨Kd.fresh' (Kd.R_lt (R_mv HO_11.out)) k_ hk, Kd.fresh' (Kd.R_lt (R_mv HO_197001.out)) k_ hk⟩)); (case aO => exact (R_mv HO_10.out)); (case aS => exact (below_size (by repeat (first | (with_reducible first | exact HB.out | apply bA | apply bN | apply bD | refine below_set ?_ GE185.out | refine below_set ?_ GE186.out | refine below_set ?_ GE196.out) | exact HB.out)))); (case aL => have := LMc41.out; omega); intro v203 w54 ho hb hg hat; rw [← Ny202.out] at ho; have n0_ := aM (Kd.R_after (ok := (fun k_ => some k_ ≠ (.slice Ao22 t192.length co22 : Value).ownBlock)) (by (with_reducible repeat (first | apply Kd.R_alloc | apply Kd.R_drewN | apply Kd.R_drew)); exact Kd.R_mono HO_11.out (fun _ hk => ⟨hk.2, hk.1⟩)) hg hat); have n1_ := aM (Kd.R_over' (R_mv HO_197000.out) (Kd.R_typed (R_mv HO_10.out)) (by decide) hg); have n2_ := aM (Kd.R_after (ok := (fun k_ => some k_ ≠ (u11 : Value).ownBlock)) (by (with_reducible repeat (first | apply Kd.R_alloc | apply Kd.R_drewN | apply Kd.R_drew)); exact Kd.R_mono HO_197001.out (fun _ hk => ⟨hk.2, hk.1⟩)) hg hat); have n3_ := aM (blk_grown (blk_mv BK185.out) hg (Kd.R_ne HO_10.out BK185.out (by decide))); have n4_ := aM (blk_grown (blk_mv BK186.out) hg (Kd.R_ne HO_10.out BK186.out (by decide))); have n5_ := aM (blk_grown (blk_mv BK196.out) hg (Kd.R_ne HO_10.out BK196.out (by decide))); have n6_ := aM (hb); have n7_ := aM (ho); clear HO_11; clear HO_197000; clear HO_197001; clear BK185; clear BK186; clear BK196; clear HB; clear HO_10; have HO_11 := n0_; have HO_197000 := n1_; have HO_197001 := n2_; have BK185 := n3_; have BK186 := n4_; have BK196 := n5_; have HB := n6_; have HO204 := n7_; clear n0_ n1_ n2_ n3_ n4_ n5_ n6_ n7_; clear ho hb hg hat))
         replace HO_11 := aM (Kd.R_drew HO_11.out)
         replace HO_197000 := aM (Kd.R_drew HO_197000.out)
         replace HO_197001 := aM (Kd.R_drew HO_197001.out)
         replace HO204 := aM (Kd.R_drew HO204.out)
         replace BK185 := aM (blk_drew BK185.out)
         replace BK186 := aM (blk_drew BK186.out)
         replace BK196 := aM (blk_drew BK196.out)
         replace HB := aM (below_drew1 HB.out)
         have p205 : 0 ≤ (x12_1 : Int) := of_decide_eq_true (by first | (with_reducible assumption) | assumption)
         have q205 : x12_1 < (y201.length : Int) := (by have h_ : (x12_1 : Int) < ((x197000_1.length : Int) : Int) := of_decide_eq_true (by first | (with_reducible assumption) | assumption); first | (have e_ := (Kd.R_reads' HO_197000.out).1; omega) | simpa only [Ny201.out, List.length_set] using h_)
         have ql205 : ((x12_1 : Int) < ((x197000_1.length : Int) : Int)) = True := eq_true (of_decide_eq_true (by first | (with_reducible assumption) | assumption))
         obtain ⟨ad205, e205, hx205_0, hx205_1, hx205_2, hx205_3, hx205_4⟩ := at_T32 (Kd.R_reads' HO_197000.out).2.2 x12_1 p205 q205
         obtain rfl : (⟨go40, 0, none⟩ : Addr) = ad205 := (by injection e205)
         (first | simp only [add_plain] at hx205_0 | simp only [add_at] at hx205_0 | simp only [Addr.add, Nat.zero_add] at hx205_0 | skip)
         (first | simp only [add_plain] at hx205_1 | simp only [add_at] at hx205_1 | simp only [Addr.add, Nat.zero_add] at hx205_1 | skip)
         (first | simp only [add_plain] at hx205_2 | simp only [add_at] at hx205_2 | simp only [Addr.add, Nat.zero_add] at hx205_2 | skip)
         (first | simp only [add_plain] at hx205_3 | simp only [add_at] at hx205_3 | simp only [Addr.add, Nat.zero_add] at hx205_3 | skip)
         (first | simp only [add_plain] at hx205_4 | simp only [add_at] at hx205_4 | simp only [Addr.add, Nat.zero_add] at hx205_4 | skip)
         replace p205 := eq_true p205
         replace q205 := eq_true q205
         have p206 : 0 ≤ (x12_1 : Int) := of_decide_eq_true (by first | (with_reducible assumption) | assumption)
         have q206 : x12_1 < (y201.length : Int) := (by have h_ : (x12_1 : Int) < ((x197000_1.length : Int) : Int) := of_decide_eq_true (by first | (with_reducible assumption) | assumption); first | (have e_ := (Kd.R_reads' HO_197000.out).1; omega) | simpa only [Ny201.out, List.length_set] using h_)
         have ql206 : ((x12_1 : Int) < ((x197000_1.length : Int) : Int)) = True := eq_true (of_decide_eq_true (by first | (with_reducible assumption) | assumption))
         obtain ⟨ad206, e206, hx206_0, hx206_1, hx206_2, hx206_3, hx206_4⟩ := at_T32 (Kd.R_reads' HO_197000.out).2.2 x12_1 p206 q206
         obtain rfl : (⟨go40, 0, none⟩ : Addr) = ad206 := (by injection e206)
         (first | simp only [add_plain] at hx206_0 | simp only [add_at] at hx206_0 | simp only [Addr.add, Nat.zero_add] at hx206_0 | skip)
         (first | simp only [add_plain] at hx206_1 | simp only [add_at] at hx206_1 | simp only [Addr.add, Nat.zero_add] at hx206_1 | skip)
         (first | simp only [add_plain] at hx206_2 | simp only [add_at] at hx206_2 | simp only [Addr.add, Nat.zero_add] at hx206_2 | skip)
         (first | simp only [add_plain] at hx206_3 | simp only [add_at] at hx206_3 | simp only [Addr.add, Nat.zero_add] at hx206_3 | skip)
         (first | simp only [add_plain] at hx206_4 | simp only [add_at] at hx206_4 | simp only [Addr.add, Nat.zero_add] at hx206_4 | skip)
         replace p206 := eq_true p206
         replace q206 := eq_true q206
         refine start_ (n := 14) (S := fun w' => w'.cell? ⟨gb196, 0, none⟩ = some (.slice (some ⟨go40, 0, none⟩) x197000_1.length co30) ∧ w'.cell? ⟨gb196, 1, none⟩ = some (.slice Ao22 t192.length co22) ∧ w'.cell? ⟨gb196, 2, none⟩ = some (.int .i64 t195) ∧ w'.cell? ⟨go40, (x12_1).toNat * 5, none⟩ = some (.int .i64 ((rd_T32 y201 x12_1).f0)) ∧ w'.cell? ⟨go40, (x12_1).toNat * 5 + 1, none⟩ = some (.int .i64 ((rd_T32 y201 x12_1).f1)) ∧ w'.cell? ⟨go40, (x12_1).toNat * 5 + 2, none⟩ = some (.int .i64 ((rd_T32 y201 x12_1).f2)) ∧ w'.cell? ⟨go40, (x12_1).toNat * 5 + 3, none⟩ = some (.bool ((rd_T32 y201 x12_1).f3)) ∧ w'.cell? ⟨go40, (x12_1).toNat * 5 + 4, none⟩ = some (.bool ((rd_T32 y201 x12_1).f4)) ∧ w'.cell? ⟨go40, (x12_1).toNat * 5, none⟩ = some (.int .i64 ((rd_T32 y201 x12_1).f0)) ∧ w'.cell? ⟨go40, (x12_1).toNat * 5 + 1, none⟩ = some (.int .i64 ((rd_T32 y201 x12_1).f1)) ∧ w'.cell? ⟨go40, (x12_1).toNat * 5 + 2, none⟩ = some (.int .i64 ((rd_T32 y201 x12_1).f2)) ∧ w'.cell? ⟨go40, (x12_1).toNat * 5 + 3, none⟩ = some (.bool ((rd_T32 y201 x12_1).f3)) ∧ w'.cell? ⟨go40, (x12_1).toNat * 5 + 4, none⟩ = some (.bool ((rd_T32 y201 x12_1).f4))) (ds := [12]) #[false, false, false, false, false, false, false, false, false, false, false, false, false, false] (by kernel_rfl) rfl rfl ⟨(blk_cell BK196.out 0).trans rfl, (blk_cell BK196.out 1).trans rfl, (blk_cell BK196.out 2).trans rfl, hx205_0, hx205_1, hx205_2, hx205_3, hx205_4, hx206_0, hx206_1, hx206_2, hx206_3, hx206_4⟩ (fun hHeld => ?_); refine with_tabW feeder_Tick.tab15 feeder_Tick.bits15 (fun HT_ HW_ => ?_)
         generalize w54.drew = w55 at HO_11 HO_197000 HO_197001 HO204 BK185 BK186 BK196 HB hx205_0 hx205_1 hx205_2 hx205_3 hx205_4 hx206_0 hx206_1 hx206_2 hx206_3 hx206_4 hHeld ⊢
         refine pure_ (i := 0) (N := some 62) (v := ?_) (a' := ?_) #[true, false, false, false, false, false, false, false, false, false, false, false, false, false] rfl rfl (any_of HT_.out (by kernel_rfl)) (fun _ _ _ h => h) (Or.inl ⟨by rfl, ?_⟩) ?_ ?_
         rotate_left
         ·
          intro w'
          go_simp
          with_reducible rfl
         rotate_left
         ·
          simp only [Act.put, sT, sZ, sS, i64_w, i32_w]
          rfl
         refine pure_ (i := 1) (N := some 63) (v := ?_) (a' := ?_) #[true, true, false, false, false, false, false, false, false, false, false, false, false, false] rfl rfl (any_of HT_.out (by kernel_rfl)) (fun _ _ _ h => h) (Or.inl ⟨by rfl, ?_⟩) ?_ ?_
         rotate_left
         ·
          intro w'
          go_simp
          with_reducible rfl
         rotate_left
         ·
          simp only [Act.put, sT, sZ, sS, i64_w, i32_w]
          rfl
         refine pure_ (i := 2) (N := some 64) (v := ?_) (a' := ?_) #[true, true, true, false, false, false, false, false, false, false, false, false, false, false] rfl rfl (any_of HT_.out (by kernel_rfl)) (fun _ _ _ h => h) (Or.inl ⟨by rfl, ?_⟩) ?_ ?_
         rotate_left
         ·
          intro w'
          go_simp
          with_reducible rfl
         rotate_left
         ·
          simp only [Act.put, sT, sZ, sS, i64_w, i32_w]
          rfl
         refine take_ (i := 3) (N := some 65) (v := ?_) (a' := ?_) #[true, true, true, true, false, false, false, false, false, false, false, false, false, false] rfl rfl (take_ofW HT_.out HW_.out (by kernel_rfl)) (fun _ _ _ h => h) (Or.inl ⟨by rfl, ?_⟩) hHeld ?_ ?_
         rotate_left
         ·
          rintro w' ⟨s0, s1, s2, s3, s4, s5, s6, s7, s8, s9, s10, s11, s12⟩
          go_simp
          with_reducible rfl
         rotate_left
         ·
          simp only [Act.put, sT, sZ, sS, i64_w, i32_w]
          rfl
         refine pure_ (i := 4) (N := some 66) (v := ?_) (a' := ?_) #[true, true, true, true, true, false, false, false, false, false, false, false, false, false] rfl rfl (any_of HT_.out (by kernel_rfl)) (fun _ _ _ h => h) (Or.inl ⟨by rfl, ?_⟩) ?_ ?_
         rotate_left
         ·
          intro w'
          go_simp
          with_reducible rfl
         rotate_left
         ·
          simp only [Act.put, sT, sZ, sS, i64_w, i32_w]
          rfl
         refine pure_ (i := 5) (N := some 67) (v := ?_) (a' := ?_) #[true, true, true, true, true, true, false, false, false, false, false, false, false, false] rfl rfl (any_of HT_.out (by kernel_rfl)) (fun _ _ _ h => h) (Or.inl ⟨by rfl, ?_⟩) ?_ ?_
         rotate_left
         ·
          intro w'
          go_simp
          with_reducible rfl
         rotate_left
         ·
          simp only [Act.put, sT, sZ, sS, i64_w, i32_w]
          rfl
         refine pure_ (i := 7) (N := some 69) (v := ?_) (a' := ?_) #[true, true, true, true, true, true, false, true, false, false, false, false, false, false] rfl rfl (any_of HT_.out (by kernel_rfl)) (fun _ _ _ h => h) (Or.inl ⟨by rfl, ?_⟩) ?_ ?_
         rotate_left
         ·
          intro w'
          go_simp
          with_reducible rfl
         rotate_left
         ·
          simp only [Act.put, sT, sZ, sS, i64_w, i32_w]
          rfl
         refine pure_ (i := 8) (N := some 70) (v := ?_) (a' := ?_) #[true, true, true, true, true, true, false, true, true, false, false, false, false, false] rfl rfl (any_of HT_.out (by kernel_rfl)) (fun _ _ _ h => h) (Or.inl ⟨by rfl, ?_⟩) ?_ ?_
         rotate_left
         ·
          intro w'
          go_simp
          with_reducible rfl
         rotate_left
         ·
          simp only [Act.put, sT, sZ, sS, i64_w, i32_w]
          rfl
         refine pure_ (i := 9) (N := some 71) (v := ?_) (a' := ?_) #[true, true, true, true, true, true, false, true, true, true, false, false, false, false] rfl rfl (any_of HT_.out (by kernel_rfl)) (fun _ _ _ h => h) (Or.inl ⟨by rfl, ?_⟩) ?_ ?_
         rotate_left
         ·
          intro w'
          go_simp
          with_reducible rfl
         rotate_left
         ·
          simp only [Act.put, sT, sZ, sS, i64_w, i32_w]
          rfl
         refine pure_ (i := 11) (N := some 73) (v := ?_) (a' := ?_) #[true, true, true, true, true, true, false, true, true, true, false, true, false, false] rfl rfl (any_of HT_.out (by kernel_rfl)) (fun _ _ _ h => h) (Or.inl ⟨by rfl, ?_⟩) ?_ ?_
         rotate_left
         ·
          intro w'
          go_simp
          with_reducible rfl
         rotate_left
         ·
          simp only [Act.put, sT, sZ, sS, i64_w, i32_w]
          rfl
         refine take_ (i := 6) (N := some 68) (v := ?_) (a' := ?_) #[true, true, true, true, true, true, true, true, true, true, false, true, false, false] rfl rfl (take_ofW HT_.out HW_.out (by kernel_rfl)) (fun _ _ _ h => h) (Or.inl ⟨by rfl, ?_⟩) hHeld ?_ ?_
         rotate_left
         ·
          rintro w' ⟨s0, s1, s2, s3, s4, s5, s6, s7, s8, s9, s10, s11, s12⟩
          go_simp
          with_reducible rfl
         rotate_left
         ·
          simp only [Act.put, sT, sZ, sS, i64_w, i32_w]
          rfl
         refine take_ (i := 10) (N := some 72) (v := ?_) (a' := ?_) #[true, true, true, true, true, true, true, true, true, true, true, true, false, false] rfl rfl (take_ofW HT_.out HW_.out (by kernel_rfl)) (fun _ _ _ h => h) (Or.inl ⟨by rfl, ?_⟩) hHeld ?_ ?_
         rotate_left
         ·
          rintro w' ⟨s0, s1, s2, s3, s4, s5, s6, s7, s8, s9, s10, s11, s12⟩
          go_simp
          with_reducible rfl
         rotate_left
         ·
          simp only [Act.put, sT, sZ, sS, i64_w, i32_w]
          rfl
         refine last_ (i := 12) (N := some 74) #[true, true, true, true, true, true, true, true, true, true, true, true, true, false] rfl rfl (one_of HT_.out (by kernel_rfl)) (by decide) (fun K hK => ?_)
         refine goes_ Try.func44 (by kernel_rfl) rfl #[.agg #[.slice (some ⟨go40, 0, none⟩) x197000_1.length co30, .slice Ao22 t192.length co22, .int .i64 t195], .int .i64 ((rd_T32 y201 x12_1).f0), .int .i64 a1] (by rfl) rfl rfl (by first | rfl | (simp only [List.map_toArray, List.map_cons, List.map_nil, List.length_drop, List.length_take]; try rfl)) ?_
         with_reducible refine (feeder_open.calls (fun k_ => some k_ = (.slice (some ⟨go40, 0, none⟩) x197000_1.length co30 : Value).ownBlock) (.slice (some ⟨go40, 0, none⟩) x197000_1.length co30) y201 _ _ t192 t195 ((rd_T32 y201 x12_1).f0) a1 false t208 w _ ?side1 ?side2 ?side3 ?side4 A43.out).mono ?_
         (case side1 => repeat (first | (with_reducible first | exact HB.out | apply bA | apply bN | apply bD | refine below_set ?_ GE185.out | refine below_set ?_ GE186.out | refine below_set ?_ GE196.out) | exact HB.out))
         (case side2 => exact Kd.R_tight rfl HO_197000.out)
         (case side3 => exact Kd.C_kept_own ((Kd.R_apart' HO_197001.out (Kd.R_typed HO_197000.out) (by decide))) (fun k_ hk_ hs_ => (hk_.2) hs_))
         (case side4 => exact (Kd.R_reads' HO_197001.out).2.1)
         rintro e w56 ⟨rfl, hy0, hb, hkp⟩
         refine ⟨_, rfl, ?_⟩
         replace HO_11 := aM (Kd.R_mono (ok' := fun k_ => some k_ ≠ (.slice Ao22 t192.length co22 : Value).ownBlock ∧ some k_ ≠ (v203 : Value).ownBlock) (Kd.R_keptB ((Kd.R_apart' HO_11.out (Kd.R_typed HO_197000.out) (by decide))) hkp (fun k_ hk_ hs_ => (hk_.2) hs_)) (fun k_ hk_ => ⟨hk_.1.1.1, hk_.1.1.2⟩))
         replace HO_197001 := aM (Kd.R_mono (ok' := fun k_ => some k_ ≠ (u11 : Value).ownBlock ∧ some k_ ≠ (v203 : Value).ownBlock) (Kd.R_keptB ((Kd.R_apart' HO_197001.out (Kd.R_typed HO_197000.out) (by decide))) hkp (fun k_ hk_ hs_ => (hk_.2) hs_)) (fun k_ hk_ => ⟨hk_.1.1.1, hk_.1.1.2⟩))
         replace BK185 := aM (blk_kept (by (with_reducible repeat (first | refine kN ?_ _ | refine kD ?_ | refine kA ?_ _)); exact BK185.out) hkp (fun hs_ => (fun e_ => (Kd.R_ne HO_197000.out BK185.out (by decide)) e_) hs_))
         replace BK186 := aM (blk_kept (by (with_reducible repeat (first | refine kN ?_ _ | refine kD ?_ | refine kA ?_ _)); exact BK186.out) hkp (fun hs_ => (fun e_ => (Kd.R_ne HO_197000.out BK186.out (by decide)) e_) hs_))
         replace BK196 := aM (blk_kept (by (with_reducible repeat (first | refine kN ?_ _ | refine kD ?_ | refine kA ?_ _)); exact BK196.out) hkp (fun hs_ => (fun e_ => (Kd.R_ne HO_197000.out BK196.out (by decide)) e_) hs_))
         replace HO204 := aM (Kd.R_mono (ok' := fun k_ => some k_ ≠ (u11 : Value).ownBlock ∧ some k_ ≠ (.slice Ao22 t192.length co22 : Value).ownBlock) (Kd.R_keptB ((Kd.R_apart' HO204.out (Kd.R_typed HO_197000.out) (by decide))) hkp (fun k_ hk_ hs_ => (hk_.2) hs_)) (fun k_ hk_ => ⟨hk_.1.1.1, hk_.1.1.2⟩))
         replace HO_197000 := aM (Kd.R_reok rfl hy0 (fun k_ e_ => HO_197000.out.1 k_ e_))
         replace HB := aM (hb)
         (try clear hb)
         (try clear hkp)
         (try clear hy0)
         refine hK.out _ _ ?_
         clear hK K
         refine norm_ (a' := ?_) ?_ ?_
         rotate_left
         ·
          show Act.put _ (some 74) _ = _
          simp only [Act.put, sT, sZ, sS, i64_w, i32_w]
          rfl
         refine pure_ (i := 13) (N := some 75) (v := ?_) (a' := ?_) #[true, true, true, true, true, true, true, true, true, true, true, true, true, true] rfl rfl (any_of HT_.out (by kernel_rfl)) (fun _ _ _ h => h) (Or.inl ⟨by rfl, ?_⟩) ?_ ?_
         rotate_left
         ·
          intro w'
          go_simp
          with_reducible rfl
         rotate_left
         ·
          simp only [Act.put, sT, sZ, sS, i64_w, i32_w]
          rfl
         refine done_ (done_of HT_.out (by kernel_rfl)) ?_
         try go_wp2
         go_roundg kj25
         case measure => have := HK1.out; have := HJ25.out; omega
         case rel => exact ⟨(y202), (x11_1), (wrap64 (x12_1 - 1)), (t208), (.slice (some ⟨go40, 0, none⟩) x197000_1.length co30), (by first | rfl | (simp; done) | (simp [*]; done)), H', ⟨by have := HK1.out; have := HJ25.out; omega⟩, ⟨by (with_reducible repeat (first | apply Kd.R_alloc | apply Kd.R_drewN | apply Kd.R_drew)); exact HO204.out⟩, ⟨by (with_reducible repeat (first | apply Kd.R_alloc | apply Kd.R_drewN | apply Kd.R_drew)); exact Kd.R_mono HO_11.out (fun _ hk => ⟨hk.2, hk.1⟩)⟩, ⟨by (with_reducible repeat (first | apply Kd.R_alloc | apply Kd.R_drewN | apply Kd.R_drew)); exact HO_197000.out⟩, ⟨by (with_reducible repeat (first | apply Kd.R_alloc | apply Kd.R_drewN | apply Kd.R_drew)); exact Kd.R_mono HO_197001.out (fun _ hk => ⟨hk.2, hk.1⟩)⟩, ⟨blk_mv BK185.out⟩, ⟨blk_mv BK186.out⟩, ⟨blk_mv BK196.out⟩, ⟨by repeat (first | (with_reducible first | exact HB.out | apply bA | apply bN | apply bD | refine below_set ?_ GE185.out | refine below_set ?_ GE186.out | refine below_set ?_ GE196.out) | exact HB.out)⟩⟩
        rw [if_neg c42] at H
        have c42b0 : decide (0 ≤ ((rd_T32 y201 x12_1).f0)) = false := decide_eq_false c42
        clear c42
        have H' := aM H
        clear H
        have p40 : 0 ≤ (x12_1 : Int) := of_decide_eq_true (by first | (with_reducible assumption) | assumption)
        have q40 : (x12_1 : Int) < ((x197000_1.length : Int) : Int) := of_decide_eq_true (by first | (with_reducible assumption) | assumption)
        obtain ⟨go40, co40, eo40, gb40, gl40, cl40, HG40⟩ := Kd.R_form HO_197000.out (by omega)
        (first | cases eo40 | (injection eo40 with ea_ en_ ec_; (first | subst ea_ | (injection ea_ with ea_; subst ea_)); subst ec_; clear en_))
        have GB40 := aM gb40
        have GG40 := aM HG40
        clear gb40 gl40 HG40
        obtain ⟨ce40, hcl40, hM40, hcc40, hfr40⟩ := Kd.R_elem HO_197000.out z32 (x12_1 : Int) p40 q40
        obtain rfl := k32_openM hM40
        have hx40_0 : wc.cell? ⟨go40, (x12_1 : Int).toNat * 5, none⟩ = some (.int .i64 ((rd_T32 x197000_1 x12_1).f0)) := hcc40 0 _ rfl
        have hx40_1 : wc.cell? ⟨go40, (x12_1 : Int).toNat * 5 + 1, none⟩ = some (.int .i64 ((rd_T32 x197000_1 x12_1).f1)) := hcc40 1 _ rfl
        have hx40_2 : wc.cell? ⟨go40, (x12_1 : Int).toNat * 5 + 2, none⟩ = some (.int .i64 ((rd_T32 x197000_1 x12_1).f2)) := hcc40 2 _ rfl
        have hx40_3 : wc.cell? ⟨go40, (x12_1 : Int).toNat * 5 + 3, none⟩ = some (.bool ((rd_T32 x197000_1 x12_1).f3)) := hcc40 3 _ rfl
        have hx40_4 : wc.cell? ⟨go40, (x12_1 : Int).toNat * 5 + 4, none⟩ = some (.bool ((rd_T32 x197000_1 x12_1).f4)) := hcc40 4 _ rfl
        have hf40_0 : wc.frozen? ⟨go40, (x12_1 : Int).toNat * 5, none⟩ = false := hfr40 0
        have hf40_1 : wc.frozen? ⟨go40, (x12_1 : Int).toNat * 5 + 1, none⟩ = false := hfr40 1
        have hf40_2 : wc.frozen? ⟨go40, (x12_1 : Int).toNat * 5 + 2, none⟩ = false := hfr40 2
        have hf40_3 : wc.frozen? ⟨go40, (x12_1 : Int).toNat * 5 + 3, none⟩ = false := hfr40 3
        have hf40_4 : wc.frozen? ⟨go40, (x12_1 : Int).toNat * 5 + 4, none⟩ = false := hfr40 4
        clear hcl40 hcc40 hfr40 hM40
        replace p40 := eq_true p40
        replace q40 := eq_true q40
        have HX57 := aM (show Kd.R k32 32 wc w.heap.size (fun _ => True) (.slice (some ⟨go40, 0, none⟩) x197000_1.length co30) x197000_1 from (R_mv HO_197000.out))
        obtain ⟨ce57, hcl57, hM57, hcc57, hfr57⟩ := Kd.R_elem HX57.out z32 (x12_1 : Int) (of_decide_eq_true (by first | (with_reducible assumption) | assumption)) (by have h_ : (x12_1 : Int) < ((x197000_1.length : Int) : Int) := of_decide_eq_true (by first | (with_reducible assumption) | assumption); first | exact h_ | (have e_ := (Kd.R_reads' HO_197000.out).1; omega) | simpa using h_)
        obtain rfl := k32_openM hM57
        have HP57 := Kd.R_seg HX57.out (x12_1 : Int) (of_decide_eq_true (by first | (with_reducible assumption) | assumption)) (by have h_ : (x12_1 : Int) < ((x197000_1.length : Int) : Int) := of_decide_eq_true (by first | (with_reducible assumption) | assumption); first | exact h_ | (have e_ := (Kd.R_reads' HO_197000.out).1; omega) | simpa using h_) (seg := [.bool true]) (j := 4) hcl57 hcc57 (show 5 ≤ 5 from by decide) (x' := (⟨(rd_T32 x197000_1 x12_1).f0, (rd_T32 x197000_1 x12_1).f1, (rd_T32 x197000_1 x12_1).f2, (rd_T32 x197000_1 x12_1).f3, true⟩ : S32)) (k32_mkM _ _ _ (⟨(rd_T32 x197000_1 x12_1).f0, (rd_T32 x197000_1 x12_1).f1, (rd_T32 x197000_1 x12_1).f2, (rd_T32 x197000_1 x12_1).f3, true⟩ : S32) ) (fun _ hk => hk)
        have hx57_4 := hcc57 4 _ rfl
        (try simp only [show (k32).sz = 5 from rfl, Nat.mul_one, Nat.add_zero] at hx57_4)
        have hf57_4 := hfr57 4
        (try simp only [show (k32).sz = 5 from rfl, Nat.mul_one, Nat.add_zero] at hf57_4)
        clear hcl57 hcc57 hfr57 hM57
        try go_wp2_with (first | ((with_reducible refine gate_store (t := 4) (p := 57) rfl ?_); refine store_event (t := 4) (p := 57) (v := ?vo_w58) (w1 := (wc.setCell ⟨go40, (x12_1 : Int).toNat * 5 + 4, none⟩ (.bool true))) ?hg ?ho ?hn ?hr ?_; (case ho => rfl); (case hg => rfl); (case hn => rfl); (case hr => first | (go_simp; done) | (go_simp; rfl)); intro w58 hw; have hg : wc.grownBy w58 (some go40) := (by rw [hw]; exact HP57.2); have hp_ : Kd.R k32 32 w58 w.heap.size (fun _ => True) (.slice (some ⟨go40, 0, none⟩) x197000_1.length co30) y201 := (by rw [hw, Ny201.out]; exact HP57.1); clear HP57; replace HO_10 := aM (Kd.R_over' (v := (.slice (some ⟨go40, 0, none⟩) x197000_1.length co30)) (R_mv HO_10.out) (Kd.R_typed HO_197000.out) (by decide) hg); replace HO_11 := aM (Kd.R_over' (v := (.slice (some ⟨go40, 0, none⟩) x197000_1.length co30)) (R_mv HO_11.out) (Kd.R_typed HO_197000.out) (by decide) hg); replace HO_197001 := aM (Kd.R_over' (v := (.slice (some ⟨go40, 0, none⟩) x197000_1.length co30)) (R_mv HO_197001.out) (Kd.R_typed HO_197000.out) (by decide) hg); replace BK185 := aM (blk_grown (blk_mv BK185.out) hg (Kd.R_ne HO_197000.out BK185.out (by decide))); replace BK186 := aM (blk_grown (blk_mv BK186.out) hg (Kd.R_ne HO_197000.out BK186.out (by decide))); replace BK196 := aM (blk_grown (blk_mv BK196.out) hg (Kd.R_ne HO_197000.out BK196.out (by decide))); replace HO_197000 := aM (hp_); replace HB := aM ((by rw [hw]; exact below_set (HB.out) GB40.out : Below w.heap.size w w58)); clear hg hw hp_) | ((with_reducible refine gate_builtin (b := .append) (xs := #[.tmp 58, .tmp 60]) rfl ?_); at_builtin; refine Kd.R_append (Kd.int .i64) (w0 := w) w.heap.size rfl (.tmp 58) (.tmp 60) 26 3 (.int .i64 0) 8 rfl Try.underlying26 info3 rfl (by decide) (by omega) u10 x10_1 x12_1 [.int .i64 x12_1] (fun k_ => some k_ ≠ (u11 : Value).ownBlock ∧ some k_ ≠ (.slice Ao22 t192.length co22 : Value).ownBlock) (fun _ => False) rfl rfl ?aP (fun _ hk => hk.elim) ?aF ?aO ?aB ?aS ?aL ?_; (case aP => exact rfl); (case aB => exact (by repeat (first | (with_reducible first | exact HB.out | apply bA | apply bN | apply bD | refine below_set ?_ GE185.out | refine below_set ?_ GE186.out | refine below_set ?_ GE196.out) | exact HB.out))); (case aF => exact (fun k_ hk => ⟨Kd.fresh' (Kd.R_lt (R_mv HO_11.out)) k_ hk, Kd.fresh' (Kd.R_lt (R_mv HO_197001.out)) k_ hk⟩)); (case aO => exact (R_mv HO_10.out)); (case aS => exact (below_size (by repeat (first | (with_reducible first | exact HB.out | apply bA | apply bN | apply bD | refine below_set ?_ GE185.out | refine below_set ?_ GE186.out | refine below_set ?_ GE196.out) | exact HB.out)))); (case aL => have := LMc41.out; omega); intro v203 w59 ho hb hg hat; rw [← Ny202.out] at ho; have n0_ := aM (Kd.R_after (ok := (fun k_ => some k_ ≠ (.slice Ao22 t192.length co22 : Value).ownBlock)) (by (with_reducible repeat (first | apply Kd.R_alloc | apply Kd.R_drewN | apply Kd.R_drew)); exact Kd.R_mono HO_11.out (fun _ hk => ⟨hk.2, hk.1⟩)) hg hat); have n1_ := aM (Kd.R_over' (R_mv HO_197000.out) (Kd.R_typed (R_mv HO_10.out)) (by decide) hg); have n2_ := aM (Kd.R_after (ok := (fun k_ => some k_ ≠ (u11 : Value).ownBlock)) (by (with_reducible repeat (first | apply Kd.R_alloc | apply Kd.R_drewN | apply Kd.R_drew)); exact Kd.R_mono HO_197001.out (fun _ hk => ⟨hk.2, hk.1⟩)) hg hat); have n3_ := aM (blk_grown (blk_mv BK185.out) hg (Kd.R_ne HO_10.out BK185.out (by decide))); have n4_ := aM (blk_grown (blk_mv BK186.out) hg (Kd.R_ne HO_10.out BK186.out (by decide))); have n5_ := aM (blk_grown (blk_mv BK196.out) hg (Kd.R_ne HO_10.out BK196.out (by decide))); have n6_ := aM (hb); have n7_ := aM (ho); clear HO_11; clear HO_197000; clear HO_197001; clear BK185; clear BK186; clear BK196; clear HB; clear HO_10; have HO_11 := n0_; have HO_197000 := n1_; have HO_197001 := n2_; have BK185 := n3_; have BK186 := n4_; have BK196 := n5_; have HB := n6_; have HO204 := n7_; clear n0_ n1_ n2_ n3_ n4_ n5_ n6_ n7_; clear ho hb hg hat))
        replace HO_11 := aM (Kd.R_drew HO_11.out)
        replace HO_197000 := aM (Kd.R_drew HO_197000.out)
        replace HO_197001 := aM (Kd.R_drew HO_197001.out)
        replace HO204 := aM (Kd.R_drew HO204.out)
        replace BK185 := aM (blk_drew BK185.out)
        replace BK186 := aM (blk_drew BK186.out)
        replace BK196 := aM (blk_drew BK196.out)
        replace HB := aM (below_drew1 HB.out)
        have p205 : 0 ≤ (x12_1 : Int) := of_decide_eq_true (by first | (with_reducible assumption) | assumption)
        have q205 : x12_1 < (y201.length : Int) := (by have h_ : (x12_1 : Int) < ((x197000_1.length : Int) : Int) := of_decide_eq_true (by first | (with_reducible assumption) | assumption); first | (have e_ := (Kd.R_reads' HO_197000.out).1; omega) | simpa only [Ny201.out, List.length_set] using h_)
        have ql205 : ((x12_1 : Int) < ((x197000_1.length : Int) : Int)) = True := eq_true (of_decide_eq_true (by first | (with_reducible assumption) | assumption))
        obtain ⟨ad205, e205, hx205_0, hx205_1, hx205_2, hx205_3, hx205_4⟩ := at_T32 (Kd.R_reads' HO_197000.out).2.2 x12_1 p205 q205
        obtain rfl : (⟨go40, 0, none⟩ : Addr) = ad205 := (by injection e205)
        (first | simp only [add_plain] at hx205_0 | simp only [add_at] at hx205_0 | simp only [Addr.add, Nat.zero_add] at hx205_0 | skip)
        (first | simp only [add_plain] at hx205_1 | simp only [add_at] at hx205_1 | simp only [Addr.add, Nat.zero_add] at hx205_1 | skip)
        (first | simp only [add_plain] at hx205_2 | simp only [add_at] at hx205_2 | simp only [Addr.add, Nat.zero_add] at hx205_2 | skip)
        (first | simp only [add_plain] at hx205_3 | simp only [add_at] at hx205_3 | simp only [Addr.add, Nat.zero_add] at hx205_3 | skip)
        (first | simp only [add_plain] at hx205_4 | simp only [add_at] at hx205_4 | simp only [Addr.add, Nat.zero_add] at hx205_4 | skip)
        replace p205 := eq_true p205
        replace q205 := eq_true q205
        refine start_ (n := 14) (S := fun w' => w'.cell? ⟨go40, (x12_1).toNat * 5, none⟩ = some (.int .i64 ((rd_T32 y201 x12_1).f0)) ∧ w'.cell? ⟨go40, (x12_1).toNat * 5 + 1, none⟩ = some (.int .i64 ((rd_T32 y201 x12_1).f1)) ∧ w'.cell? ⟨go40, (x12_1).toNat * 5 + 2, none⟩ = some (.int .i64 ((rd_T32 y201 x12_1).f2)) ∧ w'.cell? ⟨go40, (x12_1).toNat * 5 + 3, none⟩ = some (.bool ((rd_T32 y201 x12_1).f3)) ∧ w'.cell? ⟨go40, (x12_1).toNat * 5 + 4, none⟩ = some (.bool ((rd_T32 y201 x12_1).f4))) (ds := []) #[false, false, false, false, false, false, false, false, false, false, false, false, false, false] (by kernel_rfl) rfl rfl ⟨hx205_0, hx205_1, hx205_2, hx205_3, hx205_4⟩ (fun hHeld => ?_); refine with_tabW feeder_Tick.tab15 feeder_Tick.bits15 (fun HT_ HW_ => ?_)
        generalize w59.drew = w60 at HO_11 HO_197000 HO_197001 HO204 BK185 BK186 BK196 HB hx205_0 hx205_1 hx205_2 hx205_3 hx205_4 hHeld ⊢
        refine pure_ (i := 0) (N := some 62) (v := ?_) (a' := ?_) #[true, false, false, false, false, false, false, false, false, false, false, false, false, false] rfl rfl (any_of HT_.out (by kernel_rfl)) (fun _ _ _ h => h) (Or.inl ⟨by rfl, ?_⟩) ?_ ?_
        rotate_left
        ·
         intro w'
         go_simp
         with_reducible rfl
        rotate_left
        ·
         simp only [Act.put, sT, sZ, sS, i64_w, i32_w]
         rfl
        refine pure_ (i := 1) (N := some 63) (v := ?_) (a' := ?_) #[true, true, false, false, false, false, false, false, false, false, false, false, false, false] rfl rfl (any_of HT_.out (by kernel_rfl)) (fun _ _ _ h => h) (Or.inl ⟨by rfl, ?_⟩) ?_ ?_
        rotate_left
        ·
         intro w'
         go_simp
         with_reducible rfl
        rotate_left
        ·
         simp only [Act.put, sT, sZ, sS, i64_w, i32_w]
         rfl
        refine pure_ (i := 2) (N := some 64) (v := ?_) (a' := ?_) #[true, true, true, false, false, false, false, false, false, false, false, false, false, false] rfl rfl (any_of HT_.out (by kernel_rfl)) (fun _ _ _ h => h) (Or.inl ⟨by rfl, ?_⟩) ?_ ?_
        rotate_left
        ·
         intro w'
         go_simp
         with_reducible rfl
        rotate_left
        ·
         simp only [Act.put, sT, sZ, sS, i64_w, i32_w]
         rfl
        refine take_ (i := 3) (N := some 65) (v := ?_) (a' := ?_) #[true, true, true, true, false, false, false, false, false, false, false, false, false, false] rfl rfl (take_ofW HT_.out HW_.out (by kernel_rfl)) (fun _ _ _ h => h) (Or.inl ⟨by rfl, ?_⟩) hHeld ?_ ?_
        rotate_left
        ·
         rintro w' ⟨s0, s1, s2, s3, s4⟩
         go_simp
         with_reducible rfl
        rotate_left
        ·
         simp only [Act.put, sT, sZ, sS, i64_w, i32_w]
         rfl
        refine pure_ (i := 4) (N := some 66) (v := ?_) (a' := ?_) #[true, true, true, true, true, false, false, false, false, false, false, false, false, false] rfl rfl (any_of HT_.out (by kernel_rfl)) (fun _ _ _ h => h) (Or.inl ⟨by rfl, ?_⟩) ?_ ?_
        rotate_left
        ·
         intro w'
         go_simp
         with_reducible rfl
        rotate_left
        ·
         simp only [Act.put, sT, sZ, sS, i64_w, i32_w]
         rfl
        refine pure_ (i := 5) (N := some 67) (v := ?_) (a' := ?_) #[true, true, true, true, true, true, false, false, false, false, false, false, false, false] rfl rfl (any_of HT_.out (by kernel_rfl)) (fun _ _ _ h => h) (Or.inl ⟨by rfl, ?_⟩) ?_ ?_
        rotate_left
        ·
         intro w'
         go_simp
         with_reducible rfl
        rotate_left
        ·
         simp only [Act.put, sT, sZ, sS, i64_w, i32_w]
         rfl
        refine pure_ (i := 6) (N := some 68) (v := undef) (a' := ?_) #[true, true, true, true, true, true, true, false, false, false, false, false, false, false] rfl rfl (any_of HT_.out (by kernel_rfl)) (fun _ _ _ h => h) (Or.inr ⟨by rfl, rfl⟩) ?_ ?_
        rotate_left
        ·
         simp only [Act.put, sT, sZ, sS, i64_w, i32_w]
         rfl
        refine pure_ (i := 7) (N := some 69) (v := undef) (a' := ?_) #[true, true, true, true, true, true, true, true, false, false, false, false, false, false] rfl rfl (any_of HT_.out (by kernel_rfl)) (fun _ _ _ h => h) (Or.inr ⟨by rfl, rfl⟩) ?_ ?_
        rotate_left
        ·
         simp only [Act.put, sT, sZ, sS, i64_w, i32_w]
         rfl
        refine pure_ (i := 8) (N := some 70) (v := undef) (a' := ?_) #[true, true, true, true, true, true, true, true, true, false, false, false, false, false] rfl rfl (any_of HT_.out (by kernel_rfl)) (fun _ _ _ h => h) (Or.inr ⟨by rfl, rfl⟩) ?_ ?_
        rotate_left
        ·
         simp only [Act.put, sT, sZ, sS, i64_w, i32_w]
         rfl
        refine pure_ (i := 9) (N := some 71) (v := undef) (a' := ?_) #[true, true, true, true, true, true, true, true, true, true, false, false, false, false] rfl rfl (any_of HT_.out (by kernel_rfl)) (fun _ _ _ h => h) (Or.inr ⟨by rfl, rfl⟩) ?_ ?_
        rotate_left
        ·
         simp only [Act.put, sT, sZ, sS, i64_w, i32_w]
         rfl
        refine pure_ (i := 10) (N := some 72) (v := undef) (a' := ?_) #[true, true, true, true, true, true, true, true, true, true, true, false, false, false] rfl rfl (any_of HT_.out (by kernel_rfl)) (fun _ _ _ h => h) (Or.inr ⟨by rfl, rfl⟩) ?_ ?_
        rotate_left
        ·
         simp only [Act.put, sT, sZ, sS, i64_w, i32_w]
         rfl
        refine pure_ (i := 11) (N := some 73) (v := undef) (a' := ?_) #[true, true, true, true, true, true, true, true, true, true, true, true, false, false] rfl rfl (any_of HT_.out (by kernel_rfl)) (fun _ _ _ h => h) (Or.inr ⟨by rfl, rfl⟩) ?_ ?_
        rotate_left
        ·
         simp only [Act.put, sT, sZ, sS, i64_w, i32_w]
         rfl
        refine pure_ (i := 12) (N := some 74) (v := undef) (a' := ?_) #[true, true, true, true, true, true, true, true, true, true, true, true, true, false] rfl rfl (any_of HT_.out (by kernel_rfl)) (fun _ _ _ h => h) (Or.inr ⟨by rfl, rfl⟩) ?_ ?_
        rotate_left
        ·
         simp only [Act.put, sT, sZ, sS, i64_w, i32_w]
         rfl
        refine pure_ (i := 13) (N := some 75) (v := ?_) (a' := ?_) #[true, true, true, true, true, true, true, true, true, true, true, true, true, true] rfl rfl (any_of HT_.out (by kernel_rfl)) (fun _ _ _ h => h) (Or.inl ⟨by rfl, ?_⟩) ?_ ?_
        rotate_left
        ·
         intro w'
         go_simp
         with_reducible rfl
        rotate_left
        ·
         simp only [Act.put, sT, sZ, sS, i64_w, i32_w]
         rfl
        refine done_ (done_of HT_.out (by kernel_rfl)) ?_
        try go_wp2
        go_roundg kj25
        case measure => have := HK1.out; have := HJ25.out; omega
        case rel => exact ⟨(y202), (x11_1), (wrap64 (x12_1 - 1)), (y201), (.slice (some ⟨go40, 0, none⟩) x197000_1.length co30), (by first | rfl | (simp; done) | (simp [*]; done)), H', ⟨by have := HK1.out; have := HJ25.out; omega⟩, ⟨by (with_reducible repeat (first | apply Kd.R_alloc | apply Kd.R_drewN | apply Kd.R_drew)); exact HO204.out⟩, ⟨by (with_reducible repeat (first | apply Kd.R_alloc | apply Kd.R_drewN | apply Kd.R_drew)); exact Kd.R_mono HO_11.out (fun _ hk => ⟨hk.2, hk.1⟩)⟩, ⟨by (with_reducible repeat (first | apply Kd.R_alloc | apply Kd.R_drewN | apply Kd.R_drew)); exact HO_197000.out⟩, ⟨by (with_reducible repeat (first | apply Kd.R_alloc | apply Kd.R_drewN | apply Kd.R_drew)); exact Kd.R_mono HO_197001.out (fun _ hk => ⟨hk.2, hk.1⟩)⟩, ⟨blk_mv BK185.out⟩, ⟨blk_mv BK186.out⟩, ⟨blk_mv BK196.out⟩, ⟨by repeat (first | (with_reducible first | exact HB.out | apply bA | apply bN | apply bD | refine below_set ?_ GE185.out | refine below_set ?_ GE186.out | refine below_set ?_ GE196.out) | exact HB.out)⟩⟩
     rw [if_neg c23] at H
     have c23b0 : decide (0 ≤ x12_1) = false := decide_eq_false c23
     clear c23
     simp only [Option.some.injEq, Prod.mk.injEq] at H
     obtain ⟨rfl, rfl, rfl, rfl, rfl, rfl⟩ := H
     have hnb61 := NB196_185.out
     have hnc61 := NB185_196.out
     have hnb62 := NB196_186.out
     have hnc62 := NB186_196.out
     obtain ⟨hcz63_0, hcz63_1, hcz63_2, hfz63_0, hfz63_1, hfz63_2⟩ := blk3 BK196.out
     obtain ⟨Ao64, co64, eo64⟩ := Kd.R_slice HO_197000.out
     subst eo64
     have hnb65 := NB186_185.out
     have hnc65 := NB185_186.out
     obtain ⟨hcz66_0, hcz66_1, hcz66_2, hfz66_0, hfz66_1, hfz66_2⟩ := blk3 BK186.out
     go_wp2
     refine bodyPost_ret (results_list (rs := [.cell 4 28, .tmp 5, .tmp 6, .tmp 7]) rfl (by simp) (.cell gb186 28 #[.slice Ao64 x197000_1.length co64, .slice Ao22 t192.length co22, .int .i64 t195] (0, 0) _ rfl (by (with_reducible repeat (first | refine kN ?_ _ | refine kD ?_ | refine kA ?_ _)); refine blk_put (cs := #[.slice Ao64 x197000_1.length co64, .slice Ao22 t192.length co22, .int .i64 0]) ?_ 2 _ rfl; (with_reducible repeat (first | refine kN ?_ _ | refine kD ?_ | refine kA ?_ _)); refine blk_put (cs := #[.slice Ao64 x197000_1.length co64, .slice none 0 0, .int .i64 0]) ?_ 1 _ rfl; (with_reducible repeat (first | refine kN ?_ _ | refine kD ?_ | refine kA ?_ _)); refine blk_put (cs := #[.slice none 0 0, .slice none 0 0, .int .i64 0]) ?_ 0 _ rfl; (with_reducible repeat (first | refine kN ?_ _ | refine kD ?_ | refine kA ?_ _)); exact BK186.out) Try.underlying28 rfl (by kernel_rfl) (.tmp (.tmp (.tmp .nil))))) rfl ?_
     exact ⟨_, _, _, _, by first | rfl | (simp [errW_none, errW_some] <;> rfl) | (simp [*, errW_none, errW_some] <;> rfl), by (with_reducible repeat (first | apply Kd.R_alloc | apply Kd.R_drewN | apply Kd.R_drew)); exact Kd.R_mono (f3 HO_197000.out BK186.out (by decide)) (fun _ hk => trivial), by (with_reducible repeat (first | apply Kd.R_alloc | apply Kd.R_drewN | apply Kd.R_drew)); exact Kd.R_mono (f3 HO_197001.out BK186.out (by decide)) (fun _ hk => ⟨hk.1.1, hk.1.2⟩), by (with_reducible repeat (first | apply Kd.R_alloc | apply Kd.R_drewN | apply Kd.R_drew)); exact Kd.R_mono (f3 HO_10.out BK186.out (by decide)) (fun _ hk => ⟨hk.1.2, hk.1.1⟩), by (with_reducible repeat (first | apply Kd.R_alloc | apply Kd.R_drewN | apply Kd.R_drew)); exact Kd.R_mono (f3 HO_11.out BK186.out (by decide)) (fun _ hk => ⟨hk.1.2, hk.1.1⟩), by repeat (first | (with_reducible first | exact HB.out | apply bA | apply bN | apply bD | refine below_set ?_ GE185.out | refine below_set ?_ GE186.out | refine below_set ?_ GE196.out) | exact HB.out)⟩
  replace c6 := Bool.eq_false_iff.mpr c6
  subst c6
  have H1 : (some (([] : List (S32)), ([] : List Int), 0, ([] : List Int), ([] : List Int), 8)) = some (r1, r2, r3, r4, r5, r6) := by rw [if_neg (show ¬ (false = true) by decide)] at H; exact H
  clear H
  have H := H1
  clear H1
  simp only [Option.some.injEq, Prod.mk.injEq] at H
  obtain ⟨rfl, rfl, rfl, rfl, rfl, rfl⟩ := H
  go_enter Try.func16, Try.ntmps16
  go_wp2_with (first | ((with_reducible refine gate_dst (N := 2) rfl ?_); refine box_event ?hg (N := 2) ?hd (cs := #[.slice A0_0 l0_0.length c0_0, .slice A0_1 l0_1.length c0_1, .int .i64 a0_2]) (t := 28) ?hr ?_; (case hd => rfl); (case hg => rfl); (case hr => first | (go_simp; done) | (go_simp; rfl)); intro gb185 hg w67 hbox hb; have BK185 := aM (hbox); have GW185 := aM ((by rw [hg]; exact (below_size (below_mv HB.out)) : w.heap.size ≤ gb185)); have GE185 := aM ((by rw [hg]; exact (below_size (below_mv HB.out)) : w.heap.size ≤ gb185)); replace HB := aM (below_step (below_mv HB.out) hb); clear hb hbox hg) | ((with_reducible refine gate_dst (N := 4) rfl ?_); refine box_event ?hg (N := 4) ?hd (cs := #[.slice none 0 0, .slice none 0 0, .int .i64 0]) (t := 28) ?hr ?_; (case hd => rfl); (case hg => rfl); (case hr => first | (go_simp; done) | (go_simp; rfl)); intro gb186 hg w68 hbox hb; have BK186 := aM (hbox); have GW186 := aM ((by rw [hg]; exact (below_size (by repeat (first | (with_reducible first | exact HB.out | apply bA | apply bN | apply bD | refine below_set ?_ GE185.out) | exact HB.out))) : w.heap.size ≤ gb186)); have GE186 := aM ((by rw [hg]; exact (below_size (by repeat (first | (with_reducible first | exact HB.out | apply bA | apply bN | apply bD | refine below_set ?_ GE185.out) | exact HB.out))) : w.heap.size ≤ gb186)); replace HB := aM (below_step (by repeat (first | (with_reducible first | exact HB.out | apply bA | apply bN | apply bD | refine below_set ?_ GE185.out) | exact HB.out)) hb); have NB185_186 := aM ((by rw [hg]; exact Nat.ne_of_lt (blk_lt (blk_mv BK185.out)) : gb185 ≠ gb186)); have NB186_185 := aM ((by rw [hg]; exact Nat.ne_of_gt (blk_lt (blk_mv BK185.out)) : gb186 ≠ gb185)); replace BK185 := aM (blk_below (blk_mv BK185.out) hb); clear hb hbox hg; have hnb69 := NB185_186.out; have hnc69 := NB186_185.out; obtain ⟨hcz70_0, hcz70_1, hcz70_2, hfz70_0, hfz70_1, hfz70_2⟩ := blk3 BK185.out) | ((with_reducible refine gate_callee (f := 23) rfl ?_); refine goesL_ (some 15) rfl rfl Try.func23 (by kernel_rfl) rfl #[.agg #[.slice A0_0 l0_0.length c0_0, .slice A0_1 l0_1.length c0_1, .int .i64 a0_2]] rfl (by first | rfl | (simp only [List.map_toArray, List.map_cons, List.map_nil, List.length_drop, List.length_take]; try rfl)) ?_; (with_reducible refine (feeder_Check.calls k _ _ l0_0 _ _ l0_1 a0_2 t187 _ ?side1 ?side2 ?side3 ?side4 A3.out).mono ?_); (case side1 => first | exact C_mv (Kd.C_below HR0_0.out HB.out) | exact C_mv HR0_0.out); (case side2 => exact HC0_0.out); (case side3 => first | exact C_mv (Kd.C_below HR0_1.out HB.out) | exact C_mv HR0_1.out); (case side4 => exact HC0_1.out); rintro e w71 ⟨rfl, hb⟩; refine ⟨_, rfl, ?_⟩; replace BK185 := aM (blk_below (blk_mv BK185.out) hb); replace BK186 := aM (blk_below (blk_mv BK186.out) hb); replace HB := aM (below_step (by repeat (first | (with_reducible first | exact HB.out | apply bA | apply bN | apply bD | refine below_set ?_ GE185.out | refine below_set ?_ GE186.out) | exact HB.out)) hb); (try clear hb); (try clear hb2); (try clear hge); (try clear hk); (try clear hi); obtain ⟨hcz72_0, hcz72_1, hcz72_2, hfz72_0, hfz72_1, hfz72_2⟩ := blk3 BK185.out) | ((with_reducible refine gate_callee (f := 46) rfl ?_); refine goesL_ (some 22) rfl rfl Try.func46 (by kernel_rfl) rfl #[.agg #[.slice A0_0 l0_0.length c0_0, .slice A0_1 l0_1.length c0_1, .int .i64 a0_2], .int .i64 a1] rfl (by first | rfl | (simp only [List.map_toArray, List.map_cons, List.map_nil, List.length_drop, List.length_take]; try rfl)) ?_; (with_reducible refine (feeder_timely.calls k _ _ l0_0 _ _ l0_1 a0_2 a1 false _ ?side1 ?side2 ?side3 ?side4 A5.out).mono ?_); (case side1 => first | exact C_mv (Kd.C_below HR0_0.out HB.out) | exact C_mv HR0_0.out); (case side2 => exact HC0_0.out); (case side3 => first | exact C_mv (Kd.C_below HR0_1.out HB.out) | exact C_mv HR0_1.out); (case side4 => exact HC0_1.out); rintro e w73 ⟨rfl, hb⟩; refine ⟨_, rfl, ?_⟩; replace BK185 := aM (blk_below (blk_mv BK185.out) hb); replace BK186 := aM (blk_below (blk_mv BK186.out) hb); replace HB := aM (below_step (by repeat (first | (with_reducible first | exact HB.out | apply bA | apply bN | apply bD | refine below_set ?_ GE185.out | refine below_set ?_ GE186.out) | exact HB.out)) hb); (try clear hb); (try clear hb2); (try clear hge); (try clear hk); (try clear hi); obtain ⟨hcz74_0, hcz74_1, hcz74_2, hfz74_0, hfz74_1, hfz74_2⟩ := blk3 BK186.out))
  refine bodyPost_ret (results_list (rs := [.cell 4 28, .tmp 5, .tmp 6, .tmp 7]) rfl (by simp) (.cell gb186 28 #[.slice none 0 0, .slice none 0 0, .int .i64 0] (0, 0) _ rfl (by (with_reducible repeat (first | refine kN ?_ _ | refine kD ?_ | refine kA ?_ _)); refine blk_put (cs := #[.slice none 0 0, .slice none 0 0, .int .i64 0]) ?_ 2 _ rfl; (with_reducible repeat (first | refine kN ?_ _ | refine kD ?_ | refine kA ?_ _)); refine blk_put (cs := #[.slice none 0 0, .slice none 0 0, .int .i64 0]) ?_ 1 _ rfl; (with_reducible repeat (first | refine kN ?_ _ | refine kD ?_ | refine kA ?_ _)); refine blk_put (cs := #[.slice none 0 0, .slice none 0 0, .int .i64 0]) ?_ 0 _ rfl; (with_reducible repeat (first | refine kN ?_ _ | refine kD ?_ | refine kA ?_ _)); exact BK186.out) Try.underlying28 rfl (by kernel_rfl) (.tmp (.tmp (.tmp .nil))))) rfl ?_
  exact ⟨_, _, _, _, by first | rfl | (simp [errW_none, errW_some] <;> rfl) | (simp [*, errW_none, errW_some] <;> rfl), by first | exact Kd.R_nil _ _ _ _ _ | exact Kd.N_nil _ _ _ _ _ | exact Kd.V_nil _ _ _ _ _ | exact Kd.Q_nil _ _ _ _ _ | exact Kd.S_nil _ _ _ _ _, by first | exact Kd.R_nil _ _ _ _ _ | exact Kd.N_nil _ _ _ _ _ | exact Kd.V_nil _ _ _ _ _ | exact Kd.Q_nil _ _ _ _ _ | exact Kd.S_nil _ _ _ _ _, by first | exact Kd.R_nil _ _ _ _ _ | exact Kd.N_nil _ _ _ _ _ | exact Kd.V_nil _ _ _ _ _ | exact Kd.Q_nil _ _ _ _ _ | exact Kd.S_nil _ _ _ _ _, by first | exact Kd.R_nil _ _ _ _ _ | exact Kd.N_nil _ _ _ _ _ | exact Kd.V_nil _ _ _ _ _ | exact Kd.Q_nil _ _ _ _ _ | exact Kd.S_nil _ _ _ _ _, by repeat (first | (with_reducible first | exact HB.out | apply bA | apply bN | apply bD | refine below_set ?_ GE185.out | refine below_set ?_ GE186.out) | exact HB.out)⟩
 rw [if_neg c4] at H
 have c4b0 : (t187 == 0) = false := beq_eq_false_iff_ne.mpr c4
 have c4b1 : (t187 != 0) = true := bne_iff_ne.mpr c4
 simp only [Option.some.injEq, Prod.mk.injEq] at H
 obtain ⟨rfl, rfl, rfl, rfl, rfl, rfl⟩ := H
 go_enter Try.func16, Try.ntmps16
 go_wp2_with (first | ((with_reducible refine gate_dst (N := 2) rfl ?_); refine box_event ?hg (N := 2) ?hd (cs := #[.slice A0_0 l0_0.length c0_0, .slice A0_1 l0_1.length c0_1, .int .i64 a0_2]) (t := 28) ?hr ?_; (case hd => rfl); (case hg => rfl); (case hr => first | (go_simp; done) | (go_simp; rfl)); intro gb185 hg w75 hbox hb; have BK185 := aM (hbox); have GW185 := aM ((by rw [hg]; exact (below_size (below_mv HB.out)) : w.heap.size ≤ gb185)); have GE185 := aM ((by rw [hg]; exact (below_size (below_mv HB.out)) : w.heap.size ≤ gb185)); replace HB := aM (below_step (below_mv HB.out) hb); clear hb hbox hg) | ((with_reducible refine gate_dst (N := 4) rfl ?_); refine box_event ?hg (N := 4) ?hd (cs := #[.slice none 0 0, .slice none 0 0, .int .i64 0]) (t := 28) ?hr ?_; (case hd => rfl); (case hg => rfl); (case hr => first | (go_simp; done) | (go_simp; rfl)); intro gb186 hg w76 hbox hb; have BK186 := aM (hbox); have GW186 := aM ((by rw [hg]; exact (below_size (by repeat (first | (with_reducible first | exact HB.out | apply bA | apply bN | apply bD | refine below_set ?_ GE185.out) | exact HB.out))) : w.heap.size ≤ gb186)); have GE186 := aM ((by rw [hg]; exact (below_size (by repeat (first | (with_reducible first | exact HB.out | apply bA | apply bN | apply bD | refine below_set ?_ GE185.out) | exact HB.out))) : w.heap.size ≤ gb186)); replace HB := aM (below_step (by repeat (first | (with_reducible first | exact HB.out | apply bA | apply bN | apply bD | refine below_set ?_ GE185.out) | exact HB.out)) hb); have NB185_186 := aM ((by rw [hg]; exact Nat.ne_of_lt (blk_lt (blk_mv BK185.out)) : gb185 ≠ gb186)); have NB186_185 := aM ((by rw [hg]; exact Nat.ne_of_gt (blk_lt (blk_mv BK185.out)) : gb186 ≠ gb185)); replace BK185 := aM (blk_below (blk_mv BK185.out) hb); clear hb hbox hg; have hnb77 := NB185_186.out; have hnc77 := NB186_185.out; obtain ⟨hcz78_0, hcz78_1, hcz78_2, hfz78_0, hfz78_1, hfz78_2⟩ := blk3 BK185.out) | ((with_reducible refine gate_callee (f := 23) rfl ?_); refine goesL_ (some 15) rfl rfl Try.func23 (by kernel_rfl) rfl #[.agg #[.slice A0_0 l0_0.length c0_0, .slice A0_1 l0_1.length c0_1, .int .i64 a0_2]] rfl (by first | rfl | (simp only [List.map_toArray, List.map_cons, List.map_nil, List.length_drop, List.length_take]; try rfl)) ?_; (with_reducible refine (feeder_Check.calls k _ _ l0_0 _ _ l0_1 a0_2 t187 _ ?side1 ?side2 ?side3 ?side4 A3.out).mono ?_); (case side1 => first | exact C_mv (Kd.C_below HR0_0.out HB.out) | exact C_mv HR0_0.out); (case side2 => exact HC0_0.out); (case side3 => first | exact C_mv (Kd.C_below HR0_1.out HB.out) | exact C_mv HR0_1.out); (case side4 => exact HC0_1.out); rintro e w79 ⟨rfl, hb⟩; refine ⟨_, rfl, ?_⟩; replace BK185 := aM (blk_below (blk_mv BK185.out) hb); replace BK186 := aM (blk_below (blk_mv BK186.out) hb); replace HB := aM (below_step (by repeat (first | (with_reducible first | exact HB.out | apply bA | apply bN | apply bD | refine below_set ?_ GE185.out | refine below_set ?_ GE186.out) | exact HB.out)) hb); (try clear hb); (try clear hb2); (try clear hge); (try clear hk); (try clear hi); obtain ⟨hcz80_0, hcz80_1, hcz80_2, hfz80_0, hfz80_1, hfz80_2⟩ := blk3 BK186.out))
 refine bodyPost_ret (results_list (rs := [.cell 4 28, .tmp 5, .tmp 6, .tmp 7]) rfl (by simp) (.cell gb186 28 #[.slice none 0 0, .slice none 0 0, .int .i64 0] (0, 0) _ rfl (by (with_reducible repeat (first | refine kN ?_ _ | refine kD ?_ | refine kA ?_ _)); refine blk_put (cs := #[.slice none 0 0, .slice none 0 0, .int .i64 0]) ?_ 2 _ rfl; (with_reducible repeat (first | refine kN ?_ _ | refine kD ?_ | refine kA ?_ _)); refine blk_put (cs := #[.slice none 0 0, .slice none 0 0, .int .i64 0]) ?_ 1 _ rfl; (with_reducible repeat (first | refine kN ?_ _ | refine kD ?_ | refine kA ?_ _)); refine blk_put (cs := #[.slice none 0 0, .slice none 0 0, .int .i64 0]) ?_ 0 _ rfl; (with_reducible repeat (first | refine kN ?_ _ | refine kD ?_ | refine kA ?_ _)); exact BK186.out) Try.underlying28 rfl (by kernel_rfl) (.tmp (.tmp (.tmp .nil))))) rfl ?_
 exact ⟨_, _, _, _, by first | rfl | (simp [errW_none, errW_some] <;> rfl) | (simp [*, errW_none, errW_some] <;> rfl), by first | exact Kd.R_nil _ _ _ _ _ | exact Kd.N_nil _ _ _ _ _ | exact Kd.V_nil _ _ _ _ _ | exact Kd.Q_nil _ _ _ _ _ | exact Kd.S_nil _ _ _ _ _, by first | exact Kd.R_nil _ _ _ _ _ | exact Kd.N_nil _ _ _ _ _ | exact Kd.V_nil _ _ _ _ _ | exact Kd.Q_nil _ _ _ _ _ | exact Kd.S_nil _ _ _ _ _, by first | exact Kd.R_nil _ _ _ _ _ | exact Kd.N_nil _ _ _ _ _ | exact Kd.V_nil _ _ _ _ _ | exact Kd.Q_nil _ _ _ _ _ | exact Kd.S_nil _ _ _ _ _, by first | exact Kd.R_nil _ _ _ _ _ | exact Kd.N_nil _ _ _ _ _ | exact Kd.V_nil _ _ _ _ _ | exact Kd.Q_nil _ _ _ _ _ | exact Kd.S_nil _ _ _ _ _, by repeat (first | (with_reducible first | exact HB.out | apply bA | apply bN | apply bD | refine below_set ?_ GE185.out | refine below_set ?_ GE186.out) | exact HB.out)⟩

end Go.Proofs.Ytcgeflbifbaecaa.PFeh
