/- Functions of the given program as Lean functions, and proofs that its calls come to what these say. Written by a program of this seat (wip/mkprint.py); Lean checks it all. -/
import Derived.Test.YtcgeflbifbaecaaPFekx0
import Derived.Test.YtcgeflbifbaecaaPFekx1
import Derived.Test.YtcgeflbifbaecaaPFekx2
import Derived.Test.YtcgeflbifbaecaaPFekx3
import Derived.Test.YtcgeflbifbaecaaPFekx4
import Derived.Test.YtcgeflbifbaecaaPFekx6
import Derived.Test.YtcgeflbifbaecaaPFekx7
import Derived.Test.YtcgeflbifbaecaaPFekx10
import Derived.Test.YtcgeflbifbaecaaPFekx11
import Derived.Test.YtcgeflbifbaecaaPFekx12
namespace Go.Proofs.Ytcgeflbifbaecaa.PFek
open Go.RowKit Go.Proofs.YtcgeflbifbaecaaW.PrintWords Go.Proofs.YtcgeflbifbaecaaW.PrintLast Go.Proofs.YtcgeflbifbaecaaW.PrintMore
attribute [local go_sem] max2_int min2_int max_two min_two max_three min_three max_four min_four   -- for this text's walks alone
set_option linter.unusedVariables false
set_option linter.unusedSimpArgs false

/-! ### minecontrollaw18_FeederChecks: function 7 -/
mutual
def minecontrollaw18_FeederChecks.j0 : Nat → List Int → Int → Int → Int → Bool → List (S32) → List Int → Int → Option (Bool)
 | 0, _, _, _, _, _, _, _, _ => none
 | k + 1, x0, x2, x3, x4, x23, x326000, x326001, x326002 => if x23 = true then ((minecontrollaw18_awake.f k).bind fun t326 => (some t326)) else ((minecontroldraw_Mod.f x4 6).bind fun t327 => ((minecontrollaw18_made.f k x0 x2 x3).bind fun bt328 => ((some (([(⟨bt328.1, bt328.2.1, bt328.2.2⟩ : S28), (⟨x326000, x326001, x326002⟩ : S28)] : List (S28)) : List (S28))).bind fun y335 => (minecontrollaw18_FeederChecks.l0 k x4 t327 y335 (y335.length : Int) 0))))
def minecontrollaw18_FeederChecks.l0 : Nat → Int → Int → List (S28) → Int → Int → Option (Bool)
 | 0, _, _, _, _, _ => none
 | k + 1, x4, x11, x32, x33, x34 => if x34 < x33 then (if 0 ≤ x34 then (if x34 < (x32.length : Int) then ((feeder_Check.f k ((rd_T28 x32 x34).f0) ((rd_T28 x32 x34).f1) ((rd_T28 x32 x34).f2)).bind fun t341 => ((minecontrolref18_Check.f k ((rd_T28 x32 x34).f0) ((rd_T28 x32 x34).f1) ((rd_T28 x32 x34).f2)).bind fun t342 => (if t341 = t342 then ((feeder_Path.f k ((rd_T28 x32 x34).f0) ((rd_T28 x32 x34).f1) ((rd_T28 x32 x34).f2) x11).bind fun t343 => ((minecontrolref18_Path.f k ((rd_T28 x32 x34).f0) ((rd_T28 x32 x34).f1) ((rd_T28 x32 x34).f2) x11).bind fun t346 => ((minecontrolref01_Ints.f k t343 t346).bind fun t349 => (if t349 = true then ((feeder_Path.f k ((rd_T28 x32 x34).f0) ((rd_T28 x32 x34).f1) ((rd_T28 x32 x34).f2) x4).bind fun t350 => ((minecontrolref18_Path.f k ((rd_T28 x32 x34).f0) ((rd_T28 x32 x34).f1) ((rd_T28 x32 x34).f2) x4).bind fun t353 => ((minecontrolref01_Ints.f k t350 t353).bind fun t356 => (if t356 = true then ((feeder_Live.f k ((rd_T28 x32 x34).f0) ((rd_T28 x32 x34).f1) ((rd_T28 x32 x34).f2) x11).bind fun t357 => ((minecontrolref18_Live.f k ((rd_T28 x32 x34).f0) ((rd_T28 x32 x34).f1) ((rd_T28 x32 x34).f2) x11).bind fun t358 => (if t357 = t358 then ((feeder_Live.f k ((rd_T28 x32 x34).f0) ((rd_T28 x32 x34).f1) ((rd_T28 x32 x34).f2) x4).bind fun t359 => ((minecontrolref18_Live.f k ((rd_T28 x32 x34).f0) ((rd_T28 x32 x34).f1) ((rd_T28 x32 x34).f2) x4).bind fun t360 => (if t359 = t360 then ((feeder_Due.f k ((rd_T28 x32 x34).f0) ((rd_T28 x32 x34).f1) ((rd_T28 x32 x34).f2)).bind fun t361 => ((minecontrolref18_Due.f k ((rd_T28 x32 x34).f0) ((rd_T28 x32 x34).f1) ((rd_T28 x32 x34).f2)).bind fun t362 => (if t361 = t362 then ((feeder_Failed.f k ((rd_T28 x32 x34).f0) ((rd_T28 x32 x34).f1) ((rd_T28 x32 x34).f2)).bind fun t363 => ((minecontrolref18_Failed.f k ((rd_T28 x32 x34).f0) ((rd_T28 x32 x34).f1) ((rd_T28 x32 x34).f2)).bind fun t366 => ((minecontrolref01_Ints.f k t363 t366).bind fun t369 => (if t369 = true then (minecontrollaw18_FeederChecks.l0 k x4 x11 x32 x33 (wrap64 (x34 + 1))) else (some false))))) else (some false)))) else (some false)))) else (some false)))) else (some false))))) else (some false))))) else (some false)))) else (none)) else (none)) else ((minecontrollaw18_awake.f k).bind fun t338 => (some t338))
end
def minecontrollaw18_FeederChecks.f (k : Nat) (l0 : List Int) (l1_0 : List (S32)) (l1_1 : List Int) (a1_2 : Int) (a2 : Int) (a3 : Int) (a4 : Int) : Option (Bool) := if (l1_0.length : Int) > 40 then (minecontrollaw18_FeederChecks.j0 k l0 a2 a3 a4 true l1_0 l1_1 a1_2) else (minecontrollaw18_FeederChecks.j0 k l0 a2 a3 a4 (decide ((l1_1.length : Int) > 40)) l1_0 l1_1 a1_2)
theorem minecontrollaw18_FeederChecks.mono_l : ∀ k, (∀ y0 y1 y2 y3 y4 y5 y6 y7, LeO (minecontrollaw18_FeederChecks.j0 k y0 y1 y2 y3 y4 y5 y6 y7) (minecontrollaw18_FeederChecks.j0 (k + 1) y0 y1 y2 y3 y4 y5 y6 y7)) ∧ (∀ y0 y1 y2 y3 y4, LeO (minecontrollaw18_FeederChecks.l0 k y0 y1 y2 y3 y4) (minecontrollaw18_FeederChecks.l0 (k + 1) y0 y1 y2 y3 y4))
 | 0 => ⟨fun _ _ _ _ _ _ _ _ r h => by simp [minecontrollaw18_FeederChecks.j0] at h, fun _ _ _ _ _ r h => by simp [minecontrollaw18_FeederChecks.l0] at h⟩
 | k + 1 => by
  obtain ⟨ih0, ih1⟩ := minecontrollaw18_FeederChecks.mono_l k
  refine ⟨?_, ?_⟩
  ·
   intro y0 y1 y2 y3 y4 y5 y6 y7
   unfold minecontrollaw18_FeederChecks.j0
   repeat' first
   | (with_reducible exact ih0 _ _ _ _ _ _ _ _)
   | (with_reducible exact ih1 _ _ _ _ _)
   | (with_reducible exact feeder_Check.mono _ _ _ _)
   | (with_reducible exact feeder_Due.mono _ _ _ _)
   | (with_reducible exact feeder_Failed.mono _ _ _ _)
   | (with_reducible exact feeder_Live.mono _ _ _ _ _)
   | (with_reducible exact feeder_Path.mono _ _ _ _ _)
   | (with_reducible exact minecontrollaw18_awake.mono _)
   | (with_reducible exact minecontrollaw18_made.mono _ _ _ _)
   | (with_reducible exact minecontrolref01_Ints.mono _ _ _)
   | (with_reducible exact minecontrolref18_Check.mono _ _ _ _)
   | (with_reducible exact minecontrolref18_Due.mono _ _ _ _)
   | (with_reducible exact minecontrolref18_Failed.mono _ _ _ _)
   | (with_reducible exact minecontrolref18_Live.mono _ _ _ _ _)
   | (with_reducible exact minecontrolref18_Path.mono _ _ _ _ _)
   | (with_reducible exact LeO.refl _)
   | (with_reducible exact LeO.none _)
   | (with_reducible refine LeO.ite ?_ ?_)
   | (with_reducible refine LeO.bind ?_ (fun _ => ?_))
   | exact ih0 _ _ _ _ _ _ _ _
   | exact ih1 _ _ _ _ _
   | exact LeO.none _
   | refine LeO.ite ?_ ?_
   | refine LeO.bind ?_ (fun _ => ?_)
  intro y0 y1 y2 y3 y4
  unfold minecontrollaw18_FeederChecks.l0
  repeat' first
  | (with_reducible exact ih0 _ _ _ _ _ _ _ _)
  | (with_reducible exact ih1 _ _ _ _ _)
  | (with_reducible exact feeder_Check.mono _ _ _ _)
  | (with_reducible exact feeder_Due.mono _ _ _ _)
  | (with_reducible exact feeder_Failed.mono _ _ _ _)
  | (with_reducible exact feeder_Live.mono _ _ _ _ _)
  | (with_reducible exact feeder_Path.mono _ _ _ _ _)
  | (with_reducible exact minecontrollaw18_awake.mono _)
  | (with_reducible exact minecontrollaw18_made.mono _ _ _ _)
  | (with_reducible exact minecontrolref01_Ints.mono _ _ _)
  | (with_reducible exact minecontrolref18_Check.mono _ _ _ _)
  | (with_reducible exact minecontrolref18_Due.mono _ _ _ _)
  | (with_reducible exact minecontrolref18_Failed.mono _ _ _ _)
  | (with_reducible exact minecontrolref18_Live.mono _ _ _ _ _)
  | (with_reducible exact minecontrolref18_Path.mono _ _ _ _ _)
  | (with_reducible exact LeO.refl _)
  | (with_reducible exact LeO.none _)
  | (with_reducible refine LeO.ite ?_ ?_)
  | (with_reducible refine LeO.bind ?_ (fun _ => ?_))
  | exact ih0 _ _ _ _ _ _ _ _
  | exact ih1 _ _ _ _ _
  | exact LeO.none _
  | refine LeO.ite ?_ ?_
  | refine LeO.bind ?_ (fun _ => ?_)
theorem minecontrollaw18_FeederChecks.mono : ∀ a0 a1 a2 a3 a4 a5 a6 k, LeO (minecontrollaw18_FeederChecks.f k a0 a1 a2 a3 a4 a5 a6) (minecontrollaw18_FeederChecks.f (k + 1) a0 a1 a2 a3 a4 a5 a6) := by
 intro a0 a1 a2 a3 a4 a5 a6 k
 obtain ⟨ih0, ih1⟩ := minecontrollaw18_FeederChecks.mono_l k
 unfold minecontrollaw18_FeederChecks.f
 repeat' first
   | (with_reducible exact ih0 _ _ _ _ _ _ _ _)
   | (with_reducible exact ih1 _ _ _ _ _)
   | (with_reducible exact feeder_Check.mono _ _ _ _)
   | (with_reducible exact feeder_Due.mono _ _ _ _)
   | (with_reducible exact feeder_Failed.mono _ _ _ _)
   | (with_reducible exact feeder_Live.mono _ _ _ _ _)
   | (with_reducible exact feeder_Path.mono _ _ _ _ _)
   | (with_reducible exact minecontrollaw18_awake.mono _)
   | (with_reducible exact minecontrollaw18_made.mono _ _ _ _)
   | (with_reducible exact minecontrolref01_Ints.mono _ _ _)
   | (with_reducible exact minecontrolref18_Check.mono _ _ _ _)
   | (with_reducible exact minecontrolref18_Due.mono _ _ _ _)
   | (with_reducible exact minecontrolref18_Failed.mono _ _ _ _)
   | (with_reducible exact minecontrolref18_Live.mono _ _ _ _ _)
   | (with_reducible exact minecontrolref18_Path.mono _ _ _ _ _)
   | (with_reducible exact LeO.refl _)
   | (with_reducible exact LeO.none _)
   | (with_reducible refine LeO.ite ?_ ?_)
   | (with_reducible refine LeO.bind ?_ (fun _ => ?_))
   | exact ih0 _ _ _ _ _ _ _ _
   | exact ih1 _ _ _ _ _
   | exact LeO.none _
   | refine LeO.ite ?_ ?_
   | refine LeO.bind ?_ (fun _ => ?_)
def minecontrollaw18_FeederChecks.T4 : Bool × List (List Nat × List Nat) := (true, [([], []), ([], []), ([], []), ([0, 1, 2], [0, 1, 2]), ([], []), ([3, 4], [3, 4]), ([5], [5]), ([], [])])
def minecontrollaw18_FeederChecks.B4 : List Nat := [0, 0, 0, 7, 0, 31, 63, 0]
theorem minecontrollaw18_FeederChecks.tab4 : rtab .any (opsOf Try.f7 4) = minecontrollaw18_FeederChecks.T4 := by kernel_rfl
theorem minecontrollaw18_FeederChecks.bits4 : waitsOk minecontrollaw18_FeederChecks.T4.2 minecontrollaw18_FeederChecks.B4 = true := by kernel_rfl
def minecontrollaw18_FeederChecks.T7 : Bool × List (List Nat × List Nat) := (true, [([], []), ([0], [0]), ([], []), ([2, 1], [2]), ([1, 3], [1, 3]), ([4, 3], [4]), ([5], [5]), ([5], [5]), ([6, 7, 5, 5], [5, 6, 7]), ([5], [5]), ([5], [5]), ([9, 10, 8, 5], [5, 9, 10]), ([8, 11, 11, 5], [5, 8, 11]), ([12, 5], [5, 12]), ([5, 13], [5, 13]), ([14, 12], [14]), ([15], [15]), ([15], [15]), ([16, 17, 15, 15], [15, 16, 17]), ([15], [15]), ([15], [15]), ([19, 20, 18, 15], [15, 19, 20]), ([18, 21, 21, 15], [15, 18, 21]), ([22, 15], [15, 22]), ([15, 23], [15, 23]), ([24, 22], [24]), ([25], [25]), ([25], [25]), ([26, 27, 25, 25], [25, 26, 27]), ([25], [25]), ([25], [25]), ([29, 30, 28, 25], [25, 29, 30]), ([28, 31, 25], [25, 28, 31]), ([25, 32], [25, 32]), ([33, 31], [33]), ([34], [34]), ([34], [34]), ([35, 36, 34, 34], [34, 35, 36]), ([34], [34]), ([34], [34]), ([38, 39, 37, 34], [34, 38, 39]), ([37, 40, 34], [34, 37, 40]), ([34, 41], [34, 41]), ([42, 40], [42]), ([43], [43]), ([44, 43, 43], [43, 44]), ([43], [43]), ([46, 45, 43], [43, 46]), ([45, 47, 43], [43, 45, 47]), ([43, 48], [43, 48]), ([49, 47], [49]), ([50], [50]), ([51, 50, 50], [50, 51]), ([50], [50]), ([53, 52, 50], [50, 53]), ([52, 54, 54, 50], [50, 52, 54]), ([55, 50], [50, 55]), ([50, 56], [50, 56])])
def minecontrollaw18_FeederChecks.B7 : List Nat := [0, 1, 0, 7, 15, 31, 63, 63, 255, 63, 63, 2047, 4095, 8191, 16383, 32767, 65535, 65535, 262143, 65535, 65535, 2097151, 4194303, 8388607, 16777215, 33554431, 67108863, 67108863, 268435455, 67108863, 67108863, 2147483647, 4294967295, 8589934591, 17179869183, 34359738367, 34359738367, 137438953471, 34359738367, 34359738367, 1099511627775, 2199023255551, 4398046511103, 8796093022207, 17592186044415, 35184372088831, 17592186044415, 140737488355327, 281474976710655, 562949953421311, 1125899906842623, 2251799813685247, 4503599627370495, 2251799813685247, 18014398509481983, 36028797018963967, 72057594037927935, 144115188075855871]
theorem minecontrollaw18_FeederChecks.tab7 : rtab .any (opsOf Try.f7 7) = minecontrollaw18_FeederChecks.T7 := by kernel_rfl
theorem minecontrollaw18_FeederChecks.bits7 : waitsOk minecontrollaw18_FeederChecks.T7.2 minecontrollaw18_FeederChecks.B7 = true := by kernel_rfl
set_option maxHeartbeats 8000000 in
set_option maxRecDepth 100000 in
theorem minecontrollaw18_FeederChecks.calls1 (k : Nat) (A0 : Option Addr) (c0 : Nat) (l0 : List Int) (P1_0_ : Nat → Prop) (A1_0 : Option Addr) (c1_0 : Nat) (l1_0 : List (S32)) (P1_1_ : Nat → Prop) (A1_1 : Option Addr) (c1_1 : Nat) (l1_1 : List Int) (a1_2 : Int) (a2 : Int) (a3 : Int) (a4 : Int) (r : Bool) (w : World) (hr0 : Kd.C (Kd.int .u8) w A0 l0.length l0) (hc0 : l0.length ≤ c0) (hs1_0 : Kd.V k32 32 w w.heap.size (fun k_ => P1_0_ k_) (.slice A1_0 l1_0.length c1_0) l1_0) (hs1_1 : Kd.V (Kd.int .i64) 3 w w.heap.size (fun k_ => P1_1_ k_) (.slice A1_1 l1_1.length c1_1) l1_1) (hr_ : Aside0 (r = true)) (h : minecontrollaw18_FeederChecks.f k l0 l1_0 l1_1 a1_2 a2 a3 a4 = some r) :
  Calls Try.prog 7 #[.slice A0 l0.length c0, .agg #[.slice A1_0 l1_0.length c1_0, .slice A1_1 l1_1.length c1_1, .int .i64 a1_2], .int .i64 a2, .int .i64 a3, .int .i64 a4] w fun e w' => e = .returned (.bool r) ∧ Below w.heap.size w w' := by
 have hu28 := Try.underlying28
 have HR0 := aM hr0
 have HC0 := aM hc0
 clear hr0 hc0
 have HO1_0 := aM (show Kd.V k32 32 w w.heap.size (fun k_ => ((P1_0_ k_ ∨ P1_1_ k_) ∨ w.heap.size ≤ k_)) (.slice A1_0 l1_0.length c1_0) l1_0 from Kd.V_mono hs1_0 (fun k_ hk => .inl (.inl hk)))
 have HO1_1 := aM (show Kd.V (Kd.int .i64) 3 w w.heap.size (fun k_ => ((P1_0_ k_ ∨ P1_1_ k_) ∨ w.heap.size ≤ k_)) (.slice A1_1 l1_1.length c1_1) l1_1 from Kd.V_mono hs1_1 (fun k_ hk => .inl (.inr hk)))
 have HB := aM (Below.refl w.heap.size w)
 have H : (if (l1_0.length : Int) > 40 then (minecontrollaw18_FeederChecks.j0 k l0 a2 a3 a4 true l1_0 l1_1 a1_2) else (minecontrollaw18_FeederChecks.j0 k l0 a2 a3 a4 (decide ((l1_1.length : Int) > 40)) l1_0 l1_1 a1_2)) = some r := h
 clear h
 have HC6 := aM H
 clear H
 go_enter Try.func7, Try.ntmps7
 go_upto_region 1 with (first | ((with_reducible refine gate_dst (N := 6) rfl ?_); (try (refine gate_guard (by rfl) ?_; dsimp only)); refine box_event ?hg (N := 6) ?hd (cs := #[.slice A1_0 l1_0.length c1_0, .slice A1_1 l1_1.length c1_1, .int .i64 a1_2]) (t := 28) ?hr ?_; (case hd => rfl); (case hg => rfl); (case hr => first | (go_simp; done) | (go_simp; rfl)); intro gb325 hg w7 hbox hb; replace HO1_0 := aM (Kd.V_below (Kd.V_elderB (V_mv HO1_0.out) gb325 (Nat.le_of_eq hg.symm)) hb); replace HO1_1 := aM (Kd.V_below (Kd.V_elderB (V_mv HO1_1.out) gb325 (Nat.le_of_eq hg.symm)) hb); have BK325 := aM (hbox); have GW325 := aM ((by rw [hg]; exact (below_size (below_mv HB.out)) : w.heap.size ≤ gb325)); have GE325 := aM ((by rw [hg]; exact (below_size (below_mv HB.out)) : w.heap.size ≤ gb325)); replace HB := aM (below_step (below_mv HB.out) hb); clear hb hbox hg))
 (try simp only [Act.put, List.setIfInBounds_toArray, List.set_cons_zero, List.set_cons_succ])
 go_cut [23] (fun v23 wc => ∃ (kq : Nat) (x23_5 : Bool), v23 = .bool x23_5 ∧ Aside0 (minecontrollaw18_FeederChecks.j0 kq l0 a2 a3 a4 x23_5 l1_0 l1_1 a1_2 = some r) ∧ Aside0 (kq ≤ k) ∧ Aside0 (Kd.V k32 32 wc w.heap.size (fun k_ => ((P1_0_ k_ ∨ P1_1_ k_) ∨ w.heap.size ≤ k_) ∧ k_ ≠ gb325) (.slice A1_0 l1_0.length c1_0) l1_0) ∧ Aside0 (Kd.V (Kd.int .i64) 3 wc w.heap.size (fun k_ => ((P1_0_ k_ ∨ P1_1_ k_) ∨ w.heap.size ≤ k_) ∧ k_ ≠ gb325) (.slice A1_1 l1_1.length c1_1) l1_1) ∧ Aside0 (wc.heap[gb325]? = some (.cells #[(.slice A1_0 l1_0.length c1_0), (.slice A1_1 l1_1.length c1_1), .int .i64 a1_2] 28 (0, 0))) ∧ Aside0 (Below w.heap.size w wc))
 case first =>
  have H := HC6.out
  clear HC6
  by_cases c8 : (l1_0.length : Int) > 40
  ·
   rw [if_pos c8] at H
   have c8b0 : decide (40 < (l1_0.length : Int)) = true := decide_eq_true c8
   have c8b1 : decide (40 < l1_0.length) = true := decide_eq_true (by omega)
   clear c8
   (first | rw [c8b0] | (simp only [i64_w, i32_w]; rw [c8b0]) | skip)
   have H' := aM H
   clear H
   obtain ⟨hcz9_0, hcz9_1, hcz9_2, hfz9_0, hfz9_1, hfz9_2⟩ := blk3 BK325.out
   go_wp2
   go_meet
   case rel => exact ⟨_, (true), (by first | rfl | (simp; done) | (simp [*]; done)), H', ⟨by first | omega | exact Nat.le_refl _⟩, ⟨by (with_reducible repeat (first | apply Kd.V_alloc | apply Kd.V_drewN | apply Kd.V_drew)); exact HO1_0.out⟩, ⟨by (with_reducible repeat (first | apply Kd.V_alloc | apply Kd.V_drewN | apply Kd.V_drew)); exact HO1_1.out⟩, ⟨blk_mv BK325.out⟩, ⟨by repeat (first | (with_reducible first | exact HB.out | apply bA | apply bN | apply bD | refine below_set ?_ GE325.out) | exact HB.out)⟩⟩
  rw [if_neg c8] at H
  have c8b0 : decide (40 < (l1_0.length : Int)) = false := decide_eq_false c8
  have c8b1 : decide (40 < l1_0.length) = false := decide_eq_false (by omega)
  clear c8
  (first | rw [c8b0] | (simp only [i64_w, i32_w]; rw [c8b0]) | skip)
  have H' := aM H
  clear H
  obtain ⟨hcz10_0, hcz10_1, hcz10_2, hfz10_0, hfz10_1, hfz10_2⟩ := blk3 BK325.out
  go_wp2
  go_meet
  case rel => exact ⟨_, (decide ((l1_1.length : Int) > 40)), (by first | rfl | (simp; done) | (simp [*]; done)), H', ⟨by first | omega | exact Nat.le_refl _⟩, ⟨by (with_reducible repeat (first | apply Kd.V_alloc | apply Kd.V_drewN | apply Kd.V_drew)); exact HO1_0.out⟩, ⟨by (with_reducible repeat (first | apply Kd.V_alloc | apply Kd.V_drewN | apply Kd.V_drew)); exact HO1_1.out⟩, ⟨blk_mv BK325.out⟩, ⟨by repeat (first | (with_reducible first | exact HB.out | apply bA | apply bN | apply bD | refine below_set ?_ GE325.out) | exact HB.out)⟩⟩
 case rest =>
  clear HC6
  obtain ⟨kq, x23_5, rfl, HA, HJ5, HO_326000, HO_326001, BK325, HB⟩ := hcut
  cases kq with
  | zero => exact absurd HA.out (by simp [minecontrollaw18_FeederChecks.j0])
  | succ kj5 =>
   have H := HA.out
   clear HA
   simp only [minecontrollaw18_FeederChecks.j0] at H
   by_cases c11 : x23_5 = true
   ·
    subst c11
    have H1 : ((minecontrollaw18_awake.f kj5).bind fun t326 => (some t326)) = some r := by rw [if_pos rfl] at H; exact H
    clear H
    have H := H1
    clear H1
    replace H := Option.bind_eq_some_iff.mp H
    obtain ⟨t326, A120, H⟩ := H
    replace H : (some t326) = some r := H
    have A12 := aM A120
    clear A120
    obtain rfl := Option.some.inj H
    go_wp2_with (first | ((with_reducible refine gate_callee (f := 20) rfl ?_); refine goesL_ (some 24) rfl rfl Try.func20 (by kernel_rfl) rfl #[] rfl (by first | rfl | (simp only [List.map_toArray, List.map_cons, List.map_nil, List.length_drop, List.length_take]; try rfl)) ?_; (with_reducible refine (minecontrollaw18_awake.calls kj5  t326 _ A12.out).mono ?_); rintro e w13 ⟨rfl, hb⟩; refine ⟨_, rfl, ?_⟩; replace HO_326000 := aM (Kd.V_below (V_mv HO_326000.out) hb); replace HO_326001 := aM (Kd.V_below (V_mv HO_326001.out) hb); replace BK325 := aM (blk_below (blk_mv BK325.out) hb); replace HB := aM (below_step (by repeat (first | (with_reducible first | exact HB.out | apply bA | apply bN | apply bD | refine below_set ?_ GE325.out) | exact HB.out)) hb); (try clear hb); (try clear hb2); (try clear hge); (try clear hk); (try clear hi)))
    go_ret
    exact ⟨by first | rfl | (simp [errW_none, errW_some] <;> rfl) | (simp [*, errW_none, errW_some] <;> rfl), by repeat (first | (with_reducible first | exact HB.out | apply bA | apply bN | apply bD | refine below_set ?_ GE325.out) | exact HB.out)⟩
   replace c11 := Bool.eq_false_iff.mpr c11
   subst c11
   have H1 : ((minecontroldraw_Mod.f a4 6).bind fun t327 => ((minecontrollaw18_made.f kj5 l0 a2 a3).bind fun bt328 => ((some (([(⟨bt328.1, bt328.2.1, bt328.2.2⟩ : S28), (⟨l1_0, l1_1, a1_2⟩ : S28)] : List (S28)) : List (S28))).bind fun y335 => (minecontrollaw18_FeederChecks.l0 kj5 a4 t327 y335 (y335.length : Int) 0)))) = some r := by rw [if_neg (show ¬ (false = true) by decide)] at H; exact H
   clear H
   have H := H1
   clear H1
   replace H := Option.bind_eq_some_iff.mp H
   obtain ⟨t327, A140, H⟩ := H
   replace H : ((minecontrollaw18_made.f kj5 l0 a2 a3).bind fun bt328 => ((some (([(⟨bt328.1, bt328.2.1, bt328.2.2⟩ : S28), (⟨l1_0, l1_1, a1_2⟩ : S28)] : List (S28)) : List (S28))).bind fun y335 => (minecontrollaw18_FeederChecks.l0 kj5 a4 t327 y335 (y335.length : Int) 0))) = some r := H
   have A14 := aM A140
   clear A140
   replace H := Option.bind_eq_some_iff.mp H
   obtain ⟨⟨t328, t331, t334⟩, A150, H⟩ := H
   replace H : ((some (([(⟨t328, t331, t334⟩ : S28), (⟨l1_0, l1_1, a1_2⟩ : S28)] : List (S28)) : List (S28))).bind fun y335 => (minecontrollaw18_FeederChecks.l0 kj5 a4 t327 y335 (y335.length : Int) 0)) = some r := H
   have A15 := aM A150
   clear A150
   obtain ⟨y335, hy335⟩ : ∃ y_ : List (S28), y_ = (([(⟨t328, t331, t334⟩ : S28), (⟨l1_0, l1_1, a1_2⟩ : S28)] : List (S28))) := ⟨_, rfl⟩
   replace H : (minecontrollaw18_FeederChecks.l0 kj5 a4 t327 y335 (y335.length : Int) 0) = some r := by first | (rw [hy335]; with_reducible exact H) | (have H2_ := (Option.bind_some _ _).symm.trans H; rw [hy335]; with_reducible exact H2_) | (have H2_ := (Option.bind_some _ _).symm.trans H; with_reducible exact H2_) | with_reducible exact H | (rw [hy335]; exact H) | exact H
   have Ny335 := aM hy335
   clear hy335
   have H' := aM H
   clear H
   try go_wp2_with (first | ((with_reducible refine gate_callee (f := 12) rfl ?_); refine goesL_ (some 26) rfl rfl Try.func12 (by kernel_rfl) rfl #[.int .i64 a4, .int .i64 6] rfl (by first | rfl | (simp only [List.map_toArray, List.map_cons, List.map_nil, List.length_drop, List.length_take]; try rfl)) ?_; (with_reducible refine (minecontroldraw_Mod.calls a4 6 t327 _ A14.out).mono ?_); rintro e w' ⟨rfl, ⟨nd, rfl⟩⟩; refine ⟨_, rfl, ?_⟩))
   (try (rw [drewN_self wc]; generalize hq_ : World.drewN wc _ = wc; have n0_ : Aside0 (Kd.V k32 32 wc w.heap.size (fun k_ => ((P1_0_ k_ ∨ P1_1_ k_) ∨ w.heap.size ≤ k_) ∧ k_ ≠ gb325) (.slice A1_0 l1_0.length c1_0) l1_0) := ⟨by rw [← hq_]; exact (V_mv HO_326000.out)⟩; have n1_ : Aside0 (Kd.V (Kd.int .i64) 3 wc w.heap.size (fun k_ => ((P1_0_ k_ ∨ P1_1_ k_) ∨ w.heap.size ≤ k_) ∧ k_ ≠ gb325) (.slice A1_1 l1_1.length c1_1) l1_1) := ⟨by rw [← hq_]; exact (V_mv HO_326001.out)⟩; have n2_ : Aside0 (wc.heap[gb325]? = some (.cells #[.slice A1_0 l1_0.length c1_0, .slice A1_1 l1_1.length c1_1, .int .i64 a1_2] 28 (0, 0))) := ⟨by rw [← hq_]; exact (by (with_reducible repeat (first | refine kN ?_ _ | refine kD ?_ | refine kA ?_ _)); exact BK325.out)⟩; have n3_ : Aside0 (Below w.heap.size w wc) := ⟨by rw [← hq_]; exact (by repeat (first | (with_reducible first | exact HB.out | apply bA | apply bN | apply bD | refine below_set ?_ GE325.out) | exact HB.out))⟩; clear HO_326000 HO_326001 BK325 HB hq_; have HO_326000 := n0_; have HO_326001 := n1_; have BK325 := n2_; have HB := n3_; clear n0_ n1_ n2_ n3_))
   replace HO_326000 := aM (Kd.V_drew HO_326000.out)
   replace HO_326001 := aM (Kd.V_drew HO_326001.out)
   replace BK325 := aM (blk_drew BK325.out)
   replace HB := aM (below_drew1 HB.out)
   refine start_ (n := 8) (S := fun w' => w'.cell? ⟨gb325, 0, none⟩ = some (.slice A1_0 l1_0.length c1_0) ∧ w'.cell? ⟨gb325, 1, none⟩ = some (.slice A1_1 l1_1.length c1_1) ∧ w'.cell? ⟨gb325, 2, none⟩ = some (.int .i64 a1_2)) (ds := []) #[false, false, false, false, false, false, false, false] (by kernel_rfl) rfl rfl ⟨(blk_cell BK325.out 0).trans rfl, (blk_cell BK325.out 1).trans rfl, (blk_cell BK325.out 2).trans rfl⟩ (fun hHeld => ?_); refine with_tabW minecontrollaw18_FeederChecks.tab4 minecontrollaw18_FeederChecks.bits4 (fun HT_ HW_ => ?_)
   generalize wc.drew = w16 at HO_326000 HO_326001 BK325 HB hHeld ⊢
   refine pure_ (i := 0) (N := some 27) (v := ?_) (a' := ?_) #[true, false, false, false, false, false, false, false] rfl rfl (any_of HT_.out (by kernel_rfl)) (fun _ _ _ h => h) (Or.inl ⟨by rfl, ?_⟩) ?_ ?_
   rotate_left
   ·
    intro w'
    go_simp
    with_reducible rfl
   rotate_left
   ·
    simp only [Act.put, sT, sZ, sS, i64_w, i32_w]
    rfl
   refine pure_ (i := 1) (N := some 28) (v := ?_) (a' := ?_) #[true, true, false, false, false, false, false, false] rfl rfl (any_of HT_.out (by kernel_rfl)) (fun _ _ _ h => h) (Or.inl ⟨by rfl, ?_⟩) ?_ ?_
   rotate_left
   ·
    intro w'
    go_simp
    with_reducible rfl
   rotate_left
   ·
    simp only [Act.put, sT, sZ, sS, i64_w, i32_w]
    rfl
   refine pure_ (i := 2) (N := some 29) (v := ?_) (a' := ?_) #[true, true, true, false, false, false, false, false] rfl rfl (any_of HT_.out (by kernel_rfl)) (fun _ _ _ h => h) (Or.inl ⟨by rfl, ?_⟩) ?_ ?_
   rotate_left
   ·
    intro w'
    go_simp
    with_reducible rfl
   rotate_left
   ·
    simp only [Act.put, sT, sZ, sS, i64_w, i32_w]
    rfl
   refine pure_ (i := 7) (N := some 34) (v := ?_) (a' := ?_) #[true, true, true, false, false, false, false, true] rfl rfl (any_of HT_.out (by kernel_rfl)) (fun _ _ _ h => h) (Or.inl ⟨by rfl, ?_⟩) ?_ ?_
   rotate_left
   ·
    intro w'
    go_simp
    with_reducible rfl
   rotate_left
   ·
    simp only [Act.put, sT, sZ, sS, i64_w, i32_w]
    rfl
   refine take_ (i := 4) (N := some 31) (v := ?_) (a' := ?_) #[true, true, true, false, true, false, false, true] rfl rfl (take_ofW HT_.out HW_.out (by kernel_rfl)) (fun _ _ _ h => h) (Or.inl ⟨by rfl, ?_⟩) hHeld ?_ ?_
   rotate_left
   ·
    rintro w' ⟨s0, s1, s2⟩
    go_simp
    with_reducible rfl
   rotate_left
   ·
    simp only [Act.put, sT, sZ, sS, i64_w, i32_w]
    rfl
   refine one_ (i := 3) (N := some 30) #[true, true, true, true, true, false, false, true] rfl rfl (one_of HT_.out (by kernel_rfl)) (by decide) (fun K hK => ?_)
   refine goes_ Try.func28 (by kernel_rfl) rfl #[.slice A0 l0.length c0, .int .i64 a2, .int .i64 a3] (by rfl) rfl rfl (by first | rfl | (simp only [List.map_toArray, List.map_cons, List.map_nil, List.length_drop, List.length_take]; try rfl)) ?_
   with_reducible refine (minecontrollaw18_made.calls kj5 _ _ l0 a2 a3 t328 t331 t334 _ ?side1 ?side2 A15.out).mono ?_
   (case side1 => first | exact C_mv (Kd.C_below HR0.out HB.out) | exact C_mv HR0.out)
   (case side2 => exact HC0.out)
   rintro e w17 ⟨v329, v332, rfl, ho0, ho1, hb⟩
   refine ⟨_, rfl, ?_⟩
   replace HO_326000 := aM (Kd.V_mono (Kd.V_told (Kd.V_told (Kd.V_old (V_mv HO_326000.out) hb) (Kd.R_base ho0)) (Kd.R_base ho1)) (fun _ h_ => h_.1))
   replace HO_326001 := aM (Kd.V_mono (Kd.V_told (Kd.V_told (Kd.V_old (V_mv HO_326001.out) hb) (Kd.R_base ho0)) (Kd.R_base ho1)) (fun _ h_ => h_.1))
   have HO330 := aM (Kd.R_lower (Kd.R_newM (M := fun k_ => (w.heap.size ≤ k_)) ho0 (below_size (by repeat (first | (with_reducible first | exact HB.out | apply bA | apply bN | apply bD | refine below_set ?_ GE325.out) | exact HB.out))) (fun k_ h_ => h_)) (below_size (by repeat (first | (with_reducible first | exact HB.out | apply bA | apply bN | apply bD | refine below_set ?_ GE325.out) | exact HB.out))))
   have HO333 := aM (Kd.R_lower (Kd.R_newM (M := fun k_ => (w.heap.size ≤ k_)) ho1 (below_size (by repeat (first | (with_reducible first | exact HB.out | apply bA | apply bN | apply bD | refine below_set ?_ GE325.out) | exact HB.out))) (fun k_ h_ => h_)) (below_size (by repeat (first | (with_reducible first | exact HB.out | apply bA | apply bN | apply bD | refine below_set ?_ GE325.out) | exact HB.out))))
   replace BK325 := aM (blk_below (blk_mv BK325.out) hb)
   replace HB := aM (below_step (by repeat (first | (with_reducible first | exact HB.out | apply bA | apply bN | apply bD | refine below_set ?_ GE325.out) | exact HB.out)) hb)
   (try clear hb)
   (try clear hb2)
   (try clear hge)
   (try clear hk)
   (try clear hi)
   (try clear ho0)
   (try clear ho1)
   obtain ⟨Ao18, co18, eo18⟩ := Kd.R_slice HO330.out
   (first | subst eo18 | (injection eo18 with f1_ f2_ f3_; have f4_ := f1_.symm; have f5_ := f3_.symm; clear f1_ f2_ f3_; subst f4_; subst f5_))
   obtain ⟨Ao19, co19, eo19⟩ := Kd.R_slice HO333.out
   (first | subst eo19 | (injection eo19 with f1_ f2_ f3_; have f4_ := f1_.symm; have f5_ := f3_.symm; clear f1_ f2_ f3_; subst f4_; subst f5_))
   refine hK.out _ _ ⟨(blk_cell BK325.out 0).trans rfl, (blk_cell BK325.out 1).trans rfl, (blk_cell BK325.out 2).trans rfl⟩ (fun hHeld => ?_)
   clear hK K
   refine norm_ (a' := ?_) ?_ ?_
   rotate_left
   ·
    show Act.put _ (some 30) _ = _
    simp only [Act.put, sT, sZ, sS, i64_w, i32_w]
    rfl
   refine one_ (i := 5) (N := some 32) #[true, true, true, true, true, true, false, true] rfl rfl (one_of HT_.out (by kernel_rfl)) (by decide) (fun K hK => ?_)
   refine Kd.N_lit_step k28 _ 28 ?hg (N' := 32) ?hd (xs := ([(⟨t328, t331, t334⟩ : S28), (⟨l1_0, l1_1, a1_2⟩ : S28)] : List (S28))) (inner := [.slice Ao18 t328.length co18, .slice Ao19 t331.length co19, .int .i64 t334, .slice A1_0 l1_0.length c1_0, .slice A1_1 l1_1.length c1_1, .int .i64 a1_2]) (ok := (fun k_ => ((P1_0_ k_ ∨ P1_1_ k_) ∨ w.heap.size ≤ k_) ∧ k_ ≠ gb325)) (okp := (fun k_ => ((P1_0_ k_ ∨ P1_1_ k_) ∨ w.heap.size ≤ k_) ∧ k_ ≠ gb325)) ?hr ?hp (fun _ hk => hk) ((show ∀ k_, w17.heap.size ≤ k_ → (fun k_ => ((P1_0_ k_ ∨ P1_1_ k_) ∨ w.heap.size ≤ k_) ∧ k_ ≠ gb325) k_ from fun k_ hk => ⟨(.inr (Nat.le_trans (below_size (by repeat (first | (with_reducible first | exact HB.out | apply bA | apply bN | apply bD | refine below_set ?_ GE325.out) | exact HB.out))) hk)), Kd.freshB (blk_mv BK325.out) k_ hk⟩) _ (Nat.le_refl _)) (Below.refl _ _) (Nat.le_refl _) (by simp) ?_; (case hd => rfl); (case hg => rfl); (case hr => first | (go_simp; done) | (go_simp; rfl)); (case hp => exact (Reps.c3 (show Kd.FK k28 _ _ (⟨t328, t331, t334⟩ : S28) [.slice Ao18 t328.length co18, .slice Ao19 t331.length co19, .int .i64 t334] from (k28_mkF _ _ (⟨t328, t331, t334⟩ : S28) (Kd.R_reads' (Kd.R_mono (ok' := (fun k_ => ((P1_0_ k_ ∨ P1_1_ k_) ∨ w.heap.size ≤ k_) ∧ k_ ≠ gb325)) (Kd.R_types (HO330.out) BK325.out (by decide)) (fun k_ hk => ⟨(.inr (hk.1.1)), hk.2⟩))).2.1 (Kd.R_F (Kd.R_mono (ok' := (fun k_ => ((P1_0_ k_ ∨ P1_1_ k_) ∨ w.heap.size ≤ k_) ∧ k_ ≠ gb325)) (Kd.R_types (HO330.out) BK325.out (by decide)) (fun k_ hk => ⟨(.inr (hk.1.1)), hk.2⟩))) (Kd.R_reads' (Kd.R_mono (ok' := (fun k_ => ((P1_0_ k_ ∨ P1_1_ k_) ∨ w.heap.size ≤ k_) ∧ k_ ≠ gb325)) (Kd.R_types (HO333.out) BK325.out (by decide)) (fun k_ hk => ⟨(.inr (hk.1.1)), hk.2⟩))).2.1 (Kd.R_F (Kd.R_mono (ok' := (fun k_ => ((P1_0_ k_ ∨ P1_1_ k_) ∨ w.heap.size ≤ k_) ∧ k_ ≠ gb325)) (Kd.R_types (HO333.out) BK325.out (by decide)) (fun k_ hk => ⟨(.inr (hk.1.1)), hk.2⟩))))) (Reps.c3 (show Kd.FK k28 _ _ (⟨l1_0, l1_1, a1_2⟩ : S28) [.slice A1_0 l1_0.length c1_0, .slice A1_1 l1_1.length c1_1, .int .i64 a1_2] from (k28_mkF _ _ (⟨l1_0, l1_1, a1_2⟩ : S28) (have h_ := Kd.V_reads' (Kd.V_mono (ok' := (fun k_ => ((P1_0_ k_ ∨ P1_1_ k_) ∨ w.heap.size ≤ k_) ∧ k_ ≠ gb325)) (HO_326000.out) (fun k_ hk => ⟨hk.1.1.1, hk.1.1.2⟩)); h_.2.1) (have h_ := Kd.V_F (Kd.V_mono (ok' := (fun k_ => ((P1_0_ k_ ∨ P1_1_ k_) ∨ w.heap.size ≤ k_) ∧ k_ ≠ gb325)) (HO_326000.out) (fun k_ hk => ⟨hk.1.1.1, hk.1.1.2⟩)); h_) (have h_ := Kd.V_reads' (Kd.V_mono (ok' := (fun k_ => ((P1_0_ k_ ∨ P1_1_ k_) ∨ w.heap.size ≤ k_) ∧ k_ ≠ gb325)) (HO_326001.out) (fun k_ hk => ⟨hk.1.1.1, hk.1.1.2⟩)); h_.2.1) (have h_ := Kd.V_F (Kd.V_mono (ok' := (fun k_ => ((P1_0_ k_ ∨ P1_1_ k_) ∨ w.heap.size ≤ k_) ∧ k_ ≠ gb325)) (HO_326001.out) (fun k_ hk => ⟨hk.1.1.1, hk.1.1.2⟩)); h_))) (Reps.none _ _))))
   intro v336 w20 ho21 hb hg_ hnew_
   clear hg_ hnew_
   (first | rw [← Ny335.out] at ho21 | (simp only [Int.reduceToNat] at ho21; rw [← Ny335.out] at ho21))
   have n0_ := aM (Kd.V_elder' (V_mv HO_326000.out) (Kd.N_base ho21) hb)
   have n1_ := aM (Kd.V_elder' (V_mv HO_326001.out) (Kd.N_base ho21) hb)
   have n2_ := aM (Kd.N_lower ho21 (below_size (by repeat (first | (with_reducible first | exact HB.out | apply bA | apply bN | apply bD | refine below_set ?_ GE325.out) | exact HB.out))))
   have n3_ := aM (blk_below (blk_mv BK325.out) hb)
   have n4_ := aM (below_step (by repeat (first | (with_reducible first | exact HB.out | apply bA | apply bN | apply bD | refine below_set ?_ GE325.out) | exact HB.out)) hb)
   clear HO_326000
   clear HO_326001
   clear BK325
   clear HB
   clear HO330
   clear HO333
   have HO_326000 := n0_
   have HO_326001 := n1_
   have HO337 := n2_
   have BK325 := n3_
   have HB := n4_
   clear n0_ n1_ n2_ n3_ n4_
   clear hb ho21
   obtain ⟨Ao22, co22, eo22⟩ := Kd.N_slice HO337.out
   (first | subst eo22 | (injection eo22 with f1_ f2_ f3_; have f4_ := f1_.symm; have f5_ := f3_.symm; clear f1_ f2_ f3_; subst f4_; subst f5_))
   refine hK.out _ _ ⟨(blk_cell BK325.out 0).trans rfl, (blk_cell BK325.out 1).trans rfl, (blk_cell BK325.out 2).trans rfl⟩ (fun hHeld => ?_)
   clear hK K
   refine norm_ (a' := ?_) ?_ ?_
   rotate_left
   ·
    show Act.put _ (some 32) _ = _
    simp only [Act.put, sT, sZ, sS, i64_w, i32_w]
    rfl
   refine pure_ (i := 6) (N := some 33) (v := ?_) (a' := ?_) #[true, true, true, true, true, true, true, true] rfl rfl (any_of HT_.out (by kernel_rfl)) (fun _ _ _ h => h) (Or.inl ⟨by rfl, ?_⟩) ?_ ?_
   rotate_left
   ·
    intro w'
    go_simp
    with_reducible rfl
   rotate_left
   ·
    simp only [Act.put, sT, sZ, sS, i64_w, i32_w]
    rfl
   refine done_ (done_of HT_.out (by kernel_rfl)) ?_
   try go_wp2
   go_loopg [34] kj5 (fun kq v34 w' => ∃ (x34_2 : Int), v34 = .int .i64 x34_2 ∧ Aside0 (minecontrollaw18_FeederChecks.l0 kq a4 t327 y335 (y335.length : Int) x34_2 = some r) ∧ Aside0 (kq ≤ kj5) ∧ Aside0 (Kd.N k28 28 w' w.heap.size (fun k_ => ((P1_0_ k_ ∨ P1_1_ k_) ∨ w.heap.size ≤ k_) ∧ k_ ≠ gb325) (.slice Ao22 y335.length co22) y335) ∧ Aside0 (Kd.V k32 32 w' w.heap.size (fun k_ => ((P1_0_ k_ ∨ P1_1_ k_) ∨ w.heap.size ≤ k_) ∧ some k_ ≠ ((.slice Ao22 y335.length co22) : Value).ownBlock ∧ k_ ≠ gb325) (.slice A1_0 l1_0.length c1_0) l1_0) ∧ Aside0 (Kd.V (Kd.int .i64) 3 w' w.heap.size (fun k_ => ((P1_0_ k_ ∨ P1_1_ k_) ∨ w.heap.size ≤ k_) ∧ some k_ ≠ ((.slice Ao22 y335.length co22) : Value).ownBlock ∧ k_ ≠ gb325) (.slice A1_1 l1_1.length c1_1) l1_1) ∧ Aside0 (w'.heap[gb325]? = some (.cells #[(.slice A1_0 l1_0.length c1_0), (.slice A1_1 l1_1.length c1_1), .int .i64 a1_2] 28 (0, 0))) ∧ Aside0 (Below w.heap.size w w'))
   case atStart => exact ⟨(0), (by first | rfl | (simp; done) | (simp [*]; done)), H', ⟨Nat.le_refl _⟩, ⟨by (with_reducible repeat (first | apply Kd.N_alloc | apply Kd.N_drewN | apply Kd.N_drew)); exact HO337.out⟩, ⟨by (with_reducible repeat (first | apply Kd.V_alloc | apply Kd.V_drewN | apply Kd.V_drew)); exact Kd.V_mono HO_326000.out (fun _ hk => ⟨hk.1.1.1.1, ⟨hk.2, hk.1.1.1.2⟩⟩)⟩, ⟨by (with_reducible repeat (first | apply Kd.V_alloc | apply Kd.V_drewN | apply Kd.V_drew)); exact Kd.V_mono HO_326001.out (fun _ hk => ⟨hk.1.1.1.1, ⟨hk.2, hk.1.1.1.2⟩⟩)⟩, ⟨blk_mv BK325.out⟩, ⟨by repeat (first | (with_reducible first | exact HB.out | apply bA | apply bN | apply bD | refine below_set ?_ GE325.out) | exact HB.out)⟩⟩
   case round =>
    clear H'
    obtain ⟨x34_2, rfl, HA, HK2, HO_32, HO_326000, HO_326001, BK325, HB⟩ := hrel
    cases gk with
    | zero => exact absurd HA.out (by simp [minecontrollaw18_FeederChecks.l0])
    | succ k2 =>
     have H := HA.out
     clear HA
     simp only [minecontrollaw18_FeederChecks.l0] at H
     by_cases c23 : x34_2 < (y335.length : Int)
     ·
      rw [if_pos c23] at H
      have c23b0 : decide (x34_2 < (y335.length : Int)) = true := decide_eq_true c23
      clear c23
      by_cases c24 : 0 ≤ x34_2
      rotate_left
      ·
       rw [if_neg c24] at H
       exact absurd H (by simp)
      rw [if_pos c24] at H
      have c24b0 : decide (0 ≤ x34_2) = true := decide_eq_true c24
      clear c24
      by_cases c25 : x34_2 < (y335.length : Int)
      rotate_left
      ·
       rw [if_neg c25] at H
       exact absurd H (by simp)
      rw [if_pos c25] at H
      have c25b0 : decide (x34_2 < (y335.length : Int)) = true := decide_eq_true c25
      clear c25
      replace H := Option.bind_eq_some_iff.mp H
      obtain ⟨t341, A260, H⟩ := H
      replace H : ((minecontrolref18_Check.f k2 ((rd_T28 y335 x34_2).f0) ((rd_T28 y335 x34_2).f1) ((rd_T28 y335 x34_2).f2)).bind fun t342 => (if t341 = t342 then ((feeder_Path.f k2 ((rd_T28 y335 x34_2).f0) ((rd_T28 y335 x34_2).f1) ((rd_T28 y335 x34_2).f2) t327).bind fun t343 => ((minecontrolref18_Path.f k2 ((rd_T28 y335 x34_2).f0) ((rd_T28 y335 x34_2).f1) ((rd_T28 y335 x34_2).f2) t327).bind fun t346 => ((minecontrolref01_Ints.f k2 t343 t346).bind fun t349 => (if t349 = true then ((feeder_Path.f k2 ((rd_T28 y335 x34_2).f0) ((rd_T28 y335 x34_2).f1) ((rd_T28 y335 x34_2).f2) a4).bind fun t350 => ((minecontrolref18_Path.f k2 ((rd_T28 y335 x34_2).f0) ((rd_T28 y335 x34_2).f1) ((rd_T28 y335 x34_2).f2) a4).bind fun t353 => ((minecontrolref01_Ints.f k2 t350 t353).bind fun t356 => (if t356 = true then ((feeder_Live.f k2 ((rd_T28 y335 x34_2).f0) ((rd_T28 y335 x34_2).f1) ((rd_T28 y335 x34_2).f2) t327).bind fun t357 => ((minecontrolref18_Live.f k2 ((rd_T28 y335 x34_2).f0) ((rd_T28 y335 x34_2).f1) ((rd_T28 y335 x34_2).f2) t327).bind fun t358 => (if t357 = t358 then ((feeder_Live.f k2 ((rd_T28 y335 x34_2).f0) ((rd_T28 y335 x34_2).f1) ((rd_T28 y335 x34_2).f2) a4).bind fun t359 => ((minecontrolref18_Live.f k2 ((rd_T28 y335 x34_2).f0) ((rd_T28 y335 x34_2).f1) ((rd_T28 y335 x34_2).f2) a4).bind fun t360 => (if t359 = t360 then ((feeder_Due.f k2 ((rd_T28 y335 x34_2).f0) ((rd_T28 y335 x34_2).f1) ((rd_T28 y335 x34_2).f2)).bind fun t361 => ((minecontrolref18_Due.f k2 ((rd_T28 y335 x34_2).f0) ((rd_T28 y335 x34_2).f1) ((rd_T28 y335 x34_2).f2)).bind fun t362 => (if t361 = t362 then ((feeder_Failed.f k2 ((rd_T28 y335 x34_2).f0) ((rd_T28 y335 x34_2).f1) ((rd_T28 y335 x34_2).f2)).bind fun t363 => ((minecontrolref18_Failed.f k2 ((rd_T28 y335 x34_2).f0) ((rd_T28 y335 x34_2).f1) ((rd_T28 y335 x34_2).f2)).bind fun t366 => ((minecontrolref01_Ints.f k2 t363 t366).bind fun t369 => (if t369 = true then (minecontrollaw18_FeederChecks.l0 k2 a4 t327 y335 (y335.length : Int) (wrap64 (x34_2 + 1))) else (some false))))) else (some false)))) else (some false)))) else (some false)))) else (some false))))) else (some false))))) else (some false))) = some r := H
      have A26 := aM A260
      clear A260
      replace H := Option.bind_eq_some_iff.mp H
      obtain ⟨t342, A270, H⟩ := H
      replace H : (if t341 = t342 then ((feeder_Path.f k2 ((rd_T28 y335 x34_2).f0) ((rd_T28 y335 x34_2).f1) ((rd_T28 y335 x34_2).f2) t327).bind fun t343 => ((minecontrolref18_Path.f k2 ((rd_T28 y335 x34_2).f0) ((rd_T28 y335 x34_2).f1) ((rd_T28 y335 x34_2).f2) t327).bind fun t346 => ((minecontrolref01_Ints.f k2 t343 t346).bind fun t349 => (if t349 = true then ((feeder_Path.f k2 ((rd_T28 y335 x34_2).f0) ((rd_T28 y335 x34_2).f1) ((rd_T28 y335 x34_2).f2) a4).bind fun t350 => ((minecontrolref18_Path.f k2 ((rd_T28 y335 x34_2).f0) ((rd_T28 y335 x34_2).f1) ((rd_T28 y335 x34_2).f2) a4).bind fun t353 => ((minecontrolref01_Ints.f k2 t350 t353).bind fun t356 => (if t356 = true then ((feeder_Live.f k2 ((rd_T28 y335 x34_2).f0) ((rd_T28 y335 x34_2).f1) ((rd_T28 y335 x34_2).f2) t327).bind fun t357 => ((minecontrolref18_Live.f k2 ((rd_T28 y335 x34_2).f0) ((rd_T28 y335 x34_2).f1) ((rd_T28 y335 x34_2).f2) t327).bind fun t358 => (if t357 = t358 then ((feeder_Live.f k2 ((rd_T28 y335 x34_2).f0) ((rd_T28 y335 x34_2).f1) ((rd_T28 y335 x34_2).f2) a4).bind fun t359 => ((minecontrolref18_Live.f k2 ((rd_T28 y335 x34_2).f0) ((rd_T28 y335 x34_2).f1) ((rd_T28 y335 x34_2).f2) a4).bind fun t360 => (if t359 = t360 then ((feeder_Due.f k2 ((rd_T28 y335 x34_2).f0) ((rd_T28 y335 x34_2).f1) ((rd_T28 y335 x34_2).f2)).bind fun t361 => ((minecontrolref18_Due.f k2 ((rd_T28 y335 x34_2).f0) ((rd_T28 y335 x34_2).f1) ((rd_T28 y335 x34_2).f2)).bind fun t362 => (if t361 = t362 then ((feeder_Failed.f k2 ((rd_T28 y335 x34_2).f0) ((rd_T28 y335 x34_2).f1) ((rd_T28 y335 x34_2).f2)).bind fun t363 => ((minecontrolref18_Failed.f k2 ((rd_T28 y335 x34_2).f0) ((rd_T28 y335 x34_2).f1) ((rd_T28 y335 x34_2).f2)).bind fun t366 => ((minecontrolref01_Ints.f k2 t363 t366).bind fun t369 => (if t369 = true then (minecontrollaw18_FeederChecks.l0 k2 a4 t327 y335 (y335.length : Int) (wrap64 (x34_2 + 1))) else (some false))))) else (some false)))) else (some false)))) else (some false)))) else (some false))))) else (some false))))) else (some false)) = some r := H
      have A27 := aM A270
      clear A270
      by_cases c28 : t341 = t342
      ·
       rw [if_pos c28] at H
       have c28b0 : (t341 == t342) = true := beq_iff_eq.mpr c28
       have c28b1 : (t341 != t342) = false := bne_eq_false_iff_eq.mpr c28
       clear c28
       replace H := Option.bind_eq_some_iff.mp H
       obtain ⟨t343, A290, H⟩ := H
       replace H : ((minecontrolref18_Path.f k2 ((rd_T28 y335 x34_2).f0) ((rd_T28 y335 x34_2).f1) ((rd_T28 y335 x34_2).f2) t327).bind fun t346 => ((minecontrolref01_Ints.f k2 t343 t346).bind fun t349 => (if t349 = true then ((feeder_Path.f k2 ((rd_T28 y335 x34_2).f0) ((rd_T28 y335 x34_2).f1) ((rd_T28 y335 x34_2).f2) a4).bind fun t350 => ((minecontrolref18_Path.f k2 ((rd_T28 y335 x34_2).f0) ((rd_T28 y335 x34_2).f1) ((rd_T28 y335 x34_2).f2) a4).bind fun t353 => ((minecontrolref01_Ints.f k2 t350 t353).bind fun t356 => (if t356 = true then ((feeder_Live.f k2 ((rd_T28 y335 x34_2).f0) ((rd_T28 y335 x34_2).f1) ((rd_T28 y335 x34_2).f2) t327).bind fun t357 => ((minecontrolref18_Live.f k2 ((rd_T28 y335 x34_2).f0) ((rd_T28 y335 x34_2).f1) ((rd_T28 y335 x34_2).f2) t327).bind fun t358 => (if t357 = t358 then ((feeder_Live.f k2 ((rd_T28 y335 x34_2).f0) ((rd_T28 y335 x34_2).f1) ((rd_T28 y335 x34_2).f2) a4).bind fun t359 => ((minecontrolref18_Live.f k2 ((rd_T28 y335 x34_2).f0) ((rd_T28 y335 x34_2).f1) ((rd_T28 y335 x34_2).f2) a4).bind fun t360 => (if t359 = t360 then ((feeder_Due.f k2 ((rd_T28 y335 x34_2).f0) ((rd_T28 y335 x34_2).f1) ((rd_T28 y335 x34_2).f2)).bind fun t361 => ((minecontrolref18_Due.f k2 ((rd_T28 y335 x34_2).f0) ((rd_T28 y335 x34_2).f1) ((rd_T28 y335 x34_2).f2)).bind fun t362 => (if t361 = t362 then ((feeder_Failed.f k2 ((rd_T28 y335 x34_2).f0) ((rd_T28 y335 x34_2).f1) ((rd_T28 y335 x34_2).f2)).bind fun t363 => ((minecontrolref18_Failed.f k2 ((rd_T28 y335 x34_2).f0) ((rd_T28 y335 x34_2).f1) ((rd_T28 y335 x34_2).f2)).bind fun t366 => ((minecontrolref01_Ints.f k2 t363 t366).bind fun t369 => (if t369 = true then (minecontrollaw18_FeederChecks.l0 k2 a4 t327 y335 (y335.length : Int) (wrap64 (x34_2 + 1))) else (some false))))) else (some false)))) else (some false)))) else (some false)))) else (some false))))) else (some false)))) = some r := H
       have A29 := aM A290
       clear A290
       replace H := Option.bind_eq_some_iff.mp H
       obtain ⟨t346, A300, H⟩ := H
       replace H : ((minecontrolref01_Ints.f k2 t343 t346).bind fun t349 => (if t349 = true then ((feeder_Path.f k2 ((rd_T28 y335 x34_2).f0) ((rd_T28 y335 x34_2).f1) ((rd_T28 y335 x34_2).f2) a4).bind fun t350 => ((minecontrolref18_Path.f k2 ((rd_T28 y335 x34_2).f0) ((rd_T28 y335 x34_2).f1) ((rd_T28 y335 x34_2).f2) a4).bind fun t353 => ((minecontrolref01_Ints.f k2 t350 t353).bind fun t356 => (if t356 = true then ((feeder_Live.f k2 ((rd_T28 y335 x34_2).f0) ((rd_T28 y335 x34_2).f1) ((rd_T28 y335 x34_2).f2) t327).bind fun t357 => ((minecontrolref18_Live.f k2 ((rd_T28 y335 x34_2).f0) ((rd_T28 y335 x34_2).f1) ((rd_T28 y335 x34_2).f2) t327).bind fun t358 => (if t357 = t358 then ((feeder_Live.f k2 ((rd_T28 y335 x34_2).f0) ((rd_T28 y335 x34_2).f1) ((rd_T28 y335 x34_2).f2) a4).bind fun t359 => ((minecontrolref18_Live.f k2 ((rd_T28 y335 x34_2).f0) ((rd_T28 y335 x34_2).f1) ((rd_T28 y335 x34_2).f2) a4).bind fun t360 => (if t359 = t360 then ((feeder_Due.f k2 ((rd_T28 y335 x34_2).f0) ((rd_T28 y335 x34_2).f1) ((rd_T28 y335 x34_2).f2)).bind fun t361 => ((minecontrolref18_Due.f k2 ((rd_T28 y335 x34_2).f0) ((rd_T28 y335 x34_2).f1) ((rd_T28 y335 x34_2).f2)).bind fun t362 => (if t361 = t362 then ((feeder_Failed.f k2 ((rd_T28 y335 x34_2).f0) ((rd_T28 y335 x34_2).f1) ((rd_T28 y335 x34_2).f2)).bind fun t363 => ((minecontrolref18_Failed.f k2 ((rd_T28 y335 x34_2).f0) ((rd_T28 y335 x34_2).f1) ((rd_T28 y335 x34_2).f2)).bind fun t366 => ((minecontrolref01_Ints.f k2 t363 t366).bind fun t369 => (if t369 = true then (minecontrollaw18_FeederChecks.l0 k2 a4 t327 y335 (y335.length : Int) (wrap64 (x34_2 + 1))) else (some false))))) else (some false)))) else (some false)))) else (some false)))) else (some false))))) else (some false))) = some r := H
       have A30 := aM A300
       clear A300
       replace H := Option.bind_eq_some_iff.mp H
       obtain ⟨t349, A310, H⟩ := H
       replace H : (if t349 = true then ((feeder_Path.f k2 ((rd_T28 y335 x34_2).f0) ((rd_T28 y335 x34_2).f1) ((rd_T28 y335 x34_2).f2) a4).bind fun t350 => ((minecontrolref18_Path.f k2 ((rd_T28 y335 x34_2).f0) ((rd_T28 y335 x34_2).f1) ((rd_T28 y335 x34_2).f2) a4).bind fun t353 => ((minecontrolref01_Ints.f k2 t350 t353).bind fun t356 => (if t356 = true then ((feeder_Live.f k2 ((rd_T28 y335 x34_2).f0) ((rd_T28 y335 x34_2).f1) ((rd_T28 y335 x34_2).f2) t327).bind fun t357 => ((minecontrolref18_Live.f k2 ((rd_T28 y335 x34_2).f0) ((rd_T28 y335 x34_2).f1) ((rd_T28 y335 x34_2).f2) t327).bind fun t358 => (if t357 = t358 then ((feeder_Live.f k2 ((rd_T28 y335 x34_2).f0) ((rd_T28 y335 x34_2).f1) ((rd_T28 y335 x34_2).f2) a4).bind fun t359 => ((minecontrolref18_Live.f k2 ((rd_T28 y335 x34_2).f0) ((rd_T28 y335 x34_2).f1) ((rd_T28 y335 x34_2).f2) a4).bind fun t360 => (if t359 = t360 then ((feeder_Due.f k2 ((rd_T28 y335 x34_2).f0) ((rd_T28 y335 x34_2).f1) ((rd_T28 y335 x34_2).f2)).bind fun t361 => ((minecontrolref18_Due.f k2 ((rd_T28 y335 x34_2).f0) ((rd_T28 y335 x34_2).f1) ((rd_T28 y335 x34_2).f2)).bind fun t362 => (if t361 = t362 then ((feeder_Failed.f k2 ((rd_T28 y335 x34_2).f0) ((rd_T28 y335 x34_2).f1) ((rd_T28 y335 x34_2).f2)).bind fun t363 => ((minecontrolref18_Failed.f k2 ((rd_T28 y335 x34_2).f0) ((rd_T28 y335 x34_2).f1) ((rd_T28 y335 x34_2).f2)).bind fun t366 => ((minecontrolref01_Ints.f k2 t363 t366).bind fun t369 => (if t369 = true then (minecontrollaw18_FeederChecks.l0 k2 a4 t327 y335 (y335.length : Int) (wrap64 (x34_2 + 1))) else (some false))))) else (some false)))) else (some false)))) else (some false)))) else (some false))))) else (some false)) = some r := H
       have A31 := aM A310
       clear A310
       by_cases c32 : t349 = true
       ·
        subst c32
        have H1 : ((feeder_Path.f k2 ((rd_T28 y335 x34_2).f0) ((rd_T28 y335 x34_2).f1) ((rd_T28 y335 x34_2).f2) a4).bind fun t350 => ((minecontrolref18_Path.f k2 ((rd_T28 y335 x34_2).f0) ((rd_T28 y335 x34_2).f1) ((rd_T28 y335 x34_2).f2) a4).bind fun t353 => ((minecontrolref01_Ints.f k2 t350 t353).bind fun t356 => (if t356 = true then ((feeder_Live.f k2 ((rd_T28 y335 x34_2).f0) ((rd_T28 y335 x34_2).f1) ((rd_T28 y335 x34_2).f2) t327).bind fun t357 => ((minecontrolref18_Live.f k2 ((rd_T28 y335 x34_2).f0) ((rd_T28 y335 x34_2).f1) ((rd_T28 y335 x34_2).f2) t327).bind fun t358 => (if t357 = t358 then ((feeder_Live.f k2 ((rd_T28 y335 x34_2).f0) ((rd_T28 y335 x34_2).f1) ((rd_T28 y335 x34_2).f2) a4).bind fun t359 => ((minecontrolref18_Live.f k2 ((rd_T28 y335 x34_2).f0) ((rd_T28 y335 x34_2).f1) ((rd_T28 y335 x34_2).f2) a4).bind fun t360 => (if t359 = t360 then ((feeder_Due.f k2 ((rd_T28 y335 x34_2).f0) ((rd_T28 y335 x34_2).f1) ((rd_T28 y335 x34_2).f2)).bind fun t361 => ((minecontrolref18_Due.f k2 ((rd_T28 y335 x34_2).f0) ((rd_T28 y335 x34_2).f1) ((rd_T28 y335 x34_2).f2)).bind fun t362 => (if t361 = t362 then ((feeder_Failed.f k2 ((rd_T28 y335 x34_2).f0) ((rd_T28 y335 x34_2).f1) ((rd_T28 y335 x34_2).f2)).bind fun t363 => ((minecontrolref18_Failed.f k2 ((rd_T28 y335 x34_2).f0) ((rd_T28 y335 x34_2).f1) ((rd_T28 y335 x34_2).f2)).bind fun t366 => ((minecontrolref01_Ints.f k2 t363 t366).bind fun t369 => (if t369 = true then (minecontrollaw18_FeederChecks.l0 k2 a4 t327 y335 (y335.length : Int) (wrap64 (x34_2 + 1))) else (some false))))) else (some false)))) else (some false)))) else (some false)))) else (some false))))) = some r := by rw [if_pos rfl] at H; exact H
        clear H
        have H := H1
        clear H1
        replace H := Option.bind_eq_some_iff.mp H
        obtain ⟨t350, A330, H⟩ := H
        replace H : ((minecontrolref18_Path.f k2 ((rd_T28 y335 x34_2).f0) ((rd_T28 y335 x34_2).f1) ((rd_T28 y335 x34_2).f2) a4).bind fun t353 => ((minecontrolref01_Ints.f k2 t350 t353).bind fun t356 => (if t356 = true then ((feeder_Live.f k2 ((rd_T28 y335 x34_2).f0) ((rd_T28 y335 x34_2).f1) ((rd_T28 y335 x34_2).f2) t327).bind fun t357 => ((minecontrolref18_Live.f k2 ((rd_T28 y335 x34_2).f0) ((rd_T28 y335 x34_2).f1) ((rd_T28 y335 x34_2).f2) t327).bind fun t358 => (if t357 = t358 then ((feeder_Live.f k2 ((rd_T28 y335 x34_2).f0) ((rd_T28 y335 x34_2).f1) ((rd_T28 y335 x34_2).f2) a4).bind fun t359 => ((minecontrolref18_Live.f k2 ((rd_T28 y335 x34_2).f0) ((rd_T28 y335 x34_2).f1) ((rd_T28 y335 x34_2).f2) a4).bind fun t360 => (if t359 = t360 then ((feeder_Due.f k2 ((rd_T28 y335 x34_2).f0) ((rd_T28 y335 x34_2).f1) ((rd_T28 y335 x34_2).f2)).bind fun t361 => ((minecontrolref18_Due.f k2 ((rd_T28 y335 x34_2).f0) ((rd_T28 y335 x34_2).f1) ((rd_T28 y335 x34_2).f2)).bind fun t362 => (if t361 = t362 then ((feeder_Failed.f k2 ((rd_T28 y335 x34_2).f0) ((rd_T28 y335 x34_2).f1) ((rd_T28 y335 x34_2).f2)).bind fun t363 => ((minecontrolref18_Failed.f k2 ((rd_T28 y335 x34_2).f0) ((rd_T28 y335 x34_2).f1) ((rd_T28 y335 x34_2).f2)).bind fun t366 => ((minecontrolref01_Ints.f k2 t363 t366).bind fun t369 => (if t369 = true then (minecontrollaw18_FeederChecks.l0 k2 a4 t327 y335 (y335.length : Int) (wrap64 (x34_2 + 1))) else (some false))))) else (some false)))) else (some false)))) else (some false)))) else (some false)))) = some r := H
        have A33 := aM A330
        clear A330
        replace H := Option.bind_eq_some_iff.mp H
        obtain ⟨t353, A340, H⟩ := H
        replace H : ((minecontrolref01_Ints.f k2 t350 t353).bind fun t356 => (if t356 = true then ((feeder_Live.f k2 ((rd_T28 y335 x34_2).f0) ((rd_T28 y335 x34_2).f1) ((rd_T28 y335 x34_2).f2) t327).bind fun t357 => ((minecontrolref18_Live.f k2 ((rd_T28 y335 x34_2).f0) ((rd_T28 y335 x34_2).f1) ((rd_T28 y335 x34_2).f2) t327).bind fun t358 => (if t357 = t358 then ((feeder_Live.f k2 ((rd_T28 y335 x34_2).f0) ((rd_T28 y335 x34_2).f1) ((rd_T28 y335 x34_2).f2) a4).bind fun t359 => ((minecontrolref18_Live.f k2 ((rd_T28 y335 x34_2).f0) ((rd_T28 y335 x34_2).f1) ((rd_T28 y335 x34_2).f2) a4).bind fun t360 => (if t359 = t360 then ((feeder_Due.f k2 ((rd_T28 y335 x34_2).f0) ((rd_T28 y335 x34_2).f1) ((rd_T28 y335 x34_2).f2)).bind fun t361 => ((minecontrolref18_Due.f k2 ((rd_T28 y335 x34_2).f0) ((rd_T28 y335 x34_2).f1) ((rd_T28 y335 x34_2).f2)).bind fun t362 => (if t361 = t362 then ((feeder_Failed.f k2 ((rd_T28 y335 x34_2).f0) ((rd_T28 y335 x34_2).f1) ((rd_T28 y335 x34_2).f2)).bind fun t363 => ((minecontrolref18_Failed.f k2 ((rd_T28 y335 x34_2).f0) ((rd_T28 y335 x34_2).f1) ((rd_T28 y335 x34_2).f2)).bind fun t366 => ((minecontrolref01_Ints.f k2 t363 t366).bind fun t369 => (if t369 = true then (minecontrollaw18_FeederChecks.l0 k2 a4 t327 y335 (y335.length : Int) (wrap64 (x34_2 + 1))) else (some false))))) else (some false)))) else (some false)))) else (some false)))) else (some false))) = some r := H
        have A34 := aM A340
        clear A340
        replace H := Option.bind_eq_some_iff.mp H
        obtain ⟨t356, A350, H⟩ := H
        replace H : (if t356 = true then ((feeder_Live.f k2 ((rd_T28 y335 x34_2).f0) ((rd_T28 y335 x34_2).f1) ((rd_T28 y335 x34_2).f2) t327).bind fun t357 => ((minecontrolref18_Live.f k2 ((rd_T28 y335 x34_2).f0) ((rd_T28 y335 x34_2).f1) ((rd_T28 y335 x34_2).f2) t327).bind fun t358 => (if t357 = t358 then ((feeder_Live.f k2 ((rd_T28 y335 x34_2).f0) ((rd_T28 y335 x34_2).f1) ((rd_T28 y335 x34_2).f2) a4).bind fun t359 => ((minecontrolref18_Live.f k2 ((rd_T28 y335 x34_2).f0) ((rd_T28 y335 x34_2).f1) ((rd_T28 y335 x34_2).f2) a4).bind fun t360 => (if t359 = t360 then ((feeder_Due.f k2 ((rd_T28 y335 x34_2).f0) ((rd_T28 y335 x34_2).f1) ((rd_T28 y335 x34_2).f2)).bind fun t361 => ((minecontrolref18_Due.f k2 ((rd_T28 y335 x34_2).f0) ((rd_T28 y335 x34_2).f1) ((rd_T28 y335 x34_2).f2)).bind fun t362 => (if t361 = t362 then ((feeder_Failed.f k2 ((rd_T28 y335 x34_2).f0) ((rd_T28 y335 x34_2).f1) ((rd_T28 y335 x34_2).f2)).bind fun t363 => ((minecontrolref18_Failed.f k2 ((rd_T28 y335 x34_2).f0) ((rd_T28 y335 x34_2).f1) ((rd_T28 y335 x34_2).f2)).bind fun t366 => ((minecontrolref01_Ints.f k2 t363 t366).bind fun t369 => (if t369 = true then (minecontrollaw18_FeederChecks.l0 k2 a4 t327 y335 (y335.length : Int) (wrap64 (x34_2 + 1))) else (some false))))) else (some false)))) else (some false)))) else (some false)))) else (some false)) = some r := H
        have A35 := aM A350
        clear A350
        by_cases c36 : t356 = true
        ·
         subst c36
         have H1 : ((feeder_Live.f k2 ((rd_T28 y335 x34_2).f0) ((rd_T28 y335 x34_2).f1) ((rd_T28 y335 x34_2).f2) t327).bind fun t357 => ((minecontrolref18_Live.f k2 ((rd_T28 y335 x34_2).f0) ((rd_T28 y335 x34_2).f1) ((rd_T28 y335 x34_2).f2) t327).bind fun t358 => (if t357 = t358 then ((feeder_Live.f k2 ((rd_T28 y335 x34_2).f0) ((rd_T28 y335 x34_2).f1) ((rd_T28 y335 x34_2).f2) a4).bind fun t359 => ((minecontrolref18_Live.f k2 ((rd_T28 y335 x34_2).f0) ((rd_T28 y335 x34_2).f1) ((rd_T28 y335 x34_2).f2) a4).bind fun t360 => (if t359 = t360 then ((feeder_Due.f k2 ((rd_T28 y335 x34_2).f0) ((rd_T28 y335 x34_2).f1) ((rd_T28 y335 x34_2).f2)).bind fun t361 => ((minecontrolref18_Due.f k2 ((rd_T28 y335 x34_2).f0) ((rd_T28 y335 x34_2).f1) ((rd_T28 y335 x34_2).f2)).bind fun t362 => (if t361 = t362 then ((feeder_Failed.f k2 ((rd_T28 y335 x34_2).f0) ((rd_T28 y335 x34_2).f1) ((rd_T28 y335 x34_2).f2)).bind fun t363 => ((minecontrolref18_Failed.f k2 ((rd_T28 y335 x34_2).f0) ((rd_T28 y335 x34_2).f1) ((rd_T28 y335 x34_2).f2)).bind fun t366 => ((minecontrolref01_Ints.f k2 t363 t366).bind fun t369 => (if t369 = true then (minecontrollaw18_FeederChecks.l0 k2 a4 t327 y335 (y335.length : Int) (wrap64 (x34_2 + 1))) else (some false))))) else (some false)))) else (some false)))) else (some false)))) = some r := by rw [if_pos rfl] at H; exact H
         clear H
         have H := H1
         clear H1
         replace H := Option.bind_eq_some_iff.mp H
         obtain ⟨t357, A370, H⟩ := H
         replace H : ((minecontrolref18_Live.f k2 ((rd_T28 y335 x34_2).f0) ((rd_T28 y335 x34_2).f1) ((rd_T28 y335 x34_2).f2) t327).bind fun t358 => (if t357 = t358 then ((feeder_Live.f k2 ((rd_T28 y335 x34_2).f0) ((rd_T28 y335 x34_2).f1) ((rd_T28 y335 x34_2).f2) a4).bind fun t359 => ((minecontrolref18_Live.f k2 ((rd_T28 y335 x34_2).f0) ((rd_T28 y335 x34_2).f1) ((rd_T28 y335 x34_2).f2) a4).bind fun t360 => (if t359 = t360 then ((feeder_Due.f k2 ((rd_T28 y335 x34_2).f0) ((rd_T28 y335 x34_2).f1) ((rd_T28 y335 x34_2).f2)).bind fun t361 => ((minecontrolref18_Due.f k2 ((rd_T28 y335 x34_2).f0) ((rd_T28 y335 x34_2).f1) ((rd_T28 y335 x34_2).f2)).bind fun t362 => (if t361 = t362 then ((feeder_Failed.f k2 ((rd_T28 y335 x34_2).f0) ((rd_T28 y335 x34_2).f1) ((rd_T28 y335 x34_2).f2)).bind fun t363 => ((minecontrolref18_Failed.f k2 ((rd_T28 y335 x34_2).f0) ((rd_T28 y335 x34_2).f1) ((rd_T28 y335 x34_2).f2)).bind fun t366 => ((minecontrolref01_Ints.f k2 t363 t366).bind fun t369 => (if t369 = true then (minecontrollaw18_FeederChecks.l0 k2 a4 t327 y335 (y335.length : Int) (wrap64 (x34_2 + 1))) else (some false))))) else (some false)))) else (some false)))) else (some false))) = some r := H
         have A37 := aM A370
         clear A370
         replace H := Option.bind_eq_some_iff.mp H
         obtain ⟨t358, A380, H⟩ := H
         replace H : (if t357 = t358 then ((feeder_Live.f k2 ((rd_T28 y335 x34_2).f0) ((rd_T28 y335 x34_2).f1) ((rd_T28 y335 x34_2).f2) a4).bind fun t359 => ((minecontrolref18_Live.f k2 ((rd_T28 y335 x34_2).f0) ((rd_T28 y335 x34_2).f1) ((rd_T28 y335 x34_2).f2) a4).bind fun t360 => (if t359 = t360 then ((feeder_Due.f k2 ((rd_T28 y335 x34_2).f0) ((rd_T28 y335 x34_2).f1) ((rd_T28 y335 x34_2).f2)).bind fun t361 => ((minecontrolref18_Due.f k2 ((rd_T28 y335 x34_2).f0) ((rd_T28 y335 x34_2).f1) ((rd_T28 y335 x34_2).f2)).bind fun t362 => (if t361 = t362 then ((feeder_Failed.f k2 ((rd_T28 y335 x34_2).f0) ((rd_T28 y335 x34_2).f1) ((rd_T28 y335 x34_2).f2)).bind fun t363 => ((minecontrolref18_Failed.f k2 ((rd_T28 y335 x34_2).f0) ((rd_T28 y335 x34_2).f1) ((rd_T28 y335 x34_2).f2)).bind fun t366 => ((minecontrolref01_Ints.f k2 t363 t366).bind fun t369 => (if t369 = true then (minecontrollaw18_FeederChecks.l0 k2 a4 t327 y335 (y335.length : Int) (wrap64 (x34_2 + 1))) else (some false))))) else (some false)))) else (some false)))) else (some false)) = some r := H
         have A38 := aM A380
         clear A380
         by_cases c39 : t357 = t358
         ·
          rw [if_pos c39] at H
          have c39b0 : (t357 == t358) = true := beq_iff_eq.mpr c39
          have c39b1 : (t357 != t358) = false := bne_eq_false_iff_eq.mpr c39
          clear c39
          replace H := Option.bind_eq_some_iff.mp H
          obtain ⟨t359, A400, H⟩ := H
          replace H : ((minecontrolref18_Live.f k2 ((rd_T28 y335 x34_2).f0) ((rd_T28 y335 x34_2).f1) ((rd_T28 y335 x34_2).f2) a4).bind fun t360 => (if t359 = t360 then ((feeder_Due.f k2 ((rd_T28 y335 x34_2).f0) ((rd_T28 y335 x34_2).f1) ((rd_T28 y335 x34_2).f2)).bind fun t361 => ((minecontrolref18_Due.f k2 ((rd_T28 y335 x34_2).f0) ((rd_T28 y335 x34_2).f1) ((rd_T28 y335 x34_2).f2)).bind fun t362 => (if t361 = t362 then ((feeder_Failed.f k2 ((rd_T28 y335 x34_2).f0) ((rd_T28 y335 x34_2).f1) ((rd_T28 y335 x34_2).f2)).bind fun t363 => ((minecontrolref18_Failed.f k2 ((rd_T28 y335 x34_2).f0) ((rd_T28 y335 x34_2).f1) ((rd_T28 y335 x34_2).f2)).bind fun t366 => ((minecontrolref01_Ints.f k2 t363 t366).bind fun t369 => (if t369 = true then (minecontrollaw18_FeederChecks.l0 k2 a4 t327 y335 (y335.length : Int) (wrap64 (x34_2 + 1))) else (some false))))) else (some false)))) else (some false))) = some r := H
          have A40 := aM A400
          clear A400
          replace H := Option.bind_eq_some_iff.mp H
          obtain ⟨t360, A410, H⟩ := H
          replace H : (if t359 = t360 then ((feeder_Due.f k2 ((rd_T28 y335 x34_2).f0) ((rd_T28 y335 x34_2).f1) ((rd_T28 y335 x34_2).f2)).bind fun t361 => ((minecontrolref18_Due.f k2 ((rd_T28 y335 x34_2).f0) ((rd_T28 y335 x34_2).f1) ((rd_T28 y335 x34_2).f2)).bind fun t362 => (if t361 = t362 then ((feeder_Failed.f k2 ((rd_T28 y335 x34_2).f0) ((rd_T28 y335 x34_2).f1) ((rd_T28 y335 x34_2).f2)).bind fun t363 => ((minecontrolref18_Failed.f k2 ((rd_T28 y335 x34_2).f0) ((rd_T28 y335 x34_2).f1) ((rd_T28 y335 x34_2).f2)).bind fun t366 => ((minecontrolref01_Ints.f k2 t363 t366).bind fun t369 => (if t369 = true then (minecontrollaw18_FeederChecks.l0 k2 a4 t327 y335 (y335.length : Int) (wrap64 (x34_2 + 1))) else (some false))))) else (some false)))) else (some false)) = some r := H
          have A41 := aM A410
          clear A410
          by_cases c42 : t359 = t360
          ·
           rw [if_pos c42] at H
           have c42b0 : (t359 == t360) = true := beq_iff_eq.mpr c42
           have c42b1 : (t359 != t360) = false := bne_eq_false_iff_eq.mpr c42
           clear c42
           replace H := Option.bind_eq_some_iff.mp H
           obtain ⟨t361, A430, H⟩ := H
           replace H : ((minecontrolref18_Due.f k2 ((rd_T28 y335 x34_2).f0) ((rd_T28 y335 x34_2).f1) ((rd_T28 y335 x34_2).f2)).bind fun t362 => (if t361 = t362 then ((feeder_Failed.f k2 ((rd_T28 y335 x34_2).f0) ((rd_T28 y335 x34_2).f1) ((rd_T28 y335 x34_2).f2)).bind fun t363 => ((minecontrolref18_Failed.f k2 ((rd_T28 y335 x34_2).f0) ((rd_T28 y335 x34_2).f1) ((rd_T28 y335 x34_2).f2)).bind fun t366 => ((minecontrolref01_Ints.f k2 t363 t366).bind fun t369 => (if t369 = true then (minecontrollaw18_FeederChecks.l0 k2 a4 t327 y335 (y335.length : Int) (wrap64 (x34_2 + 1))) else (some false))))) else (some false))) = some r := H
           have A43 := aM A430
           clear A430
           replace H := Option.bind_eq_some_iff.mp H
           obtain ⟨t362, A440, H⟩ := H
           replace H : (if t361 = t362 then ((feeder_Failed.f k2 ((rd_T28 y335 x34_2).f0) ((rd_T28 y335 x34_2).f1) ((rd_T28 y335 x34_2).f2)).bind fun t363 => ((minecontrolref18_Failed.f k2 ((rd_T28 y335 x34_2).f0) ((rd_T28 y335 x34_2).f1) ((rd_T28 y335 x34_2).f2)).bind fun t366 => ((minecontrolref01_Ints.f k2 t363 t366).bind fun t369 => (if t369 = true then (minecontrollaw18_FeederChecks.l0 k2 a4 t327 y335 (y335.length : Int) (wrap64 (x34_2 + 1))) else (some false))))) else (some false)) = some r := H
           have A44 := aM A440
           clear A440
           by_cases c45 : t361 = t362
           ·
            rw [if_pos c45] at H
            have c45b0 : (t361 == t362) = true := beq_iff_eq.mpr c45
            have c45b1 : (t361 != t362) = false := bne_eq_false_iff_eq.mpr c45
            clear c45
            replace H := Option.bind_eq_some_iff.mp H
            obtain ⟨t363, A460, H⟩ := H
            replace H : ((minecontrolref18_Failed.f k2 ((rd_T28 y335 x34_2).f0) ((rd_T28 y335 x34_2).f1) ((rd_T28 y335 x34_2).f2)).bind fun t366 => ((minecontrolref01_Ints.f k2 t363 t366).bind fun t369 => (if t369 = true then (minecontrollaw18_FeederChecks.l0 k2 a4 t327 y335 (y335.length : Int) (wrap64 (x34_2 + 1))) else (some false)))) = some r := H
            have A46 := aM A460
            clear A460
            replace H := Option.bind_eq_some_iff.mp H
            obtain ⟨t366, A470, H⟩ := H
            replace H : ((minecontrolref01_Ints.f k2 t363 t366).bind fun t369 => (if t369 = true then (minecontrollaw18_FeederChecks.l0 k2 a4 t327 y335 (y335.length : Int) (wrap64 (x34_2 + 1))) else (some false))) = some r := H
            have A47 := aM A470
            clear A470
            replace H := Option.bind_eq_some_iff.mp H
            obtain ⟨t369, A480, H⟩ := H
            replace H : (if t369 = true then (minecontrollaw18_FeederChecks.l0 k2 a4 t327 y335 (y335.length : Int) (wrap64 (x34_2 + 1))) else (some false)) = some r := H
            have A48 := aM A480
            clear A480
            by_cases c49 : t369 = true
            ·
             subst c49
             have H1 : (minecontrollaw18_FeederChecks.l0 k2 a4 t327 y335 (y335.length : Int) (wrap64 (x34_2 + 1))) = some r := by rw [if_pos rfl] at H; exact H
             clear H
             have H := H1
             clear H1
             have H' := aM H
             clear H
             have p339 : 0 ≤ (x34_2 : Int) := of_decide_eq_true (by first | (with_reducible assumption) | assumption)
             have q339 : x34_2 < (y335.length : Int) := of_decide_eq_true (by first | (with_reducible assumption) | assumption)
             obtain ⟨ad339, A339_0, c339_0, A339_1, c339_1, e339, hx339_0, hx339_1, hx339_2, hl339_0, hi339_0, hl339_1, hi339_1⟩ := at_T28 (Kd.N_reads' HO_32.out).2.2 x34_2 p339 q339
             cases e339
             obtain ⟨ce339, hce339, hMe339, hcc339⟩ := Kd.N_get HO_32.out z28 x34_2 p339 (by first | exact q339 | exact of_decide_eq_true (by first | (with_reducible assumption) | assumption) | (have e_ := (Kd.N_reads' HO_32.out).1; omega))
             obtain ⟨ua339_0, uc339_0, ua339_1, uc339_1, rfl, ul339_0, ge339_0, ul339_1, ge339_1⟩ := k28_openF hMe339
             have hv339_0 := hcc339 0 _ rfl
             rw [Nat.add_zero] at hv339_0
             replace hv339_0 := Option.some.inj (hv339_0.symm.trans hx339_0)
             injection hv339_0 with hva_ hvn_ hvc_
             rw [hva_] at ge339_0
             rw [hvc_] at ul339_0
             have HL339_0 := aM (show Kd.V k32 32 _ w.heap.size _ _ ((rd_T28 y335 x34_2).f0) from Kd.V_mk ul339_0 ge339_0)
             clear hva_ hvn_ hvc_ ge339_0 ul339_0
             have hv339_1 := hcc339 1 _ rfl
             rw [add_field _ _ 1 (by omega)] at hv339_1
             replace hv339_1 := Option.some.inj (hv339_1.symm.trans hx339_1)
             injection hv339_1 with hva_ hvn_ hvc_
             rw [hva_] at ge339_1
             rw [hvc_] at ul339_1
             have HL339_1 := aM (show Kd.V (Kd.int .i64) 3 _ w.heap.size _ _ ((rd_T28 y335 x34_2).f1) from Kd.V_mk ul339_1 ge339_1)
             clear hva_ hvn_ hvc_ ge339_1 ul339_1
             clear hcc339 hce339
             have HR339_0 := aM hi339_0
             have HC339_0 := aM hl339_0
             clear hi339_0 hl339_0
             have HR339_1 := aM hi339_1
             have HC339_1 := aM hl339_1
             clear hi339_1 hl339_1
             replace p339 := eq_true p339
             replace q339 := eq_true q339
             try go_wp2_with (first | ((with_reducible refine gate_dst (N := 13) rfl ?_); (try (refine gate_guard (by rfl) ?_; dsimp only)); refine box_event ?hg (N := 13) ?hd (cs := #[.slice none 0 0, .slice none 0 0, .int .i64 0]) (t := 28) ?hr ?_; (case hd => rfl); (case hg => rfl); (case hr => first | (go_simp; done) | (go_simp; rfl)); intro gb340 hg w50 hbox hb; replace HO_32 := aM (Kd.N_below (Kd.N_elderB (N_mv HO_32.out) gb340 (Nat.le_of_eq hg.symm)) hb); replace HO_326000 := aM (Kd.V_below (Kd.V_elderB (V_mv HO_326000.out) gb340 (Nat.le_of_eq hg.symm)) hb); replace HO_326001 := aM (Kd.V_below (Kd.V_elderB (V_mv HO_326001.out) gb340 (Nat.le_of_eq hg.symm)) hb); replace HL339_0 := aM (Kd.V_below (Kd.V_elderB (V_mv HL339_0.out) gb340 (Nat.le_of_eq hg.symm)) hb); replace HL339_1 := aM (Kd.V_below (Kd.V_elderB (V_mv HL339_1.out) gb340 (Nat.le_of_eq hg.symm)) hb); replace HR339_0 := aM (Kd.C_below (by repeat (first | (with_reducible exact HR339_0.out) | (with_reducible refine Kd.C_alloc ?_ _) | (with_reducible refine Kd.C_drewN ?_ _) | (with_reducible refine Kd.C_drew ?_) | exact HR339_0.out)) hb); replace HR339_1 := aM (Kd.C_below (by repeat (first | (with_reducible exact HR339_1.out) | (with_reducible refine Kd.C_alloc ?_ _) | (with_reducible refine Kd.C_drewN ?_ _) | (with_reducible refine Kd.C_drew ?_) | exact HR339_1.out)) hb); have BK340 := aM (hbox); have GW340 := aM ((by rw [hg]; exact (below_size (by repeat (first | (with_reducible first | exact HB.out | apply bA | apply bN | apply bD | refine below_set ?_ GE325.out) | exact HB.out))) : w.heap.size ≤ gb340)); have GE340 := aM ((by rw [hg]; exact (below_size (by repeat (first | (with_reducible first | exact HB.out | apply bA | apply bN | apply bD | refine below_set ?_ GE325.out) | exact HB.out))) : w.heap.size ≤ gb340)); replace HB := aM (below_step (by repeat (first | (with_reducible first | exact HB.out | apply bA | apply bN | apply bD | refine below_set ?_ GE325.out) | exact HB.out)) hb); have NB325_340 := aM ((by rw [hg]; exact Nat.ne_of_lt (blk_lt (blk_mv BK325.out)) : gb325 ≠ gb340)); have NB340_325 := aM ((by rw [hg]; exact Nat.ne_of_gt (blk_lt (blk_mv BK325.out)) : gb340 ≠ gb325)); replace BK325 := aM (blk_below (blk_mv BK325.out) hb); clear hb hbox hg; have hnb51 := NB340_325.out; have hnc51 := NB325_340.out; obtain ⟨hcz52_0, hcz52_1, hcz52_2, hfz52_0, hfz52_1, hfz52_2⟩ := blk3 BK340.out))
             have n0_ : Aside0 (Kd.N k28 28 (((w50.setCell ⟨gb340, 0, none⟩ (.slice A339_0 ((rd_T28 y335 x34_2).f0).length c339_0)).setCell ⟨gb340, 1, none⟩ (.slice A339_1 ((rd_T28 y335 x34_2).f1).length c339_1)).setCell ⟨gb340, 2, none⟩ (.int .i64 ((rd_T28 y335 x34_2).f2))) w.heap.size (fun k_ => ((P1_0_ k_ ∨ P1_1_ k_) ∨ w.heap.size ≤ k_) ∧ k_ ≠ gb325 ∧ k_ ≠ gb340) (.slice (some ad339) y335.length co22) y335) := ⟨by (with_reducible repeat (first | apply Kd.N_alloc | apply Kd.N_drewN | apply Kd.N_drew)); exact Kd.N_mono (Kd.N_far (p := ⟨gb340, 2, none⟩) (Kd.N_far (p := ⟨gb340, 1, none⟩) (Kd.N_far (p := ⟨gb340, 0, none⟩) (Kd.N_mono HO_32.out (fun k_ hk => (⟨hk, hk.2⟩ : _ ∧ k_ ≠ gb340))) (fun _ hk => hk.2) (.slice A339_0 ((rd_T28 y335 x34_2).f0).length c339_0)) (fun _ hk => hk.2) (.slice A339_1 ((rd_T28 y335 x34_2).f1).length c339_1)) (fun _ hk => hk.2) (.int .i64 ((rd_T28 y335 x34_2).f2))) (fun _ hk => ⟨hk.1.1.1, ⟨hk.1.1.2, hk.1.2⟩⟩)⟩
             have n1_ : Aside0 (Kd.V k32 32 (((w50.setCell ⟨gb340, 0, none⟩ (.slice A339_0 ((rd_T28 y335 x34_2).f0).length c339_0)).setCell ⟨gb340, 1, none⟩ (.slice A339_1 ((rd_T28 y335 x34_2).f1).length c339_1)).setCell ⟨gb340, 2, none⟩ (.int .i64 ((rd_T28 y335 x34_2).f2))) w.heap.size (fun k_ => ((P1_0_ k_ ∨ P1_1_ k_) ∨ w.heap.size ≤ k_) ∧ some k_ ≠ (.slice (some ad339) y335.length co22 : Value).ownBlock ∧ k_ ≠ gb325 ∧ k_ ≠ gb340) (.slice A1_0 l1_0.length c1_0) l1_0) := ⟨by (with_reducible repeat (first | apply Kd.V_alloc | apply Kd.V_drewN | apply Kd.V_drew)); exact Kd.V_mono (Kd.V_far (p := ⟨gb340, 2, none⟩) (Kd.V_far (p := ⟨gb340, 1, none⟩) (Kd.V_far (p := ⟨gb340, 0, none⟩) (Kd.V_mono HO_326000.out (fun k_ hk => (⟨hk, hk.2⟩ : _ ∧ k_ ≠ gb340))) (fun _ hk => hk.2) (.slice A339_0 ((rd_T28 y335 x34_2).f0).length c339_0)) (fun _ hk => hk.2) (.slice A339_1 ((rd_T28 y335 x34_2).f1).length c339_1)) (fun _ hk => hk.2) (.int .i64 ((rd_T28 y335 x34_2).f2))) (fun _ hk => ⟨hk.1.1.1, ⟨hk.1.1.2.1, ⟨hk.1.1.2.2, hk.1.2⟩⟩⟩)⟩
             have n2_ : Aside0 (Kd.V (Kd.int .i64) 3 (((w50.setCell ⟨gb340, 0, none⟩ (.slice A339_0 ((rd_T28 y335 x34_2).f0).length c339_0)).setCell ⟨gb340, 1, none⟩ (.slice A339_1 ((rd_T28 y335 x34_2).f1).length c339_1)).setCell ⟨gb340, 2, none⟩ (.int .i64 ((rd_T28 y335 x34_2).f2))) w.heap.size (fun k_ => ((P1_0_ k_ ∨ P1_1_ k_) ∨ w.heap.size ≤ k_) ∧ some k_ ≠ (.slice (some ad339) y335.length co22 : Value).ownBlock ∧ k_ ≠ gb325 ∧ k_ ≠ gb340) (.slice A1_1 l1_1.length c1_1) l1_1) := ⟨by (with_reducible repeat (first | apply Kd.V_alloc | apply Kd.V_drewN | apply Kd.V_drew)); exact Kd.V_mono (Kd.V_far (p := ⟨gb340, 2, none⟩) (Kd.V_far (p := ⟨gb340, 1, none⟩) (Kd.V_far (p := ⟨gb340, 0, none⟩) (Kd.V_mono HO_326001.out (fun k_ hk => (⟨hk, hk.2⟩ : _ ∧ k_ ≠ gb340))) (fun _ hk => hk.2) (.slice A339_0 ((rd_T28 y335 x34_2).f0).length c339_0)) (fun _ hk => hk.2) (.slice A339_1 ((rd_T28 y335 x34_2).f1).length c339_1)) (fun _ hk => hk.2) (.int .i64 ((rd_T28 y335 x34_2).f2))) (fun _ hk => ⟨hk.1.1.1, ⟨hk.1.1.2.1, ⟨hk.1.1.2.2, hk.1.2⟩⟩⟩)⟩
             have n3_ : Aside0 (Kd.V k32 32 (((w50.setCell ⟨gb340, 0, none⟩ (.slice A339_0 ((rd_T28 y335 x34_2).f0).length c339_0)).setCell ⟨gb340, 1, none⟩ (.slice A339_1 ((rd_T28 y335 x34_2).f1).length c339_1)).setCell ⟨gb340, 2, none⟩ (.int .i64 ((rd_T28 y335 x34_2).f2))) w.heap.size (fun k_ => ((P1_0_ k_ ∨ P1_1_ k_) ∨ w.heap.size ≤ k_) ∧ some k_ ≠ (.slice (some ad339) y335.length co22 : Value).ownBlock ∧ k_ ≠ gb325 ∧ k_ ≠ gb340) (.slice A339_0 ((rd_T28 y335 x34_2).f0).length c339_0) ((rd_T28 y335 x34_2).f0)) := ⟨by (with_reducible repeat (first | apply Kd.V_alloc | apply Kd.V_drewN | apply Kd.V_drew)); exact Kd.V_mono (Kd.V_far (p := ⟨gb340, 2, none⟩) (Kd.V_far (p := ⟨gb340, 1, none⟩) (Kd.V_far (p := ⟨gb340, 0, none⟩) (Kd.V_mono HL339_0.out (fun k_ hk => (⟨hk, hk.2⟩ : _ ∧ k_ ≠ gb340))) (fun _ hk => hk.2) (.slice A339_0 ((rd_T28 y335 x34_2).f0).length c339_0)) (fun _ hk => hk.2) (.slice A339_1 ((rd_T28 y335 x34_2).f1).length c339_1)) (fun _ hk => hk.2) (.int .i64 ((rd_T28 y335 x34_2).f2))) (fun _ hk => ⟨hk.1.1.1.1, ⟨hk.1.1.2, ⟨hk.1.1.1.2, hk.1.2⟩⟩⟩)⟩
             have n4_ : Aside0 (Kd.V (Kd.int .i64) 3 (((w50.setCell ⟨gb340, 0, none⟩ (.slice A339_0 ((rd_T28 y335 x34_2).f0).length c339_0)).setCell ⟨gb340, 1, none⟩ (.slice A339_1 ((rd_T28 y335 x34_2).f1).length c339_1)).setCell ⟨gb340, 2, none⟩ (.int .i64 ((rd_T28 y335 x34_2).f2))) w.heap.size (fun k_ => ((P1_0_ k_ ∨ P1_1_ k_) ∨ w.heap.size ≤ k_) ∧ some k_ ≠ (.slice (some ad339) y335.length co22 : Value).ownBlock ∧ k_ ≠ gb325 ∧ k_ ≠ gb340) (.slice A339_1 ((rd_T28 y335 x34_2).f1).length c339_1) ((rd_T28 y335 x34_2).f1)) := ⟨by (with_reducible repeat (first | apply Kd.V_alloc | apply Kd.V_drewN | apply Kd.V_drew)); exact Kd.V_mono (Kd.V_far (p := ⟨gb340, 2, none⟩) (Kd.V_far (p := ⟨gb340, 1, none⟩) (Kd.V_far (p := ⟨gb340, 0, none⟩) (Kd.V_mono HL339_1.out (fun k_ hk => (⟨hk, hk.2⟩ : _ ∧ k_ ≠ gb340))) (fun _ hk => hk.2) (.slice A339_0 ((rd_T28 y335 x34_2).f0).length c339_0)) (fun _ hk => hk.2) (.slice A339_1 ((rd_T28 y335 x34_2).f1).length c339_1)) (fun _ hk => hk.2) (.int .i64 ((rd_T28 y335 x34_2).f2))) (fun _ hk => ⟨hk.1.1.1.1, ⟨hk.1.1.2, ⟨hk.1.1.1.2, hk.1.2⟩⟩⟩)⟩
             have n5_ : Aside0 ((((w50.setCell ⟨gb340, 0, none⟩ (.slice A339_0 ((rd_T28 y335 x34_2).f0).length c339_0)).setCell ⟨gb340, 1, none⟩ (.slice A339_1 ((rd_T28 y335 x34_2).f1).length c339_1)).setCell ⟨gb340, 2, none⟩ (.int .i64 ((rd_T28 y335 x34_2).f2))).heap[gb325]? = some (.cells #[.slice A1_0 l1_0.length c1_0, .slice A1_1 l1_1.length c1_1, .int .i64 a1_2] 28 (0, 0))) := ⟨by (with_reducible repeat (first | refine kN ?_ _ | refine kD ?_ | refine kA ?_ _)); refine blk_far ?_ NB325_340.out _; (with_reducible repeat (first | refine kN ?_ _ | refine kD ?_ | refine kA ?_ _)); refine blk_far ?_ NB325_340.out _; (with_reducible repeat (first | refine kN ?_ _ | refine kD ?_ | refine kA ?_ _)); refine blk_far ?_ NB325_340.out _; (with_reducible repeat (first | refine kN ?_ _ | refine kD ?_ | refine kA ?_ _)); exact BK325.out⟩
             have n6_ : Aside0 ((((w50.setCell ⟨gb340, 0, none⟩ (.slice A339_0 ((rd_T28 y335 x34_2).f0).length c339_0)).setCell ⟨gb340, 1, none⟩ (.slice A339_1 ((rd_T28 y335 x34_2).f1).length c339_1)).setCell ⟨gb340, 2, none⟩ (.int .i64 ((rd_T28 y335 x34_2).f2))).heap[gb340]? = some (.cells #[.slice A339_0 ((rd_T28 y335 x34_2).f0).length c339_0, .slice A339_1 ((rd_T28 y335 x34_2).f1).length c339_1, .int .i64 ((rd_T28 y335 x34_2).f2)] 28 (0, 0))) := ⟨by (with_reducible repeat (first | refine kN ?_ _ | refine kD ?_ | refine kA ?_ _)); refine blk_put (cs := #[.slice A339_0 ((rd_T28 y335 x34_2).f0).length c339_0, .slice A339_1 ((rd_T28 y335 x34_2).f1).length c339_1, .int .i64 0]) ?_ 2 _ rfl; (with_reducible repeat (first | refine kN ?_ _ | refine kD ?_ | refine kA ?_ _)); refine blk_put (cs := #[.slice A339_0 ((rd_T28 y335 x34_2).f0).length c339_0, .slice none 0 0, .int .i64 0]) ?_ 1 _ rfl; (with_reducible repeat (first | refine kN ?_ _ | refine kD ?_ | refine kA ?_ _)); refine blk_put (cs := #[.slice none 0 0, .slice none 0 0, .int .i64 0]) ?_ 0 _ rfl; (with_reducible repeat (first | refine kN ?_ _ | refine kD ?_ | refine kA ?_ _)); exact BK340.out⟩
             have n7_ : Aside0 (Below w.heap.size w (((w50.setCell ⟨gb340, 0, none⟩ (.slice A339_0 ((rd_T28 y335 x34_2).f0).length c339_0)).setCell ⟨gb340, 1, none⟩ (.slice A339_1 ((rd_T28 y335 x34_2).f1).length c339_1)).setCell ⟨gb340, 2, none⟩ (.int .i64 ((rd_T28 y335 x34_2).f2)))) := ⟨by repeat (first | (with_reducible first | exact HB.out | apply bA | apply bN | apply bD | refine below_set ?_ GE325.out | refine below_set ?_ GE340.out) | exact HB.out)⟩
             (try clear HO_32)
             (try clear HO_326000)
             (try clear HO_326001)
             (try clear HL339_0)
             (try clear HL339_1)
             (try clear BK325)
             (try clear BK340)
             (try clear HB)
             generalize (((w50.setCell ⟨gb340, 0, none⟩ (.slice A339_0 ((rd_T28 y335 x34_2).f0).length c339_0)).setCell ⟨gb340, 1, none⟩ (.slice A339_1 ((rd_T28 y335 x34_2).f1).length c339_1)).setCell ⟨gb340, 2, none⟩ (.int .i64 ((rd_T28 y335 x34_2).f2))) = w53 at n0_ n1_ n2_ n3_ n4_ n5_ n6_ n7_ ⊢
             have HO_32 := n0_
             have HO_326000 := n1_
             have HO_326001 := n2_
             have HL339_0 := n3_
             have HL339_1 := n4_
             have BK325 := n5_
             have BK340 := n6_
             have HB := n7_
             clear n0_ n1_ n2_ n3_ n4_ n5_ n6_ n7_
             replace HO_32 := aM (Kd.N_drew HO_32.out)
             replace HO_326000 := aM (Kd.V_drew HO_326000.out)
             replace HO_326001 := aM (Kd.V_drew HO_326001.out)
             replace HL339_0 := aM (Kd.V_drew HL339_0.out)
             replace HL339_1 := aM (Kd.V_drew HL339_1.out)
             replace BK325 := aM (blk_drew BK325.out)
             replace BK340 := aM (blk_drew BK340.out)
             replace HB := aM (below_drew1 HB.out)
             refine start_ (n := 58) (S := fun w' => w'.cell? ⟨gb340, 0, none⟩ = some (.slice A339_0 ((rd_T28 y335 x34_2).f0).length c339_0) ∧ w'.cell? ⟨gb340, 1, none⟩ = some (.slice A339_1 ((rd_T28 y335 x34_2).f1).length c339_1) ∧ w'.cell? ⟨gb340, 2, none⟩ = some (.int .i64 ((rd_T28 y335 x34_2).f2))) (ds := []) #[false, false, false, false, false, false, false, false, false, false, false, false, false, false, false, false, false, false, false, false, false, false, false, false, false, false, false, false, false, false, false, false, false, false, false, false, false, false, false, false, false, false, false, false, false, false, false, false, false, false, false, false, false, false, false, false, false, false] (by kernel_rfl) rfl rfl ⟨(blk_cell BK340.out 0).trans rfl, (blk_cell BK340.out 1).trans rfl, (blk_cell BK340.out 2).trans rfl⟩ (fun hHeld => ?_); refine with_tabW minecontrollaw18_FeederChecks.tab7 minecontrollaw18_FeederChecks.bits7 (fun HT_ HW_ => ?_)
             generalize w53.drew = w54 at HO_32 HO_326000 HO_326001 HL339_0 HL339_1 BK325 BK340 HB hHeld ⊢
             refine take_ (i := 0) (N := some 38) (v := ?_) (a' := ?_) #[true, false, false, false, false, false, false, false, false, false, false, false, false, false, false, false, false, false, false, false, false, false, false, false, false, false, false, false, false, false, false, false, false, false, false, false, false, false, false, false, false, false, false, false, false, false, false, false, false, false, false, false, false, false, false, false, false, false] rfl rfl (take_ofW HT_.out HW_.out (by kernel_rfl)) (fun _ _ _ h => h) (Or.inl ⟨by rfl, ?_⟩) hHeld ?_ ?_
             rotate_left
             ·
              rintro w' ⟨s0, s1, s2⟩
              go_simp
              with_reducible rfl
             rotate_left
             ·
              simp only [Act.put, sT, sZ, sS, i64_w, i32_w]
              rfl
             refine take_ (i := 2) (N := some 40) (v := ?_) (a' := ?_) #[true, false, true, false, false, false, false, false, false, false, false, false, false, false, false, false, false, false, false, false, false, false, false, false, false, false, false, false, false, false, false, false, false, false, false, false, false, false, false, false, false, false, false, false, false, false, false, false, false, false, false, false, false, false, false, false, false, false] rfl rfl (take_ofW HT_.out HW_.out (by kernel_rfl)) (fun _ _ _ h => h) (Or.inl ⟨by rfl, ?_⟩) hHeld ?_ ?_
             rotate_left
             ·
              rintro w' ⟨s0, s1, s2⟩
              go_simp
              with_reducible rfl
             rotate_left
             ·
              simp only [Act.put, sT, sZ, sS, i64_w, i32_w]
              rfl
             refine one_ (i := 1) (N := some 39) #[true, true, true, false, false, false, false, false, false, false, false, false, false, false, false, false, false, false, false, false, false, false, false, false, false, false, false, false, false, false, false, false, false, false, false, false, false, false, false, false, false, false, false, false, false, false, false, false, false, false, false, false, false, false, false, false, false, false] rfl rfl (one_of HT_.out (by kernel_rfl)) (by decide) (fun K hK => ?_)
             refine goes_ Try.func23 (by kernel_rfl) rfl #[.agg #[.slice A339_0 ((rd_T28 y335 x34_2).f0).length c339_0, .slice A339_1 ((rd_T28 y335 x34_2).f1).length c339_1, .int .i64 ((rd_T28 y335 x34_2).f2)]] (by rfl) rfl rfl (by first | rfl | (simp only [List.map_toArray, List.map_cons, List.map_nil, List.length_drop, List.length_take]; try rfl)) ?_
             with_reducible refine (feeder_Check.calls k2 _ _ ((rd_T28 y335 x34_2).f0) _ _ ((rd_T28 y335 x34_2).f1) ((rd_T28 y335 x34_2).f2) t341 _ ?side1 ?side2 ?side3 ?side4 A26.out).mono ?_
             (case side1 => repeat (first | exact ((Kd.V_reads' (V_mv HL339_0.out)).2.2) | (with_reducible refine Kd.C_alloc ?_ _) | (with_reducible refine Kd.C_drewN ?_ _) | (with_reducible refine Kd.C_drew ?_)))
             (case side2 => exact HC339_0.out)
             (case side3 => repeat (first | exact ((Kd.V_reads' (V_mv HL339_1.out)).2.2) | (with_reducible refine Kd.C_alloc ?_ _) | (with_reducible refine Kd.C_drewN ?_ _) | (with_reducible refine Kd.C_drew ?_)))
             (case side4 => exact HC339_1.out)
             rintro e w55 ⟨rfl, hb⟩
             refine ⟨_, rfl, ?_⟩
             replace HO_32 := aM (Kd.N_below (N_mv HO_32.out) hb)
             replace HO_326000 := aM (Kd.V_below (V_mv HO_326000.out) hb)
             replace HO_326001 := aM (Kd.V_below (V_mv HO_326001.out) hb)
             replace HL339_0 := aM (Kd.V_below (V_mv HL339_0.out) hb)
             replace HL339_1 := aM (Kd.V_below (V_mv HL339_1.out) hb)
             replace BK325 := aM (blk_below (blk_mv BK325.out) hb)
             replace BK340 := aM (blk_below (blk_mv BK340.out) hb)
             replace HB := aM (below_step (by repeat (first | (with_reducible first | exact HB.out | apply bA | apply bN | apply bD | refine below_set ?_ GE325.out | refine below_set ?_ GE340.out) | exact HB.out)) hb)
             (try clear hb)
             (try clear hb2)
             (try clear hge)
             (try clear hk)
             (try clear hi)
             refine hK.out _ _ ⟨(blk_cell BK340.out 0).trans rfl, (blk_cell BK340.out 1).trans rfl, (blk_cell BK340.out 2).trans rfl⟩ (fun hHeld => ?_)
             clear hK K
             refine norm_ (a' := ?_) ?_ ?_
             rotate_left
             ·
              show Act.put _ (some 39) _ = _
              simp only [Act.put, sT, sZ, sS, i64_w, i32_w]
              rfl
             refine one_ (i := 3) (N := some 41) #[true, true, true, true, false, false, false, false, false, false, false, false, false, false, false, false, false, false, false, false, false, false, false, false, false, false, false, false, false, false, false, false, false, false, false, false, false, false, false, false, false, false, false, false, false, false, false, false, false, false, false, false, false, false, false, false, false, false] rfl rfl (one_of HT_.out (by kernel_rfl)) (by decide) (fun K hK => ?_)
             refine goes_ Try.func26 (by kernel_rfl) rfl #[.agg #[.slice A339_0 ((rd_T28 y335 x34_2).f0).length c339_0, .slice A339_1 ((rd_T28 y335 x34_2).f1).length c339_1, .int .i64 ((rd_T28 y335 x34_2).f2)]] (by rfl) rfl rfl (by first | rfl | (simp only [List.map_toArray, List.map_cons, List.map_nil, List.length_drop, List.length_take]; try rfl)) ?_
             with_reducible refine (minecontrolref18_Check.calls k2 _ _ ((rd_T28 y335 x34_2).f0) _ _ ((rd_T28 y335 x34_2).f1) ((rd_T28 y335 x34_2).f2) t342 _ ?side1 ?side2 ?side3 ?side4 A27.out).mono ?_
             (case side1 => repeat (first | exact ((Kd.V_reads' (V_mv HL339_0.out)).2.2) | (with_reducible refine Kd.C_alloc ?_ _) | (with_reducible refine Kd.C_drewN ?_ _) | (with_reducible refine Kd.C_drew ?_)))
             (case side2 => exact HC339_0.out)
             (case side3 => repeat (first | exact ((Kd.V_reads' (V_mv HL339_1.out)).2.2) | (with_reducible refine Kd.C_alloc ?_ _) | (with_reducible refine Kd.C_drewN ?_ _) | (with_reducible refine Kd.C_drew ?_)))
             (case side4 => exact HC339_1.out)
             rintro e w56 ⟨rfl, hb⟩
             refine ⟨_, rfl, ?_⟩
             replace HO_32 := aM (Kd.N_below (N_mv HO_32.out) hb)
             replace HO_326000 := aM (Kd.V_below (V_mv HO_326000.out) hb)
             replace HO_326001 := aM (Kd.V_below (V_mv HO_326001.out) hb)
             replace HL339_0 := aM (Kd.V_below (V_mv HL339_0.out) hb)
             replace HL339_1 := aM (Kd.V_below (V_mv HL339_1.out) hb)
             replace BK325 := aM (blk_below (blk_mv BK325.out) hb)
             replace BK340 := aM (blk_below (blk_mv BK340.out) hb)
             replace HB := aM (below_step (by repeat (first | (with_reducible first | exact HB.out | apply bA | apply bN | apply bD | refine below_set ?_ GE325.out | refine below_set ?_ GE340.out) | exact HB.out)) hb)
             (try clear hb)
             (try clear hb2)
             (try clear hge)
             (try clear hk)
             (try clear hi)
             refine hK.out _ _ ⟨(blk_cell BK340.out 0).trans rfl, (blk_cell BK340.out 1).trans rfl, (blk_cell BK340.out 2).trans rfl⟩ (fun hHeld => ?_)
             clear hK K
             refine norm_ (a' := ?_) ?_ ?_
             rotate_left
             ·
              show Act.put _ (some 41) _ = _
              simp only [Act.put, sT, sZ, sS, i64_w, i32_w]
              rfl
             refine pure_ (i := 4) (N := some 42) (v := ?_) (a' := ?_) #[true, true, true, true, true, false, false, false, false, false, false, false, false, false, false, false, false, false, false, false, false, false, false, false, false, false, false, false, false, false, false, false, false, false, false, false, false, false, false, false, false, false, false, false, false, false, false, false, false, false, false, false, false, false, false, false, false, false] rfl rfl (any_of HT_.out (by kernel_rfl)) (fun _ _ _ h => h) (Or.inl ⟨by rfl, ?_⟩) ?_ ?_
             rotate_left
             ·
              intro w'
              go_simp
              with_reducible rfl
             rotate_left
             ·
              simp only [Act.put, sT, sZ, sS, i64_w, i32_w]
              rfl
             refine pure_ (i := 5) (N := some 43) (v := ?_) (a' := ?_) #[true, true, true, true, true, true, false, false, false, false, false, false, false, false, false, false, false, false, false, false, false, false, false, false, false, false, false, false, false, false, false, false, false, false, false, false, false, false, false, false, false, false, false, false, false, false, false, false, false, false, false, false, false, false, false, false, false, false] rfl rfl (any_of HT_.out (by kernel_rfl)) (fun _ _ _ h => h) (Or.inl ⟨by rfl, ?_⟩) ?_ ?_
             rotate_left
             ·
              intro w'
              go_simp
              with_reducible rfl
             rotate_left
             ·
              simp only [Act.put, sT, sZ, sS, i64_w, i32_w]
              rfl
             refine pure_ (i := 7) (N := some 45) (v := ?_) (a' := ?_) #[true, true, true, true, true, true, false, true, false, false, false, false, false, false, false, false, false, false, false, false, false, false, false, false, false, false, false, false, false, false, false, false, false, false, false, false, false, false, false, false, false, false, false, false, false, false, false, false, false, false, false, false, false, false, false, false, false, false] rfl rfl (any_of HT_.out (by kernel_rfl)) (fun _ _ _ h => h) (Or.inl ⟨by rfl, ?_⟩) ?_ ?_
             rotate_left
             ·
              intro w'
              go_simp
              with_reducible rfl
             rotate_left
             ·
              simp only [Act.put, sT, sZ, sS, i64_w, i32_w]
              rfl
             refine pure_ (i := 10) (N := some 48) (v := ?_) (a' := ?_) #[true, true, true, true, true, true, false, true, false, false, true, false, false, false, false, false, false, false, false, false, false, false, false, false, false, false, false, false, false, false, false, false, false, false, false, false, false, false, false, false, false, false, false, false, false, false, false, false, false, false, false, false, false, false, false, false, false, false] rfl rfl (any_of HT_.out (by kernel_rfl)) (fun _ _ _ h => h) (Or.inl ⟨by rfl, ?_⟩) ?_ ?_
             rotate_left
             ·
              intro w'
              go_simp
              with_reducible rfl
             rotate_left
             ·
              simp only [Act.put, sT, sZ, sS, i64_w, i32_w]
              rfl
             refine take_ (i := 6) (N := some 44) (v := ?_) (a' := ?_) #[true, true, true, true, true, true, true, true, false, false, true, false, false, false, false, false, false, false, false, false, false, false, false, false, false, false, false, false, false, false, false, false, false, false, false, false, false, false, false, false, false, false, false, false, false, false, false, false, false, false, false, false, false, false, false, false, false, false] rfl rfl (take_ofW HT_.out HW_.out (by kernel_rfl)) (fun _ _ _ h => h) (Or.inl ⟨by rfl, ?_⟩) hHeld ?_ ?_
             rotate_left
             ·
              rintro w' ⟨s0, s1, s2⟩
              go_simp
              with_reducible rfl
             rotate_left
             ·
              simp only [Act.put, sT, sZ, sS, i64_w, i32_w]
              rfl
             refine take_ (i := 9) (N := some 47) (v := ?_) (a' := ?_) #[true, true, true, true, true, true, true, true, false, true, true, false, false, false, false, false, false, false, false, false, false, false, false, false, false, false, false, false, false, false, false, false, false, false, false, false, false, false, false, false, false, false, false, false, false, false, false, false, false, false, false, false, false, false, false, false, false, false] rfl rfl (take_ofW HT_.out HW_.out (by kernel_rfl)) (fun _ _ _ h => h) (Or.inl ⟨by rfl, ?_⟩) hHeld ?_ ?_
             rotate_left
             ·
              rintro w' ⟨s0, s1, s2⟩
              go_simp
              with_reducible rfl
             rotate_left
             ·
              simp only [Act.put, sT, sZ, sS, i64_w, i32_w]
              rfl
             refine one_ (i := 8) (N := some 46) #[true, true, true, true, true, true, true, true, true, true, true, false, false, false, false, false, false, false, false, false, false, false, false, false, false, false, false, false, false, false, false, false, false, false, false, false, false, false, false, false, false, false, false, false, false, false, false, false, false, false, false, false, false, false, false, false, false, false] rfl rfl (one_of HT_.out (by kernel_rfl)) (by decide) (fun K hK => ?_)
             refine goes_ Try.func13 (by kernel_rfl) rfl #[.agg #[.slice A339_0 ((rd_T28 y335 x34_2).f0).length c339_0, .slice A339_1 ((rd_T28 y335 x34_2).f1).length c339_1, .int .i64 ((rd_T28 y335 x34_2).f2)], .int .i64 t327] (by rfl) rfl rfl (by first | rfl | (simp only [List.map_toArray, List.map_cons, List.map_nil, List.length_drop, List.length_take]; try rfl)) ?_
             with_reducible refine (feeder_Path.calls k2 _ _ ((rd_T28 y335 x34_2).f0) _ _ ((rd_T28 y335 x34_2).f1) ((rd_T28 y335 x34_2).f2) t327 t343 _ ?side1 ?side2 ?side3 ?side4 A29.out).mono ?_
             (case side1 => repeat (first | exact ((Kd.V_reads' (V_mv HL339_0.out)).2.2) | (with_reducible refine Kd.C_alloc ?_ _) | (with_reducible refine Kd.C_drewN ?_ _) | (with_reducible refine Kd.C_drew ?_)))
             (case side2 => exact HC339_0.out)
             (case side3 => repeat (first | exact ((Kd.V_reads' (V_mv HL339_1.out)).2.2) | (with_reducible refine Kd.C_alloc ?_ _) | (with_reducible refine Kd.C_drewN ?_ _) | (with_reducible refine Kd.C_drew ?_)))
             (case side4 => exact HC339_1.out)
             rintro e w57 ⟨v344, rfl, ho0, hb⟩
             refine ⟨_, rfl, ?_⟩
             replace HO_32 := aM (Kd.N_elder' (N_mv HO_32.out) (Kd.R_base ho0) hb)
             replace HO_326000 := aM (Kd.V_elder' (V_mv HO_326000.out) (Kd.R_base ho0) hb)
             replace HO_326001 := aM (Kd.V_elder' (V_mv HO_326001.out) (Kd.R_base ho0) hb)
             replace HL339_0 := aM (Kd.V_elder' (V_mv HL339_0.out) (Kd.R_base ho0) hb)
             replace HL339_1 := aM (Kd.V_elder' (V_mv HL339_1.out) (Kd.R_base ho0) hb)
             have HO345 := aM (Kd.R_lower (Kd.R_newM (M := fun k_ => (w.heap.size ≤ k_)) ho0 (below_size (by repeat (first | (with_reducible first | exact HB.out | apply bA | apply bN | apply bD | refine below_set ?_ GE325.out | refine below_set ?_ GE340.out) | exact HB.out))) (fun k_ h_ => h_)) (below_size (by repeat (first | (with_reducible first | exact HB.out | apply bA | apply bN | apply bD | refine below_set ?_ GE325.out | refine below_set ?_ GE340.out) | exact HB.out))))
             replace BK325 := aM (blk_below (blk_mv BK325.out) hb)
             replace BK340 := aM (blk_below (blk_mv BK340.out) hb)
             replace HB := aM (below_step (by repeat (first | (with_reducible first | exact HB.out | apply bA | apply bN | apply bD | refine below_set ?_ GE325.out | refine below_set ?_ GE340.out) | exact HB.out)) hb)
             (try clear hb)
             (try clear hb2)
             (try clear hge)
             (try clear hk)
             (try clear hi)
             (try clear ho0)
             refine hK.out _ _ ⟨(blk_cell BK340.out 0).trans rfl, (blk_cell BK340.out 1).trans rfl, (blk_cell BK340.out 2).trans rfl⟩ (fun hHeld => ?_)
             clear hK K
             refine norm_ (a' := ?_) ?_ ?_
             rotate_left
             ·
              show Act.put _ (some 46) _ = _
              simp only [Act.put, sT, sZ, sS, i64_w, i32_w]
              rfl
             refine one_ (i := 11) (N := some 49) #[true, true, true, true, true, true, true, true, true, true, true, true, false, false, false, false, false, false, false, false, false, false, false, false, false, false, false, false, false, false, false, false, false, false, false, false, false, false, false, false, false, false, false, false, false, false, false, false, false, false, false, false, false, false, false, false, false, false] rfl rfl (one_of HT_.out (by kernel_rfl)) (by decide) (fun K hK => ?_)
             refine goes_ Try.func29 (by kernel_rfl) rfl #[.agg #[.slice A339_0 ((rd_T28 y335 x34_2).f0).length c339_0, .slice A339_1 ((rd_T28 y335 x34_2).f1).length c339_1, .int .i64 ((rd_T28 y335 x34_2).f2)], .int .i64 t327] (by rfl) rfl rfl (by first | rfl | (simp only [List.map_toArray, List.map_cons, List.map_nil, List.length_drop, List.length_take]; try rfl)) ?_
             with_reducible refine (minecontrolref18_Path.calls k2 _ _ ((rd_T28 y335 x34_2).f0) _ _ ((rd_T28 y335 x34_2).f1) ((rd_T28 y335 x34_2).f2) t327 t346 _ ?side1 ?side2 ?side3 ?side4 A30.out).mono ?_
             (case side1 => repeat (first | exact ((Kd.V_reads' (V_mv HL339_0.out)).2.2) | (with_reducible refine Kd.C_alloc ?_ _) | (with_reducible refine Kd.C_drewN ?_ _) | (with_reducible refine Kd.C_drew ?_)))
             (case side2 => exact HC339_0.out)
             (case side3 => repeat (first | exact ((Kd.V_reads' (V_mv HL339_1.out)).2.2) | (with_reducible refine Kd.C_alloc ?_ _) | (with_reducible refine Kd.C_drewN ?_ _) | (with_reducible refine Kd.C_drew ?_)))
             (case side4 => exact HC339_1.out)
             rintro e w58 ⟨v347, rfl, ho0, hb⟩
             refine ⟨_, rfl, ?_⟩
             replace HO_32 := aM (Kd.N_elder' (N_mv HO_32.out) (Kd.R_base ho0) hb)
             replace HO_326000 := aM (Kd.V_elder' (V_mv HO_326000.out) (Kd.R_base ho0) hb)
             replace HO_326001 := aM (Kd.V_elder' (V_mv HO_326001.out) (Kd.R_base ho0) hb)
             replace HL339_0 := aM (Kd.V_elder' (V_mv HL339_0.out) (Kd.R_base ho0) hb)
             replace HL339_1 := aM (Kd.V_elder' (V_mv HL339_1.out) (Kd.R_base ho0) hb)
             have HO348 := aM (Kd.R_lower (Kd.R_new' (Kd.R_newM (M := fun k_ => (w.heap.size ≤ k_)) ho0 (below_size (by repeat (first | (with_reducible first | exact HB.out | apply bA | apply bN | apply bD | refine below_set ?_ GE325.out | refine below_set ?_ GE340.out) | exact HB.out))) (fun k_ h_ => h_)) (Kd.R_lt (R_mv HO345.out))) (below_size (by repeat (first | (with_reducible first | exact HB.out | apply bA | apply bN | apply bD | refine below_set ?_ GE325.out | refine below_set ?_ GE340.out) | exact HB.out))))
             replace HO345 := aM (Kd.R_elder' (R_mv HO345.out) (Kd.R_base ho0) hb)
             replace BK325 := aM (blk_below (blk_mv BK325.out) hb)
             replace BK340 := aM (blk_below (blk_mv BK340.out) hb)
             replace HB := aM (below_step (by repeat (first | (with_reducible first | exact HB.out | apply bA | apply bN | apply bD | refine below_set ?_ GE325.out | refine below_set ?_ GE340.out) | exact HB.out)) hb)
             (try clear hb)
             (try clear hb2)
             (try clear hge)
             (try clear hk)
             (try clear hi)
             (try clear ho0)
             obtain ⟨Ao59, co59, eo59⟩ := Kd.R_slice HO345.out
             (first | subst eo59 | (injection eo59 with f1_ f2_ f3_; have f4_ := f1_.symm; have f5_ := f3_.symm; clear f1_ f2_ f3_; subst f4_; subst f5_))
             obtain ⟨Ao60, co60, eo60⟩ := Kd.R_slice HO348.out
             (first | subst eo60 | (injection eo60 with f1_ f2_ f3_; have f4_ := f1_.symm; have f5_ := f3_.symm; clear f1_ f2_ f3_; subst f4_; subst f5_))
             refine hK.out _ _ ⟨(blk_cell BK340.out 0).trans rfl, (blk_cell BK340.out 1).trans rfl, (blk_cell BK340.out 2).trans rfl⟩ (fun hHeld => ?_)
             clear hK K
             refine norm_ (a' := ?_) ?_ ?_
             rotate_left
             ·
              show Act.put _ (some 49) _ = _
              simp only [Act.put, sT, sZ, sS, i64_w, i32_w]
              rfl
             refine one_ (i := 12) (N := some 50) #[true, true, true, true, true, true, true, true, true, true, true, true, true, false, false, false, false, false, false, false, false, false, false, false, false, false, false, false, false, false, false, false, false, false, false, false, false, false, false, false, false, false, false, false, false, false, false, false, false, false, false, false, false, false, false, false, false, false] rfl rfl (one_of HT_.out (by kernel_rfl)) (by decide) (fun K hK => ?_)
             refine goes_ Try.func17 (by kernel_rfl) rfl #[.slice Ao59 t343.length co59, .slice Ao60 t346.length co60] (by rfl) rfl rfl (by first | rfl | (simp only [List.map_toArray, List.map_cons, List.map_nil, List.length_drop, List.length_take]; try rfl)) ?_
             with_reducible refine (minecontrolref01_Ints.calls k2 _ _ t343 _ _ t346 true _ ?side1 ?side2 ?side3 ?side4 A31.out).mono ?_
             (case side1 => repeat (first | exact (Kd.R_reads' HO345.out).2.2 | (with_reducible refine Kd.C_alloc ?_ _) | (with_reducible refine Kd.C_drewN ?_ _) | (with_reducible refine Kd.C_drew ?_)))
             (case side2 => exact (Kd.R_reads' HO345.out).2.1)
             (case side3 => repeat (first | exact (Kd.R_reads' HO348.out).2.2 | (with_reducible refine Kd.C_alloc ?_ _) | (with_reducible refine Kd.C_drewN ?_ _) | (with_reducible refine Kd.C_drew ?_)))
             (case side4 => exact (Kd.R_reads' HO348.out).2.1)
             rintro e w' ⟨rfl, ⟨nd, rfl⟩⟩
             refine ⟨_, rfl, ?_⟩
             refine hK.out _ _ ⟨(blk_cell BK340.out 0).trans rfl, (blk_cell BK340.out 1).trans rfl, (blk_cell BK340.out 2).trans rfl⟩ (fun hHeld => ?_)
             clear hK K
             refine norm_ (a' := ?_) ?_ ?_
             rotate_left
             ·
              show Act.put _ (some 50) _ = _
              simp only [Act.put, sT, sZ, sS, i64_w, i32_w]
              rfl
             refine pure_ (i := 13) (N := some 51) (v := ?_) (a' := ?_) #[true, true, true, true, true, true, true, true, true, true, true, true, true, true, false, false, false, false, false, false, false, false, false, false, false, false, false, false, false, false, false, false, false, false, false, false, false, false, false, false, false, false, false, false, false, false, false, false, false, false, false, false, false, false, false, false, false, false] rfl rfl (any_of HT_.out (by kernel_rfl)) (fun _ _ _ h => h) (Or.inl ⟨by rfl, ?_⟩) ?_ ?_
             rotate_left
             ·
              intro w'
              go_simp
              with_reducible rfl
             rotate_left
             ·
              simp only [Act.put, sT, sZ, sS, i64_w, i32_w]
              rfl
             refine pure_ (i := 14) (N := some 52) (v := ?_) (a' := ?_) #[true, true, true, true, true, true, true, true, true, true, true, true, true, true, true, false, false, false, false, false, false, false, false, false, false, false, false, false, false, false, false, false, false, false, false, false, false, false, false, false, false, false, false, false, false, false, false, false, false, false, false, false, false, false, false, false, false, false] rfl rfl (any_of HT_.out (by kernel_rfl)) (fun _ _ _ h => h) (Or.inl ⟨by rfl, ?_⟩) ?_ ?_
             rotate_left
             ·
              intro w'
              go_simp
              with_reducible rfl
             rotate_left
             ·
              simp only [Act.put, sT, sZ, sS, i64_w, i32_w]
              rfl
             refine pure_ (i := 15) (N := some 53) (v := ?_) (a' := ?_) #[true, true, true, true, true, true, true, true, true, true, true, true, true, true, true, true, false, false, false, false, false, false, false, false, false, false, false, false, false, false, false, false, false, false, false, false, false, false, false, false, false, false, false, false, false, false, false, false, false, false, false, false, false, false, false, false, false, false] rfl rfl (any_of HT_.out (by kernel_rfl)) (fun _ _ _ h => h) (Or.inl ⟨by rfl, ?_⟩) ?_ ?_
             rotate_left
             ·
              intro w'
              go_simp
              with_reducible rfl
             rotate_left
             ·
              simp only [Act.put, sT, sZ, sS, i64_w, i32_w]
              rfl
             refine pure_ (i := 17) (N := some 55) (v := ?_) (a' := ?_) #[true, true, true, true, true, true, true, true, true, true, true, true, true, true, true, true, false, true, false, false, false, false, false, false, false, false, false, false, false, false, false, false, false, false, false, false, false, false, false, false, false, false, false, false, false, false, false, false, false, false, false, false, false, false, false, false, false, false] rfl rfl (any_of HT_.out (by kernel_rfl)) (fun _ _ _ h => h) (Or.inl ⟨by rfl, ?_⟩) ?_ ?_
             rotate_left
             ·
              intro w'
              go_simp
              with_reducible rfl
             rotate_left
             ·
              simp only [Act.put, sT, sZ, sS, i64_w, i32_w]
              rfl
             refine pure_ (i := 20) (N := some 58) (v := ?_) (a' := ?_) #[true, true, true, true, true, true, true, true, true, true, true, true, true, true, true, true, false, true, false, false, true, false, false, false, false, false, false, false, false, false, false, false, false, false, false, false, false, false, false, false, false, false, false, false, false, false, false, false, false, false, false, false, false, false, false, false, false, false] rfl rfl (any_of HT_.out (by kernel_rfl)) (fun _ _ _ h => h) (Or.inl ⟨by rfl, ?_⟩) ?_ ?_
             rotate_left
             ·
              intro w'
              go_simp
              with_reducible rfl
             rotate_left
             ·
              simp only [Act.put, sT, sZ, sS, i64_w, i32_w]
              rfl
             refine take_ (i := 16) (N := some 54) (v := ?_) (a' := ?_) #[true, true, true, true, true, true, true, true, true, true, true, true, true, true, true, true, true, true, false, false, true, false, false, false, false, false, false, false, false, false, false, false, false, false, false, false, false, false, false, false, false, false, false, false, false, false, false, false, false, false, false, false, false, false, false, false, false, false] rfl rfl (take_ofW HT_.out HW_.out (by kernel_rfl)) (fun _ _ _ h => h) (Or.inl ⟨by rfl, ?_⟩) hHeld ?_ ?_
             rotate_left
             ·
              rintro w' ⟨s0, s1, s2⟩
              go_simp
              with_reducible rfl
             rotate_left
             ·
              simp only [Act.put, sT, sZ, sS, i64_w, i32_w]
              rfl
             refine take_ (i := 19) (N := some 57) (v := ?_) (a' := ?_) #[true, true, true, true, true, true, true, true, true, true, true, true, true, true, true, true, true, true, false, true, true, false, false, false, false, false, false, false, false, false, false, false, false, false, false, false, false, false, false, false, false, false, false, false, false, false, false, false, false, false, false, false, false, false, false, false, false, false] rfl rfl (take_ofW HT_.out HW_.out (by kernel_rfl)) (fun _ _ _ h => h) (Or.inl ⟨by rfl, ?_⟩) hHeld ?_ ?_
             rotate_left
             ·
              rintro w' ⟨s0, s1, s2⟩
              go_simp
              with_reducible rfl
             rotate_left
             ·
              simp only [Act.put, sT, sZ, sS, i64_w, i32_w]
              rfl
             refine one_ (i := 18) (N := some 56) #[true, true, true, true, true, true, true, true, true, true, true, true, true, true, true, true, true, true, true, true, true, false, false, false, false, false, false, false, false, false, false, false, false, false, false, false, false, false, false, false, false, false, false, false, false, false, false, false, false, false, false, false, false, false, false, false, false, false] rfl rfl (one_of HT_.out (by kernel_rfl)) (by decide) (fun K hK => ?_)
             refine goes_ Try.func13 (by kernel_rfl) rfl #[.agg #[.slice A339_0 ((rd_T28 y335 x34_2).f0).length c339_0, .slice A339_1 ((rd_T28 y335 x34_2).f1).length c339_1, .int .i64 ((rd_T28 y335 x34_2).f2)], .int .i64 a4] (by rfl) rfl rfl (by first | rfl | (simp only [List.map_toArray, List.map_cons, List.map_nil, List.length_drop, List.length_take]; try rfl)) ?_
             with_reducible refine (feeder_Path.calls k2 _ _ ((rd_T28 y335 x34_2).f0) _ _ ((rd_T28 y335 x34_2).f1) ((rd_T28 y335 x34_2).f2) a4 t350 _ ?side1 ?side2 ?side3 ?side4 A33.out).mono ?_
             (case side1 => repeat (first | exact ((Kd.V_reads' (V_mv HL339_0.out)).2.2) | (with_reducible refine Kd.C_alloc ?_ _) | (with_reducible refine Kd.C_drewN ?_ _) | (with_reducible refine Kd.C_drew ?_)))
             (case side2 => exact HC339_0.out)
             (case side3 => repeat (first | exact ((Kd.V_reads' (V_mv HL339_1.out)).2.2) | (with_reducible refine Kd.C_alloc ?_ _) | (with_reducible refine Kd.C_drewN ?_ _) | (with_reducible refine Kd.C_drew ?_)))
             (case side4 => exact HC339_1.out)
             rintro e w61 ⟨v351, rfl, ho0, hb⟩
             refine ⟨_, rfl, ?_⟩
             replace HO_32 := aM (Kd.N_elder' (N_mv HO_32.out) (Kd.R_base ho0) hb)
             replace HO_326000 := aM (Kd.V_elder' (V_mv HO_326000.out) (Kd.R_base ho0) hb)
             replace HO_326001 := aM (Kd.V_elder' (V_mv HO_326001.out) (Kd.R_base ho0) hb)
             replace HL339_0 := aM (Kd.V_elder' (V_mv HL339_0.out) (Kd.R_base ho0) hb)
             replace HL339_1 := aM (Kd.V_elder' (V_mv HL339_1.out) (Kd.R_base ho0) hb)
             have HO352 := aM (Kd.R_lower (Kd.R_new' (Kd.R_new' (Kd.R_newM (M := fun k_ => (w.heap.size ≤ k_)) ho0 (below_size (by repeat (first | (with_reducible first | exact HB.out | apply bA | apply bN | apply bD | refine below_set ?_ GE325.out | refine below_set ?_ GE340.out) | exact HB.out))) (fun k_ h_ => h_)) (Kd.R_lt (R_mv HO345.out))) (Kd.R_lt (R_mv HO348.out))) (below_size (by repeat (first | (with_reducible first | exact HB.out | apply bA | apply bN | apply bD | refine below_set ?_ GE325.out | refine below_set ?_ GE340.out) | exact HB.out))))
             replace HO345 := aM (Kd.R_elder' (R_mv HO345.out) (Kd.R_base ho0) hb)
             replace HO348 := aM (Kd.R_elder' (R_mv HO348.out) (Kd.R_base ho0) hb)
             replace BK325 := aM (blk_below (blk_mv BK325.out) hb)
             replace BK340 := aM (blk_below (blk_mv BK340.out) hb)
             replace HB := aM (below_step (by repeat (first | (with_reducible first | exact HB.out | apply bA | apply bN | apply bD | refine below_set ?_ GE325.out | refine below_set ?_ GE340.out) | exact HB.out)) hb)
             (try clear hb)
             (try clear hb2)
             (try clear hge)
             (try clear hk)
             (try clear hi)
             (try clear ho0)
             refine hK.out _ _ ⟨(blk_cell BK340.out 0).trans rfl, (blk_cell BK340.out 1).trans rfl, (blk_cell BK340.out 2).trans rfl⟩ (fun hHeld => ?_)
             clear hK K
             refine norm_ (a' := ?_) ?_ ?_
             rotate_left
             ·
              show Act.put _ (some 56) _ = _
              simp only [Act.put, sT, sZ, sS, i64_w, i32_w]
              rfl
             refine one_ (i := 21) (N := some 59) #[true, true, true, true, true, true, true, true, true, true, true, true, true, true, true, true, true, true, true, true, true, true, false, false, false, false, false, false, false, false, false, false, false, false, false, false, false, false, false, false, false, false, false, false, false, false, false, false, false, false, false, false, false, false, false, false, false, false] rfl rfl (one_of HT_.out (by kernel_rfl)) (by decide) (fun K hK => ?_)
             refine goes_ Try.func29 (by kernel_rfl) rfl #[.agg #[.slice A339_0 ((rd_T28 y335 x34_2).f0).length c339_0, .slice A339_1 ((rd_T28 y335 x34_2).f1).length c339_1, .int .i64 ((rd_T28 y335 x34_2).f2)], .int .i64 a4] (by rfl) rfl rfl (by first | rfl | (simp only [List.map_toArray, List.map_cons, List.map_nil, List.length_drop, List.length_take]; try rfl)) ?_
             with_reducible refine (minecontrolref18_Path.calls k2 _ _ ((rd_T28 y335 x34_2).f0) _ _ ((rd_T28 y335 x34_2).f1) ((rd_T28 y335 x34_2).f2) a4 t353 _ ?side1 ?side2 ?side3 ?side4 A34.out).mono ?_
             (case side1 => repeat (first | exact ((Kd.V_reads' (V_mv HL339_0.out)).2.2) | (with_reducible refine Kd.C_alloc ?_ _) | (with_reducible refine Kd.C_drewN ?_ _) | (with_reducible refine Kd.C_drew ?_)))
             (case side2 => exact HC339_0.out)
             (case side3 => repeat (first | exact ((Kd.V_reads' (V_mv HL339_1.out)).2.2) | (with_reducible refine Kd.C_alloc ?_ _) | (with_reducible refine Kd.C_drewN ?_ _) | (with_reducible refine Kd.C_drew ?_)))
             (case side4 => exact HC339_1.out)
             rintro e w62 ⟨v354, rfl, ho0, hb⟩
             refine ⟨_, rfl, ?_⟩
             replace HO_32 := aM (Kd.N_elder' (N_mv HO_32.out) (Kd.R_base ho0) hb)
             replace HO_326000 := aM (Kd.V_elder' (V_mv HO_326000.out) (Kd.R_base ho0) hb)
             replace HO_326001 := aM (Kd.V_elder' (V_mv HO_326001.out) (Kd.R_base ho0) hb)
             replace HL339_0 := aM (Kd.V_elder' (V_mv HL339_0.out) (Kd.R_base ho0) hb)
             replace HL339_1 := aM (Kd.V_elder' (V_mv HL339_1.out) (Kd.R_base ho0) hb)
             have HO355 := aM (Kd.R_lower (Kd.R_new' (Kd.R_new' (Kd.R_new' (Kd.R_newM (M := fun k_ => (w.heap.size ≤ k_)) ho0 (below_size (by repeat (first | (with_reducible first | exact HB.out | apply bA | apply bN | apply bD | refine below_set ?_ GE325.out | refine below_set ?_ GE340.out) | exact HB.out))) (fun k_ h_ => h_)) (Kd.R_lt (R_mv HO345.out))) (Kd.R_lt (R_mv HO348.out))) (Kd.R_lt (R_mv HO352.out))) (below_size (by repeat (first | (with_reducible first | exact HB.out | apply bA | apply bN | apply bD | refine below_set ?_ GE325.out | refine below_set ?_ GE340.out) | exact HB.out))))
             replace HO345 := aM (Kd.R_elder' (R_mv HO345.out) (Kd.R_base ho0) hb)
             replace HO348 := aM (Kd.R_elder' (R_mv HO348.out) (Kd.R_base ho0) hb)
             replace HO352 := aM (Kd.R_elder' (R_mv HO352.out) (Kd.R_base ho0) hb)
             replace BK325 := aM (blk_below (blk_mv BK325.out) hb)
             replace BK340 := aM (blk_below (blk_mv BK340.out) hb)
             replace HB := aM (below_step (by repeat (first | (with_reducible first | exact HB.out | apply bA | apply bN | apply bD | refine below_set ?_ GE325.out | refine below_set ?_ GE340.out) | exact HB.out)) hb)
             (try clear hb)
             (try clear hb2)
             (try clear hge)
             (try clear hk)
             (try clear hi)
             (try clear ho0)
             obtain ⟨Ao63, co63, eo63⟩ := Kd.R_slice HO352.out
             (first | subst eo63 | (injection eo63 with f1_ f2_ f3_; have f4_ := f1_.symm; have f5_ := f3_.symm; clear f1_ f2_ f3_; subst f4_; subst f5_))
             obtain ⟨Ao64, co64, eo64⟩ := Kd.R_slice HO355.out
             (first | subst eo64 | (injection eo64 with f1_ f2_ f3_; have f4_ := f1_.symm; have f5_ := f3_.symm; clear f1_ f2_ f3_; subst f4_; subst f5_))
             refine hK.out _ _ ⟨(blk_cell BK340.out 0).trans rfl, (blk_cell BK340.out 1).trans rfl, (blk_cell BK340.out 2).trans rfl⟩ (fun hHeld => ?_)
             clear hK K
             refine norm_ (a' := ?_) ?_ ?_
             rotate_left
             ·
              show Act.put _ (some 59) _ = _
              simp only [Act.put, sT, sZ, sS, i64_w, i32_w]
              rfl
             refine one_ (i := 22) (N := some 60) #[true, true, true, true, true, true, true, true, true, true, true, true, true, true, true, true, true, true, true, true, true, true, true, false, false, false, false, false, false, false, false, false, false, false, false, false, false, false, false, false, false, false, false, false, false, false, false, false, false, false, false, false, false, false, false, false, false, false] rfl rfl (one_of HT_.out (by kernel_rfl)) (by decide) (fun K hK => ?_)
             refine goes_ Try.func17 (by kernel_rfl) rfl #[.slice Ao63 t350.length co63, .slice Ao64 t353.length co64] (by rfl) rfl rfl (by first | rfl | (simp only [List.map_toArray, List.map_cons, List.map_nil, List.length_drop, List.length_take]; try rfl)) ?_
             with_reducible refine (minecontrolref01_Ints.calls k2 _ _ t350 _ _ t353 true _ ?side1 ?side2 ?side3 ?side4 A35.out).mono ?_
             (case side1 => repeat (first | exact (Kd.R_reads' HO352.out).2.2 | (with_reducible refine Kd.C_alloc ?_ _) | (with_reducible refine Kd.C_drewN ?_ _) | (with_reducible refine Kd.C_drew ?_)))
             (case side2 => exact (Kd.R_reads' HO352.out).2.1)
             (case side3 => repeat (first | exact (Kd.R_reads' HO355.out).2.2 | (with_reducible refine Kd.C_alloc ?_ _) | (with_reducible refine Kd.C_drewN ?_ _) | (with_reducible refine Kd.C_drew ?_)))
             (case side4 => exact (Kd.R_reads' HO355.out).2.1)
             rintro e w' ⟨rfl, ⟨nd, rfl⟩⟩
             refine ⟨_, rfl, ?_⟩
             refine hK.out _ _ ⟨(blk_cell BK340.out 0).trans rfl, (blk_cell BK340.out 1).trans rfl, (blk_cell BK340.out 2).trans rfl⟩ (fun hHeld => ?_)
             clear hK K
             refine norm_ (a' := ?_) ?_ ?_
             rotate_left
             ·
              show Act.put _ (some 60) _ = _
              simp only [Act.put, sT, sZ, sS, i64_w, i32_w]
              rfl
             refine pure_ (i := 23) (N := some 61) (v := ?_) (a' := ?_) #[true, true, true, true, true, true, true, true, true, true, true, true, true, true, true, true, true, true, true, true, true, true, true, true, false, false, false, false, false, false, false, false, false, false, false, false, false, false, false, false, false, false, false, false, false, false, false, false, false, false, false, false, false, false, false, false, false, false] rfl rfl (any_of HT_.out (by kernel_rfl)) (fun _ _ _ h => h) (Or.inl ⟨by rfl, ?_⟩) ?_ ?_
             rotate_left
             ·
              intro w'
              go_simp
              with_reducible rfl
             rotate_left
             ·
              simp only [Act.put, sT, sZ, sS, i64_w, i32_w]
              rfl
             refine pure_ (i := 24) (N := some 62) (v := ?_) (a' := ?_) #[true, true, true, true, true, true, true, true, true, true, true, true, true, true, true, true, true, true, true, true, true, true, true, true, true, false, false, false, false, false, false, false, false, false, false, false, false, false, false, false, false, false, false, false, false, false, false, false, false, false, false, false, false, false, false, false, false, false] rfl rfl (any_of HT_.out (by kernel_rfl)) (fun _ _ _ h => h) (Or.inl ⟨by rfl, ?_⟩) ?_ ?_
             rotate_left
             ·
              intro w'
              go_simp
              with_reducible rfl
             rotate_left
             ·
              simp only [Act.put, sT, sZ, sS, i64_w, i32_w]
              rfl
             refine pure_ (i := 25) (N := some 63) (v := ?_) (a' := ?_) #[true, true, true, true, true, true, true, true, true, true, true, true, true, true, true, true, true, true, true, true, true, true, true, true, true, true, false, false, false, false, false, false, false, false, false, false, false, false, false, false, false, false, false, false, false, false, false, false, false, false, false, false, false, false, false, false, false, false] rfl rfl (any_of HT_.out (by kernel_rfl)) (fun _ _ _ h => h) (Or.inl ⟨by rfl, ?_⟩) ?_ ?_
             rotate_left
             ·
              intro w'
              go_simp
              with_reducible rfl
             rotate_left
             ·
              simp only [Act.put, sT, sZ, sS, i64_w, i32_w]
              rfl
             refine pure_ (i := 27) (N := some 65) (v := ?_) (a' := ?_) #[true, true, true, true, true, true, true, true, true, true, true, true, true, true, true, true, true, true, true, true, true, true, true, true, true, true, false, true, false, false, false, false, false, false, false, false, false, false, false, false, false, false, false, false, false, false, false, false, false, false, false, false, false, false, false, false, false, false] rfl rfl (any_of HT_.out (by kernel_rfl)) (fun _ _ _ h => h) (Or.inl ⟨by rfl, ?_⟩) ?_ ?_
             rotate_left
             ·
              intro w'
              go_simp
              with_reducible rfl
             rotate_left
             ·
              simp only [Act.put, sT, sZ, sS, i64_w, i32_w]
              rfl
             refine pure_ (i := 30) (N := some 68) (v := ?_) (a' := ?_) #[true, true, true, true, true, true, true, true, true, true, true, true, true, true, true, true, true, true, true, true, true, true, true, true, true, true, false, true, false, false, true, false, false, false, false, false, false, false, false, false, false, false, false, false, false, false, false, false, false, false, false, false, false, false, false, false, false, false] rfl rfl (any_of HT_.out (by kernel_rfl)) (fun _ _ _ h => h) (Or.inl ⟨by rfl, ?_⟩) ?_ ?_
             rotate_left
             ·
              intro w'
              go_simp
              with_reducible rfl
             rotate_left
             ·
              simp only [Act.put, sT, sZ, sS, i64_w, i32_w]
              rfl
             refine take_ (i := 26) (N := some 64) (v := ?_) (a' := ?_) #[true, true, true, true, true, true, true, true, true, true, true, true, true, true, true, true, true, true, true, true, true, true, true, true, true, true, true, true, false, false, true, false, false, false, false, false, false, false, false, false, false, false, false, false, false, false, false, false, false, false, false, false, false, false, false, false, false, false] rfl rfl (take_ofW HT_.out HW_.out (by kernel_rfl)) (fun _ _ _ h => h) (Or.inl ⟨by rfl, ?_⟩) hHeld ?_ ?_
             rotate_left
             ·
              rintro w' ⟨s0, s1, s2⟩
              go_simp
              with_reducible rfl
             rotate_left
             ·
              simp only [Act.put, sT, sZ, sS, i64_w, i32_w]
              rfl
             refine take_ (i := 29) (N := some 67) (v := ?_) (a' := ?_) #[true, true, true, true, true, true, true, true, true, true, true, true, true, true, true, true, true, true, true, true, true, true, true, true, true, true, true, true, false, true, true, false, false, false, false, false, false, false, false, false, false, false, false, false, false, false, false, false, false, false, false, false, false, false, false, false, false, false] rfl rfl (take_ofW HT_.out HW_.out (by kernel_rfl)) (fun _ _ _ h => h) (Or.inl ⟨by rfl, ?_⟩) hHeld ?_ ?_
             rotate_left
             ·
              rintro w' ⟨s0, s1, s2⟩
              go_simp
              with_reducible rfl
             rotate_left
             ·
              simp only [Act.put, sT, sZ, sS, i64_w, i32_w]
              rfl
             refine one_ (i := 28) (N := some 66) #[true, true, true, true, true, true, true, true, true, true, true, true, true, true, true, true, true, true, true, true, true, true, true, true, true, true, true, true, true, true, true, false, false, false, false, false, false, false, false, false, false, false, false, false, false, false, false, false, false, false, false, false, false, false, false, false, false, false] rfl rfl (one_of HT_.out (by kernel_rfl)) (by decide) (fun K hK => ?_)
             refine goes_ Try.func19 (by kernel_rfl) rfl #[.agg #[.slice A339_0 ((rd_T28 y335 x34_2).f0).length c339_0, .slice A339_1 ((rd_T28 y335 x34_2).f1).length c339_1, .int .i64 ((rd_T28 y335 x34_2).f2)], .int .i64 t327] (by rfl) rfl rfl (by first | rfl | (simp only [List.map_toArray, List.map_cons, List.map_nil, List.length_drop, List.length_take]; try rfl)) ?_
             with_reducible refine (feeder_Live.calls k2 _ _ ((rd_T28 y335 x34_2).f0) _ _ ((rd_T28 y335 x34_2).f1) ((rd_T28 y335 x34_2).f2) t327 t357 _ ?side1 ?side2 ?side3 ?side4 A37.out).mono ?_
             (case side1 => repeat (first | exact ((Kd.V_reads' (V_mv HL339_0.out)).2.2) | (with_reducible refine Kd.C_alloc ?_ _) | (with_reducible refine Kd.C_drewN ?_ _) | (with_reducible refine Kd.C_drew ?_)))
             (case side2 => exact HC339_0.out)
             (case side3 => repeat (first | exact ((Kd.V_reads' (V_mv HL339_1.out)).2.2) | (with_reducible refine Kd.C_alloc ?_ _) | (with_reducible refine Kd.C_drewN ?_ _) | (with_reducible refine Kd.C_drew ?_)))
             (case side4 => exact HC339_1.out)
             rintro e w65 ⟨rfl, hb⟩
             refine ⟨_, rfl, ?_⟩
             replace HO_32 := aM (Kd.N_below (N_mv HO_32.out) hb)
             replace HO_326000 := aM (Kd.V_below (V_mv HO_326000.out) hb)
             replace HO_326001 := aM (Kd.V_below (V_mv HO_326001.out) hb)
             replace HL339_0 := aM (Kd.V_below (V_mv HL339_0.out) hb)
             replace HL339_1 := aM (Kd.V_below (V_mv HL339_1.out) hb)
             replace HO345 := aM (Kd.R_below (R_mv HO345.out) hb)
             replace HO348 := aM (Kd.R_below (R_mv HO348.out) hb)
             replace HO352 := aM (Kd.R_below (R_mv HO352.out) hb)
             replace HO355 := aM (Kd.R_below (R_mv HO355.out) hb)
             replace BK325 := aM (blk_below (blk_mv BK325.out) hb)
             replace BK340 := aM (blk_below (blk_mv BK340.out) hb)
             replace HB := aM (below_step (by repeat (first | (with_reducible first | exact HB.out | apply bA | apply bN | apply bD | refine below_set ?_ GE325.out | refine below_set ?_ GE340.out) | exact HB.out)) hb)
             (try clear hb)
             (try clear hb2)
             (try clear hge)
             (try clear hk)
             (try clear hi)
             refine hK.out _ _ ⟨(blk_cell BK340.out 0).trans rfl, (blk_cell BK340.out 1).trans rfl, (blk_cell BK340.out 2).trans rfl⟩ (fun hHeld => ?_)
             clear hK K
             refine norm_ (a' := ?_) ?_ ?_
             rotate_left
             ·
              show Act.put _ (some 66) _ = _
              simp only [Act.put, sT, sZ, sS, i64_w, i32_w]
              rfl
             refine one_ (i := 31) (N := some 69) #[true, true, true, true, true, true, true, true, true, true, true, true, true, true, true, true, true, true, true, true, true, true, true, true, true, true, true, true, true, true, true, true, false, false, false, false, false, false, false, false, false, false, false, false, false, false, false, false, false, false, false, false, false, false, false, false, false, false] rfl rfl (one_of HT_.out (by kernel_rfl)) (by decide) (fun K hK => ?_)
             refine goes_ Try.func30 (by kernel_rfl) rfl #[.agg #[.slice A339_0 ((rd_T28 y335 x34_2).f0).length c339_0, .slice A339_1 ((rd_T28 y335 x34_2).f1).length c339_1, .int .i64 ((rd_T28 y335 x34_2).f2)], .int .i64 t327] (by rfl) rfl rfl (by first | rfl | (simp only [List.map_toArray, List.map_cons, List.map_nil, List.length_drop, List.length_take]; try rfl)) ?_
             with_reducible refine (minecontrolref18_Live.calls k2 _ _ ((rd_T28 y335 x34_2).f0) _ _ ((rd_T28 y335 x34_2).f1) ((rd_T28 y335 x34_2).f2) t327 t358 _ ?side1 ?side2 ?side3 ?side4 A38.out).mono ?_
             (case side1 => repeat (first | exact ((Kd.V_reads' (V_mv HL339_0.out)).2.2) | (with_reducible refine Kd.C_alloc ?_ _) | (with_reducible refine Kd.C_drewN ?_ _) | (with_reducible refine Kd.C_drew ?_)))
             (case side2 => exact HC339_0.out)
             (case side3 => repeat (first | exact ((Kd.V_reads' (V_mv HL339_1.out)).2.2) | (with_reducible refine Kd.C_alloc ?_ _) | (with_reducible refine Kd.C_drewN ?_ _) | (with_reducible refine Kd.C_drew ?_)))
             (case side4 => exact HC339_1.out)
             rintro e w66 ⟨rfl, hb⟩
             refine ⟨_, rfl, ?_⟩
             replace HO_32 := aM (Kd.N_below (N_mv HO_32.out) hb)
             replace HO_326000 := aM (Kd.V_below (V_mv HO_326000.out) hb)
             replace HO_326001 := aM (Kd.V_below (V_mv HO_326001.out) hb)
             replace HL339_0 := aM (Kd.V_below (V_mv HL339_0.out) hb)
             replace HL339_1 := aM (Kd.V_below (V_mv HL339_1.out) hb)
             replace HO345 := aM (Kd.R_below (R_mv HO345.out) hb)
             replace HO348 := aM (Kd.R_below (R_mv HO348.out) hb)
             replace HO352 := aM (Kd.R_below (R_mv HO352.out) hb)
             replace HO355 := aM (Kd.R_below (R_mv HO355.out) hb)
             replace BK325 := aM (blk_below (blk_mv BK325.out) hb)
             replace BK340 := aM (blk_below (blk_mv BK340.out) hb)
             replace HB := aM (below_step (by repeat (first | (with_reducible first | exact HB.out | apply bA | apply bN | apply bD | refine below_set ?_ GE325.out | refine below_set ?_ GE340.out) | exact HB.out)) hb)
             (try clear hb)
             (try clear hb2)
             (try clear hge)
             (try clear hk)
             (try clear hi)
             refine hK.out _ _ ⟨(blk_cell BK340.out 0).trans rfl, (blk_cell BK340.out 1).trans rfl, (blk_cell BK340.out 2).trans rfl⟩ (fun hHeld => ?_)
             clear hK K
             refine norm_ (a' := ?_) ?_ ?_
             rotate_left
             ·
              show Act.put _ (some 69) _ = _
              simp only [Act.put, sT, sZ, sS, i64_w, i32_w]
              rfl
             refine pure_ (i := 32) (N := some 70) (v := ?_) (a' := ?_) #[true, true, true, true, true, true, true, true, true, true, true, true, true, true, true, true, true, true, true, true, true, true, true, true, true, true, true, true, true, true, true, true, true, false, false, false, false, false, false, false, false, false, false, false, false, false, false, false, false, false, false, false, false, false, false, false, false, false] rfl rfl (any_of HT_.out (by kernel_rfl)) (fun _ _ _ h => h) (Or.inl ⟨by rfl, ?_⟩) ?_ ?_
             rotate_left
             ·
              intro w'
              go_simp
              with_reducible rfl
             rotate_left
             ·
              simp only [Act.put, sT, sZ, sS, i64_w, i32_w]
              rfl
             refine pure_ (i := 33) (N := some 71) (v := ?_) (a' := ?_) #[true, true, true, true, true, true, true, true, true, true, true, true, true, true, true, true, true, true, true, true, true, true, true, true, true, true, true, true, true, true, true, true, true, true, false, false, false, false, false, false, false, false, false, false, false, false, false, false, false, false, false, false, false, false, false, false, false, false] rfl rfl (any_of HT_.out (by kernel_rfl)) (fun _ _ _ h => h) (Or.inl ⟨by rfl, ?_⟩) ?_ ?_
             rotate_left
             ·
              intro w'
              go_simp
              with_reducible rfl
             rotate_left
             ·
              simp only [Act.put, sT, sZ, sS, i64_w, i32_w]
              rfl
             refine pure_ (i := 34) (N := some 72) (v := ?_) (a' := ?_) #[true, true, true, true, true, true, true, true, true, true, true, true, true, true, true, true, true, true, true, true, true, true, true, true, true, true, true, true, true, true, true, true, true, true, true, false, false, false, false, false, false, false, false, false, false, false, false, false, false, false, false, false, false, false, false, false, false, false] rfl rfl (any_of HT_.out (by kernel_rfl)) (fun _ _ _ h => h) (Or.inl ⟨by rfl, ?_⟩) ?_ ?_
             rotate_left
             ·
              intro w'
              go_simp
              with_reducible rfl
             rotate_left
             ·
              simp only [Act.put, sT, sZ, sS, i64_w, i32_w]
              rfl
             refine pure_ (i := 36) (N := some 74) (v := ?_) (a' := ?_) #[true, true, true, true, true, true, true, true, true, true, true, true, true, true, true, true, true, true, true, true, true, true, true, true, true, true, true, true, true, true, true, true, true, true, true, false, true, false, false, false, false, false, false, false, false, false, false, false, false, false, false, false, false, false, false, false, false, false] rfl rfl (any_of HT_.out (by kernel_rfl)) (fun _ _ _ h => h) (Or.inl ⟨by rfl, ?_⟩) ?_ ?_
             rotate_left
             ·
              intro w'
              go_simp
              with_reducible rfl
             rotate_left
             ·
              simp only [Act.put, sT, sZ, sS, i64_w, i32_w]
              rfl
             refine pure_ (i := 39) (N := some 77) (v := ?_) (a' := ?_) #[true, true, true, true, true, true, true, true, true, true, true, true, true, true, true, true, true, true, true, true, true, true, true, true, true, true, true, true, true, true, true, true, true, true, true, false, true, false, false, true, false, false, false, false, false, false, false, false, false, false, false, false, false, false, false, false, false, false] rfl rfl (any_of HT_.out (by kernel_rfl)) (fun _ _ _ h => h) (Or.inl ⟨by rfl, ?_⟩) ?_ ?_
             rotate_left
             ·
              intro w'
              go_simp
              with_reducible rfl
             rotate_left
             ·
              simp only [Act.put, sT, sZ, sS, i64_w, i32_w]
              rfl
             refine take_ (i := 35) (N := some 73) (v := ?_) (a' := ?_) #[true, true, true, true, true, true, true, true, true, true, true, true, true, true, true, true, true, true, true, true, true, true, true, true, true, true, true, true, true, true, true, true, true, true, true, true, true, false, false, true, false, false, false, false, false, false, false, false, false, false, false, false, false, false, false, false, false, false] rfl rfl (take_ofW HT_.out HW_.out (by kernel_rfl)) (fun _ _ _ h => h) (Or.inl ⟨by rfl, ?_⟩) hHeld ?_ ?_
             rotate_left
             ·
              rintro w' ⟨s0, s1, s2⟩
              go_simp
              with_reducible rfl
             rotate_left
             ·
              simp only [Act.put, sT, sZ, sS, i64_w, i32_w]
              rfl
             refine take_ (i := 38) (N := some 76) (v := ?_) (a' := ?_) #[true, true, true, true, true, true, true, true, true, true, true, true, true, true, true, true, true, true, true, true, true, true, true, true, true, true, true, true, true, true, true, true, true, true, true, true, true, false, true, true, false, false, false, false, false, false, false, false, false, false, false, false, false, false, false, false, false, false] rfl rfl (take_ofW HT_.out HW_.out (by kernel_rfl)) (fun _ _ _ h => h) (Or.inl ⟨by rfl, ?_⟩) hHeld ?_ ?_
             rotate_left
             ·
              rintro w' ⟨s0, s1, s2⟩
              go_simp
              with_reducible rfl
             rotate_left
             ·
              simp only [Act.put, sT, sZ, sS, i64_w, i32_w]
              rfl
             refine one_ (i := 37) (N := some 75) #[true, true, true, true, true, true, true, true, true, true, true, true, true, true, true, true, true, true, true, true, true, true, true, true, true, true, true, true, true, true, true, true, true, true, true, true, true, true, true, true, false, false, false, false, false, false, false, false, false, false, false, false, false, false, false, false, false, false] rfl rfl (one_of HT_.out (by kernel_rfl)) (by decide) (fun K hK => ?_)
             refine goes_ Try.func19 (by kernel_rfl) rfl #[.agg #[.slice A339_0 ((rd_T28 y335 x34_2).f0).length c339_0, .slice A339_1 ((rd_T28 y335 x34_2).f1).length c339_1, .int .i64 ((rd_T28 y335 x34_2).f2)], .int .i64 a4] (by rfl) rfl rfl (by first | rfl | (simp only [List.map_toArray, List.map_cons, List.map_nil, List.length_drop, List.length_take]; try rfl)) ?_
             with_reducible refine (feeder_Live.calls k2 _ _ ((rd_T28 y335 x34_2).f0) _ _ ((rd_T28 y335 x34_2).f1) ((rd_T28 y335 x34_2).f2) a4 t359 _ ?side1 ?side2 ?side3 ?side4 A40.out).mono ?_
             (case side1 => repeat (first | exact ((Kd.V_reads' (V_mv HL339_0.out)).2.2) | (with_reducible refine Kd.C_alloc ?_ _) | (with_reducible refine Kd.C_drewN ?_ _) | (with_reducible refine Kd.C_drew ?_)))
             (case side2 => exact HC339_0.out)
             (case side3 => repeat (first | exact ((Kd.V_reads' (V_mv HL339_1.out)).2.2) | (with_reducible refine Kd.C_alloc ?_ _) | (with_reducible refine Kd.C_drewN ?_ _) | (with_reducible refine Kd.C_drew ?_)))
             (case side4 => exact HC339_1.out)
             rintro e w67 ⟨rfl, hb⟩
             refine ⟨_, rfl, ?_⟩
             replace HO_32 := aM (Kd.N_below (N_mv HO_32.out) hb)
             replace HO_326000 := aM (Kd.V_below (V_mv HO_326000.out) hb)
             replace HO_326001 := aM (Kd.V_below (V_mv HO_326001.out) hb)
             replace HL339_0 := aM (Kd.V_below (V_mv HL339_0.out) hb)
             replace HL339_1 := aM (Kd.V_below (V_mv HL339_1.out) hb)
             replace HO345 := aM (Kd.R_below (R_mv HO345.out) hb)
             replace HO348 := aM (Kd.R_below (R_mv HO348.out) hb)
             replace HO352 := aM (Kd.R_below (R_mv HO352.out) hb)
             replace HO355 := aM (Kd.R_below (R_mv HO355.out) hb)
             replace BK325 := aM (blk_below (blk_mv BK325.out) hb)
             replace BK340 := aM (blk_below (blk_mv BK340.out) hb)
             replace HB := aM (below_step (by repeat (first | (with_reducible first | exact HB.out | apply bA | apply bN | apply bD | refine below_set ?_ GE325.out | refine below_set ?_ GE340.out) | exact HB.out)) hb)
             (try clear hb)
             (try clear hb2)
             (try clear hge)
             (try clear hk)
             (try clear hi)
             refine hK.out _ _ ⟨(blk_cell BK340.out 0).trans rfl, (blk_cell BK340.out 1).trans rfl, (blk_cell BK340.out 2).trans rfl⟩ (fun hHeld => ?_)
             clear hK K
             refine norm_ (a' := ?_) ?_ ?_
             rotate_left
             ·
              show Act.put _ (some 75) _ = _
              simp only [Act.put, sT, sZ, sS, i64_w, i32_w]
              rfl
             refine one_ (i := 40) (N := some 78) #[true, true, true, true, true, true, true, true, true, true, true, true, true, true, true, true, true, true, true, true, true, true, true, true, true, true, true, true, true, true, true, true, true, true, true, true, true, true, true, true, true, false, false, false, false, false, false, false, false, false, false, false, false, false, false, false, false, false] rfl rfl (one_of HT_.out (by kernel_rfl)) (by decide) (fun K hK => ?_)
             refine goes_ Try.func30 (by kernel_rfl) rfl #[.agg #[.slice A339_0 ((rd_T28 y335 x34_2).f0).length c339_0, .slice A339_1 ((rd_T28 y335 x34_2).f1).length c339_1, .int .i64 ((rd_T28 y335 x34_2).f2)], .int .i64 a4] (by rfl) rfl rfl (by first | rfl | (simp only [List.map_toArray, List.map_cons, List.map_nil, List.length_drop, List.length_take]; try rfl)) ?_
             with_reducible refine (minecontrolref18_Live.calls k2 _ _ ((rd_T28 y335 x34_2).f0) _ _ ((rd_T28 y335 x34_2).f1) ((rd_T28 y335 x34_2).f2) a4 t360 _ ?side1 ?side2 ?side3 ?side4 A41.out).mono ?_
             (case side1 => repeat (first | exact ((Kd.V_reads' (V_mv HL339_0.out)).2.2) | (with_reducible refine Kd.C_alloc ?_ _) | (with_reducible refine Kd.C_drewN ?_ _) | (with_reducible refine Kd.C_drew ?_)))
             (case side2 => exact HC339_0.out)
             (case side3 => repeat (first | exact ((Kd.V_reads' (V_mv HL339_1.out)).2.2) | (with_reducible refine Kd.C_alloc ?_ _) | (with_reducible refine Kd.C_drewN ?_ _) | (with_reducible refine Kd.C_drew ?_)))
             (case side4 => exact HC339_1.out)
             rintro e w68 ⟨rfl, hb⟩
             refine ⟨_, rfl, ?_⟩
             replace HO_32 := aM (Kd.N_below (N_mv HO_32.out) hb)
             replace HO_326000 := aM (Kd.V_below (V_mv HO_326000.out) hb)
             replace HO_326001 := aM (Kd.V_below (V_mv HO_326001.out) hb)
             replace HL339_0 := aM (Kd.V_below (V_mv HL339_0.out) hb)
             replace HL339_1 := aM (Kd.V_below (V_mv HL339_1.out) hb)
             replace HO345 := aM (Kd.R_below (R_mv HO345.out) hb)
             replace HO348 := aM (Kd.R_below (R_mv HO348.out) hb)
             replace HO352 := aM (Kd.R_below (R_mv HO352.out) hb)
             replace HO355 := aM (Kd.R_below (R_mv HO355.out) hb)
             replace BK325 := aM (blk_below (blk_mv BK325.out) hb)
             replace BK340 := aM (blk_below (blk_mv BK340.out) hb)
             replace HB := aM (below_step (by repeat (first | (with_reducible first | exact HB.out | apply bA | apply bN | apply bD | refine below_set ?_ GE325.out | refine below_set ?_ GE340.out) | exact HB.out)) hb)
             (try clear hb)
             (try clear hb2)
             (try clear hge)
             (try clear hk)
             (try clear hi)
             refine hK.out _ _ ⟨(blk_cell BK340.out 0).trans rfl, (blk_cell BK340.out 1).trans rfl, (blk_cell BK340.out 2).trans rfl⟩ (fun hHeld => ?_)
             clear hK K
             refine norm_ (a' := ?_) ?_ ?_
             rotate_left
             ·
              show Act.put _ (some 78) _ = _
              simp only [Act.put, sT, sZ, sS, i64_w, i32_w]
              rfl
             refine pure_ (i := 41) (N := some 79) (v := ?_) (a' := ?_) #[true, true, true, true, true, true, true, true, true, true, true, true, true, true, true, true, true, true, true, true, true, true, true, true, true, true, true, true, true, true, true, true, true, true, true, true, true, true, true, true, true, true, false, false, false, false, false, false, false, false, false, false, false, false, false, false, false, false] rfl rfl (any_of HT_.out (by kernel_rfl)) (fun _ _ _ h => h) (Or.inl ⟨by rfl, ?_⟩) ?_ ?_
             rotate_left
             ·
              intro w'
              go_simp
              with_reducible rfl
             rotate_left
             ·
              simp only [Act.put, sT, sZ, sS, i64_w, i32_w]
              rfl
             refine pure_ (i := 42) (N := some 80) (v := ?_) (a' := ?_) #[true, true, true, true, true, true, true, true, true, true, true, true, true, true, true, true, true, true, true, true, true, true, true, true, true, true, true, true, true, true, true, true, true, true, true, true, true, true, true, true, true, true, true, false, false, false, false, false, false, false, false, false, false, false, false, false, false, false] rfl rfl (any_of HT_.out (by kernel_rfl)) (fun _ _ _ h => h) (Or.inl ⟨by rfl, ?_⟩) ?_ ?_
             rotate_left
             ·
              intro w'
              go_simp
              with_reducible rfl
             rotate_left
             ·
              simp only [Act.put, sT, sZ, sS, i64_w, i32_w]
              rfl
             refine pure_ (i := 43) (N := some 81) (v := ?_) (a' := ?_) #[true, true, true, true, true, true, true, true, true, true, true, true, true, true, true, true, true, true, true, true, true, true, true, true, true, true, true, true, true, true, true, true, true, true, true, true, true, true, true, true, true, true, true, true, false, false, false, false, false, false, false, false, false, false, false, false, false, false] rfl rfl (any_of HT_.out (by kernel_rfl)) (fun _ _ _ h => h) (Or.inl ⟨by rfl, ?_⟩) ?_ ?_
             rotate_left
             ·
              intro w'
              go_simp
              with_reducible rfl
             rotate_left
             ·
              simp only [Act.put, sT, sZ, sS, i64_w, i32_w]
              rfl
             refine take_ (i := 44) (N := some 82) (v := ?_) (a' := ?_) #[true, true, true, true, true, true, true, true, true, true, true, true, true, true, true, true, true, true, true, true, true, true, true, true, true, true, true, true, true, true, true, true, true, true, true, true, true, true, true, true, true, true, true, true, true, false, false, false, false, false, false, false, false, false, false, false, false, false] rfl rfl (take_ofW HT_.out HW_.out (by kernel_rfl)) (fun _ _ _ h => h) (Or.inl ⟨by rfl, ?_⟩) hHeld ?_ ?_
             rotate_left
             ·
              rintro w' ⟨s0, s1, s2⟩
              go_simp
              with_reducible rfl
             rotate_left
             ·
              simp only [Act.put, sT, sZ, sS, i64_w, i32_w]
              rfl
             refine take_ (i := 46) (N := some 84) (v := ?_) (a' := ?_) #[true, true, true, true, true, true, true, true, true, true, true, true, true, true, true, true, true, true, true, true, true, true, true, true, true, true, true, true, true, true, true, true, true, true, true, true, true, true, true, true, true, true, true, true, true, false, true, false, false, false, false, false, false, false, false, false, false, false] rfl rfl (take_ofW HT_.out HW_.out (by kernel_rfl)) (fun _ _ _ h => h) (Or.inl ⟨by rfl, ?_⟩) hHeld ?_ ?_
             rotate_left
             ·
              rintro w' ⟨s0, s1, s2⟩
              go_simp
              with_reducible rfl
             rotate_left
             ·
              simp only [Act.put, sT, sZ, sS, i64_w, i32_w]
              rfl
             refine one_ (i := 45) (N := some 83) #[true, true, true, true, true, true, true, true, true, true, true, true, true, true, true, true, true, true, true, true, true, true, true, true, true, true, true, true, true, true, true, true, true, true, true, true, true, true, true, true, true, true, true, true, true, true, true, false, false, false, false, false, false, false, false, false, false, false] rfl rfl (one_of HT_.out (by kernel_rfl)) (by decide) (fun K hK => ?_)
             refine goes_ Try.func15 (by kernel_rfl) rfl #[.agg #[.slice A339_0 ((rd_T28 y335 x34_2).f0).length c339_0, .slice A339_1 ((rd_T28 y335 x34_2).f1).length c339_1, .int .i64 ((rd_T28 y335 x34_2).f2)]] (by rfl) rfl rfl (by first | rfl | (simp only [List.map_toArray, List.map_cons, List.map_nil, List.length_drop, List.length_take]; try rfl)) ?_
             with_reducible refine (feeder_Due.calls k2 _ _ ((rd_T28 y335 x34_2).f0) _ _ ((rd_T28 y335 x34_2).f1) ((rd_T28 y335 x34_2).f2) t361 _ ?side1 ?side2 ?side3 ?side4 A43.out).mono ?_
             (case side1 => repeat (first | exact ((Kd.V_reads' (V_mv HL339_0.out)).2.2) | (with_reducible refine Kd.C_alloc ?_ _) | (with_reducible refine Kd.C_drewN ?_ _) | (with_reducible refine Kd.C_drew ?_)))
             (case side2 => exact HC339_0.out)
             (case side3 => repeat (first | exact ((Kd.V_reads' (V_mv HL339_1.out)).2.2) | (with_reducible refine Kd.C_alloc ?_ _) | (with_reducible refine Kd.C_drewN ?_ _) | (with_reducible refine Kd.C_drew ?_)))
             (case side4 => exact HC339_1.out)
             rintro e w69 ⟨rfl, hb⟩
             refine ⟨_, rfl, ?_⟩
             replace HO_32 := aM (Kd.N_below (N_mv HO_32.out) hb)
             replace HO_326000 := aM (Kd.V_below (V_mv HO_326000.out) hb)
             replace HO_326001 := aM (Kd.V_below (V_mv HO_326001.out) hb)
             replace HL339_0 := aM (Kd.V_below (V_mv HL339_0.out) hb)
             replace HL339_1 := aM (Kd.V_below (V_mv HL339_1.out) hb)
             replace HO345 := aM (Kd.R_below (R_mv HO345.out) hb)
             replace HO348 := aM (Kd.R_below (R_mv HO348.out) hb)
             replace HO352 := aM (Kd.R_below (R_mv HO352.out) hb)
             replace HO355 := aM (Kd.R_below (R_mv HO355.out) hb)
             replace BK325 := aM (blk_below (blk_mv BK325.out) hb)
             replace BK340 := aM (blk_below (blk_mv BK340.out) hb)
             replace HB := aM (below_step (by repeat (first | (with_reducible first | exact HB.out | apply bA | apply bN | apply bD | refine below_set ?_ GE325.out | refine below_set ?_ GE340.out) | exact HB.out)) hb)
             (try clear hb)
             (try clear hb2)
             (try clear hge)
             (try clear hk)
             (try clear hi)
             refine hK.out _ _ ⟨(blk_cell BK340.out 0).trans rfl, (blk_cell BK340.out 1).trans rfl, (blk_cell BK340.out 2).trans rfl⟩ (fun hHeld => ?_)
             clear hK K
             refine norm_ (a' := ?_) ?_ ?_
             rotate_left
             ·
              show Act.put _ (some 83) _ = _
              simp only [Act.put, sT, sZ, sS, i64_w, i32_w]
              rfl
             refine one_ (i := 47) (N := some 85) #[true, true, true, true, true, true, true, true, true, true, true, true, true, true, true, true, true, true, true, true, true, true, true, true, true, true, true, true, true, true, true, true, true, true, true, true, true, true, true, true, true, true, true, true, true, true, true, true, false, false, false, false, false, false, false, false, false, false] rfl rfl (one_of HT_.out (by kernel_rfl)) (by decide) (fun K hK => ?_)
             refine goes_ Try.func31 (by kernel_rfl) rfl #[.agg #[.slice A339_0 ((rd_T28 y335 x34_2).f0).length c339_0, .slice A339_1 ((rd_T28 y335 x34_2).f1).length c339_1, .int .i64 ((rd_T28 y335 x34_2).f2)]] (by rfl) rfl rfl (by first | rfl | (simp only [List.map_toArray, List.map_cons, List.map_nil, List.length_drop, List.length_take]; try rfl)) ?_
             with_reducible refine (minecontrolref18_Due.calls k2 _ _ ((rd_T28 y335 x34_2).f0) _ _ ((rd_T28 y335 x34_2).f1) ((rd_T28 y335 x34_2).f2) t362 _ ?side1 ?side2 ?side3 ?side4 A44.out).mono ?_
             (case side1 => repeat (first | exact ((Kd.V_reads' (V_mv HL339_0.out)).2.2) | (with_reducible refine Kd.C_alloc ?_ _) | (with_reducible refine Kd.C_drewN ?_ _) | (with_reducible refine Kd.C_drew ?_)))
             (case side2 => exact HC339_0.out)
             (case side3 => repeat (first | exact ((Kd.V_reads' (V_mv HL339_1.out)).2.2) | (with_reducible refine Kd.C_alloc ?_ _) | (with_reducible refine Kd.C_drewN ?_ _) | (with_reducible refine Kd.C_drew ?_)))
             (case side4 => exact HC339_1.out)
             rintro e w70 ⟨rfl, hb⟩
             refine ⟨_, rfl, ?_⟩
             replace HO_32 := aM (Kd.N_below (N_mv HO_32.out) hb)
             replace HO_326000 := aM (Kd.V_below (V_mv HO_326000.out) hb)
             replace HO_326001 := aM (Kd.V_below (V_mv HO_326001.out) hb)
             replace HL339_0 := aM (Kd.V_below (V_mv HL339_0.out) hb)
             replace HL339_1 := aM (Kd.V_below (V_mv HL339_1.out) hb)
             replace HO345 := aM (Kd.R_below (R_mv HO345.out) hb)
             replace HO348 := aM (Kd.R_below (R_mv HO348.out) hb)
             replace HO352 := aM (Kd.R_below (R_mv HO352.out) hb)
             replace HO355 := aM (Kd.R_below (R_mv HO355.out) hb)
             replace BK325 := aM (blk_below (blk_mv BK325.out) hb)
             replace BK340 := aM (blk_below (blk_mv BK340.out) hb)
             replace HB := aM (below_step (by repeat (first | (with_reducible first | exact HB.out | apply bA | apply bN | apply bD | refine below_set ?_ GE325.out | refine below_set ?_ GE340.out) | exact HB.out)) hb)
             (try clear hb)
             (try clear hb2)
             (try clear hge)
             (try clear hk)
             (try clear hi)
             refine hK.out _ _ ⟨(blk_cell BK340.out 0).trans rfl, (blk_cell BK340.out 1).trans rfl, (blk_cell BK340.out 2).trans rfl⟩ (fun hHeld => ?_)
             clear hK K
             refine norm_ (a' := ?_) ?_ ?_
             rotate_left
             ·
              show Act.put _ (some 85) _ = _
              simp only [Act.put, sT, sZ, sS, i64_w, i32_w]
              rfl
             refine pure_ (i := 48) (N := some 86) (v := ?_) (a' := ?_) #[true, true, true, true, true, true, true, true, true, true, true, true, true, true, true, true, true, true, true, true, true, true, true, true, true, true, true, true, true, true, true, true, true, true, true, true, true, true, true, true, true, true, true, true, true, true, true, true, true, false, false, false, false, false, false, false, false, false] rfl rfl (any_of HT_.out (by kernel_rfl)) (fun _ _ _ h => h) (Or.inl ⟨by rfl, ?_⟩) ?_ ?_
             rotate_left
             ·
              intro w'
              go_simp
              with_reducible rfl
             rotate_left
             ·
              simp only [Act.put, sT, sZ, sS, i64_w, i32_w]
              rfl
             refine pure_ (i := 49) (N := some 87) (v := ?_) (a' := ?_) #[true, true, true, true, true, true, true, true, true, true, true, true, true, true, true, true, true, true, true, true, true, true, true, true, true, true, true, true, true, true, true, true, true, true, true, true, true, true, true, true, true, true, true, true, true, true, true, true, true, true, false, false, false, false, false, false, false, false] rfl rfl (any_of HT_.out (by kernel_rfl)) (fun _ _ _ h => h) (Or.inl ⟨by rfl, ?_⟩) ?_ ?_
             rotate_left
             ·
              intro w'
              go_simp
              with_reducible rfl
             rotate_left
             ·
              simp only [Act.put, sT, sZ, sS, i64_w, i32_w]
              rfl
             refine pure_ (i := 50) (N := some 88) (v := ?_) (a' := ?_) #[true, true, true, true, true, true, true, true, true, true, true, true, true, true, true, true, true, true, true, true, true, true, true, true, true, true, true, true, true, true, true, true, true, true, true, true, true, true, true, true, true, true, true, true, true, true, true, true, true, true, true, false, false, false, false, false, false, false] rfl rfl (any_of HT_.out (by kernel_rfl)) (fun _ _ _ h => h) (Or.inl ⟨by rfl, ?_⟩) ?_ ?_
             rotate_left
             ·
              intro w'
              go_simp
              with_reducible rfl
             rotate_left
             ·
              simp only [Act.put, sT, sZ, sS, i64_w, i32_w]
              rfl
             refine take_ (i := 51) (N := some 89) (v := ?_) (a' := ?_) #[true, true, true, true, true, true, true, true, true, true, true, true, true, true, true, true, true, true, true, true, true, true, true, true, true, true, true, true, true, true, true, true, true, true, true, true, true, true, true, true, true, true, true, true, true, true, true, true, true, true, true, true, false, false, false, false, false, false] rfl rfl (take_ofW HT_.out HW_.out (by kernel_rfl)) (fun _ _ _ h => h) (Or.inl ⟨by rfl, ?_⟩) hHeld ?_ ?_
             rotate_left
             ·
              rintro w' ⟨s0, s1, s2⟩
              go_simp
              with_reducible rfl
             rotate_left
             ·
              simp only [Act.put, sT, sZ, sS, i64_w, i32_w]
              rfl
             refine take_ (i := 53) (N := some 91) (v := ?_) (a' := ?_) #[true, true, true, true, true, true, true, true, true, true, true, true, true, true, true, true, true, true, true, true, true, true, true, true, true, true, true, true, true, true, true, true, true, true, true, true, true, true, true, true, true, true, true, true, true, true, true, true, true, true, true, true, false, true, false, false, false, false] rfl rfl (take_ofW HT_.out HW_.out (by kernel_rfl)) (fun _ _ _ h => h) (Or.inl ⟨by rfl, ?_⟩) hHeld ?_ ?_
             rotate_left
             ·
              rintro w' ⟨s0, s1, s2⟩
              go_simp
              with_reducible rfl
             rotate_left
             ·
              simp only [Act.put, sT, sZ, sS, i64_w, i32_w]
              rfl
             refine one_ (i := 52) (N := some 90) #[true, true, true, true, true, true, true, true, true, true, true, true, true, true, true, true, true, true, true, true, true, true, true, true, true, true, true, true, true, true, true, true, true, true, true, true, true, true, true, true, true, true, true, true, true, true, true, true, true, true, true, true, true, true, false, false, false, false] rfl rfl (one_of HT_.out (by kernel_rfl)) (by decide) (fun K hK => ?_)
             refine goes_ Try.func18 (by kernel_rfl) rfl #[.agg #[.slice A339_0 ((rd_T28 y335 x34_2).f0).length c339_0, .slice A339_1 ((rd_T28 y335 x34_2).f1).length c339_1, .int .i64 ((rd_T28 y335 x34_2).f2)]] (by rfl) rfl rfl (by first | rfl | (simp only [List.map_toArray, List.map_cons, List.map_nil, List.length_drop, List.length_take]; try rfl)) ?_
             with_reducible refine (feeder_Failed.calls k2 _ _ ((rd_T28 y335 x34_2).f0) _ _ ((rd_T28 y335 x34_2).f1) ((rd_T28 y335 x34_2).f2) t363 _ ?side1 ?side2 ?side3 ?side4 A46.out).mono ?_
             (case side1 => repeat (first | exact ((Kd.V_reads' (V_mv HL339_0.out)).2.2) | (with_reducible refine Kd.C_alloc ?_ _) | (with_reducible refine Kd.C_drewN ?_ _) | (with_reducible refine Kd.C_drew ?_)))
             (case side2 => exact HC339_0.out)
             (case side3 => repeat (first | exact ((Kd.V_reads' (V_mv HL339_1.out)).2.2) | (with_reducible refine Kd.C_alloc ?_ _) | (with_reducible refine Kd.C_drewN ?_ _) | (with_reducible refine Kd.C_drew ?_)))
             (case side4 => exact HC339_1.out)
             rintro e w71 ⟨v364, rfl, ho0, hb⟩
             refine ⟨_, rfl, ?_⟩
             replace HO_32 := aM (Kd.N_elder' (N_mv HO_32.out) (Kd.R_base ho0) hb)
             replace HO_326000 := aM (Kd.V_elder' (V_mv HO_326000.out) (Kd.R_base ho0) hb)
             replace HO_326001 := aM (Kd.V_elder' (V_mv HO_326001.out) (Kd.R_base ho0) hb)
             replace HL339_0 := aM (Kd.V_elder' (V_mv HL339_0.out) (Kd.R_base ho0) hb)
             replace HL339_1 := aM (Kd.V_elder' (V_mv HL339_1.out) (Kd.R_base ho0) hb)
             have HO365 := aM (Kd.R_lower (Kd.R_new' (Kd.R_new' (Kd.R_new' (Kd.R_new' (Kd.R_newM (M := fun k_ => (w.heap.size ≤ k_)) ho0 (below_size (by repeat (first | (with_reducible first | exact HB.out | apply bA | apply bN | apply bD | refine below_set ?_ GE325.out | refine below_set ?_ GE340.out) | exact HB.out))) (fun k_ h_ => h_)) (Kd.R_lt (R_mv HO345.out))) (Kd.R_lt (R_mv HO348.out))) (Kd.R_lt (R_mv HO352.out))) (Kd.R_lt (R_mv HO355.out))) (below_size (by repeat (first | (with_reducible first | exact HB.out | apply bA | apply bN | apply bD | refine below_set ?_ GE325.out | refine below_set ?_ GE340.out) | exact HB.out))))
             replace HO345 := aM (Kd.R_elder' (R_mv HO345.out) (Kd.R_base ho0) hb)
             replace HO348 := aM (Kd.R_elder' (R_mv HO348.out) (Kd.R_base ho0) hb)
             replace HO352 := aM (Kd.R_elder' (R_mv HO352.out) (Kd.R_base ho0) hb)
             replace HO355 := aM (Kd.R_elder' (R_mv HO355.out) (Kd.R_base ho0) hb)
             replace BK325 := aM (blk_below (blk_mv BK325.out) hb)
             replace BK340 := aM (blk_below (blk_mv BK340.out) hb)
             replace HB := aM (below_step (by repeat (first | (with_reducible first | exact HB.out | apply bA | apply bN | apply bD | refine below_set ?_ GE325.out | refine below_set ?_ GE340.out) | exact HB.out)) hb)
             (try clear hb)
             (try clear hb2)
             (try clear hge)
             (try clear hk)
             (try clear hi)
             (try clear ho0)
             refine hK.out _ _ ⟨(blk_cell BK340.out 0).trans rfl, (blk_cell BK340.out 1).trans rfl, (blk_cell BK340.out 2).trans rfl⟩ (fun hHeld => ?_)
             clear hK K
             refine norm_ (a' := ?_) ?_ ?_
             rotate_left
             ·
              show Act.put _ (some 90) _ = _
              simp only [Act.put, sT, sZ, sS, i64_w, i32_w]
              rfl
             refine one_ (i := 54) (N := some 92) #[true, true, true, true, true, true, true, true, true, true, true, true, true, true, true, true, true, true, true, true, true, true, true, true, true, true, true, true, true, true, true, true, true, true, true, true, true, true, true, true, true, true, true, true, true, true, true, true, true, true, true, true, true, true, true, false, false, false] rfl rfl (one_of HT_.out (by kernel_rfl)) (by decide) (fun K hK => ?_)
             refine goes_ Try.func32 (by kernel_rfl) rfl #[.agg #[.slice A339_0 ((rd_T28 y335 x34_2).f0).length c339_0, .slice A339_1 ((rd_T28 y335 x34_2).f1).length c339_1, .int .i64 ((rd_T28 y335 x34_2).f2)]] (by rfl) rfl rfl (by first | rfl | (simp only [List.map_toArray, List.map_cons, List.map_nil, List.length_drop, List.length_take]; try rfl)) ?_
             with_reducible refine (minecontrolref18_Failed.calls k2 _ _ ((rd_T28 y335 x34_2).f0) _ _ ((rd_T28 y335 x34_2).f1) ((rd_T28 y335 x34_2).f2) t366 _ ?side1 ?side2 ?side3 ?side4 A47.out).mono ?_
             (case side1 => repeat (first | exact ((Kd.V_reads' (V_mv HL339_0.out)).2.2) | (with_reducible refine Kd.C_alloc ?_ _) | (with_reducible refine Kd.C_drewN ?_ _) | (with_reducible refine Kd.C_drew ?_)))
             (case side2 => exact HC339_0.out)
             (case side3 => repeat (first | exact ((Kd.V_reads' (V_mv HL339_1.out)).2.2) | (with_reducible refine Kd.C_alloc ?_ _) | (with_reducible refine Kd.C_drewN ?_ _) | (with_reducible refine Kd.C_drew ?_)))
             (case side4 => exact HC339_1.out)
             rintro e w72 ⟨v367, rfl, ho0, hb⟩
             refine ⟨_, rfl, ?_⟩
             replace HO_32 := aM (Kd.N_elder' (N_mv HO_32.out) (Kd.R_base ho0) hb)
             replace HO_326000 := aM (Kd.V_elder' (V_mv HO_326000.out) (Kd.R_base ho0) hb)
             replace HO_326001 := aM (Kd.V_elder' (V_mv HO_326001.out) (Kd.R_base ho0) hb)
             replace HL339_0 := aM (Kd.V_elder' (V_mv HL339_0.out) (Kd.R_base ho0) hb)
             replace HL339_1 := aM (Kd.V_elder' (V_mv HL339_1.out) (Kd.R_base ho0) hb)
             have HO368 := aM (Kd.R_lower (Kd.R_new' (Kd.R_new' (Kd.R_new' (Kd.R_new' (Kd.R_new' (Kd.R_newM (M := fun k_ => (w.heap.size ≤ k_)) ho0 (below_size (by repeat (first | (with_reducible first | exact HB.out | apply bA | apply bN | apply bD | refine below_set ?_ GE325.out | refine below_set ?_ GE340.out) | exact HB.out))) (fun k_ h_ => h_)) (Kd.R_lt (R_mv HO345.out))) (Kd.R_lt (R_mv HO348.out))) (Kd.R_lt (R_mv HO352.out))) (Kd.R_lt (R_mv HO355.out))) (Kd.R_lt (R_mv HO365.out))) (below_size (by repeat (first | (with_reducible first | exact HB.out | apply bA | apply bN | apply bD | refine below_set ?_ GE325.out | refine below_set ?_ GE340.out) | exact HB.out))))
             replace HO345 := aM (Kd.R_elder' (R_mv HO345.out) (Kd.R_base ho0) hb)
             replace HO348 := aM (Kd.R_elder' (R_mv HO348.out) (Kd.R_base ho0) hb)
             replace HO352 := aM (Kd.R_elder' (R_mv HO352.out) (Kd.R_base ho0) hb)
             replace HO355 := aM (Kd.R_elder' (R_mv HO355.out) (Kd.R_base ho0) hb)
             replace HO365 := aM (Kd.R_elder' (R_mv HO365.out) (Kd.R_base ho0) hb)
             replace BK325 := aM (blk_below (blk_mv BK325.out) hb)
             replace BK340 := aM (blk_below (blk_mv BK340.out) hb)
             replace HB := aM (below_step (by repeat (first | (with_reducible first | exact HB.out | apply bA | apply bN | apply bD | refine below_set ?_ GE325.out | refine below_set ?_ GE340.out) | exact HB.out)) hb)
             (try clear hb)
             (try clear hb2)
             (try clear hge)
             (try clear hk)
             (try clear hi)
             (try clear ho0)
             obtain ⟨Ao73, co73, eo73⟩ := Kd.R_slice HO365.out
             (first | subst eo73 | (injection eo73 with f1_ f2_ f3_; have f4_ := f1_.symm; have f5_ := f3_.symm; clear f1_ f2_ f3_; subst f4_; subst f5_))
             obtain ⟨Ao74, co74, eo74⟩ := Kd.R_slice HO368.out
             (first | subst eo74 | (injection eo74 with f1_ f2_ f3_; have f4_ := f1_.symm; have f5_ := f3_.symm; clear f1_ f2_ f3_; subst f4_; subst f5_))
             refine hK.out _ _ ⟨(blk_cell BK340.out 0).trans rfl, (blk_cell BK340.out 1).trans rfl, (blk_cell BK340.out 2).trans rfl⟩ (fun hHeld => ?_)
             clear hK K
             refine norm_ (a' := ?_) ?_ ?_
             rotate_left
             ·
              show Act.put _ (some 92) _ = _
              simp only [Act.put, sT, sZ, sS, i64_w, i32_w]
              rfl
             refine one_ (i := 55) (N := some 93) #[true, true, true, true, true, true, true, true, true, true, true, true, true, true, true, true, true, true, true, true, true, true, true, true, true, true, true, true, true, true, true, true, true, true, true, true, true, true, true, true, true, true, true, true, true, true, true, true, true, true, true, true, true, true, true, true, false, false] rfl rfl (one_of HT_.out (by kernel_rfl)) (by decide) (fun K hK => ?_)
             refine goes_ Try.func17 (by kernel_rfl) rfl #[.slice Ao73 t363.length co73, .slice Ao74 t366.length co74] (by rfl) rfl rfl (by first | rfl | (simp only [List.map_toArray, List.map_cons, List.map_nil, List.length_drop, List.length_take]; try rfl)) ?_
             with_reducible refine (minecontrolref01_Ints.calls k2 _ _ t363 _ _ t366 true _ ?side1 ?side2 ?side3 ?side4 A48.out).mono ?_
             (case side1 => repeat (first | exact (Kd.R_reads' HO365.out).2.2 | (with_reducible refine Kd.C_alloc ?_ _) | (with_reducible refine Kd.C_drewN ?_ _) | (with_reducible refine Kd.C_drew ?_)))
             (case side2 => exact (Kd.R_reads' HO365.out).2.1)
             (case side3 => repeat (first | exact (Kd.R_reads' HO368.out).2.2 | (with_reducible refine Kd.C_alloc ?_ _) | (with_reducible refine Kd.C_drewN ?_ _) | (with_reducible refine Kd.C_drew ?_)))
             (case side4 => exact (Kd.R_reads' HO368.out).2.1)
             rintro e w' ⟨rfl, ⟨nd, rfl⟩⟩
             refine ⟨_, rfl, ?_⟩
             refine hK.out _ _ ⟨(blk_cell BK340.out 0).trans rfl, (blk_cell BK340.out 1).trans rfl, (blk_cell BK340.out 2).trans rfl⟩ (fun hHeld => ?_)
             clear hK K
             refine norm_ (a' := ?_) ?_ ?_
             rotate_left
             ·
              show Act.put _ (some 93) _ = _
              simp only [Act.put, sT, sZ, sS, i64_w, i32_w]
              rfl
             refine pure_ (i := 56) (N := some 94) (v := ?_) (a' := ?_) #[true, true, true, true, true, true, true, true, true, true, true, true, true, true, true, true, true, true, true, true, true, true, true, true, true, true, true, true, true, true, true, true, true, true, true, true, true, true, true, true, true, true, true, true, true, true, true, true, true, true, true, true, true, true, true, true, true, false] rfl rfl (any_of HT_.out (by kernel_rfl)) (fun _ _ _ h => h) (Or.inl ⟨by rfl, ?_⟩) ?_ ?_
             rotate_left
             ·
              intro w'
              go_simp
              with_reducible rfl
             rotate_left
             ·
              simp only [Act.put, sT, sZ, sS, i64_w, i32_w]
              rfl
             refine pure_ (i := 57) (N := some 95) (v := ?_) (a' := ?_) #[true, true, true, true, true, true, true, true, true, true, true, true, true, true, true, true, true, true, true, true, true, true, true, true, true, true, true, true, true, true, true, true, true, true, true, true, true, true, true, true, true, true, true, true, true, true, true, true, true, true, true, true, true, true, true, true, true, true] rfl rfl (any_of HT_.out (by kernel_rfl)) (fun _ _ _ h => h) (Or.inl ⟨by rfl, ?_⟩) ?_ ?_
             rotate_left
             ·
              intro w'
              go_simp
              with_reducible rfl
             rotate_left
             ·
              simp only [Act.put, sT, sZ, sS, i64_w, i32_w]
              rfl
             refine done_ (done_of HT_.out (by kernel_rfl)) ?_
             try go_wp2
             go_roundg k2
             case measure => have := HJ5.out; have := HK2.out; omega
             case rel => exact ⟨(wrap64 (x34_2 + 1)), (by first | rfl | (simp; done) | (simp [*]; done)), H', ⟨by have := HJ5.out; have := HK2.out; omega⟩, ⟨by (with_reducible repeat (first | apply Kd.N_alloc | apply Kd.N_drewN | apply Kd.N_drew)); exact Kd.N_mono HO_32.out (fun _ hk => ⟨hk.1.1.1.1.1.1.1, hk.1.1.1.1.1.1.2.1⟩)⟩, ⟨by (with_reducible repeat (first | apply Kd.V_alloc | apply Kd.V_drewN | apply Kd.V_drew)); exact Kd.V_mono HO_326000.out (fun _ hk => ⟨hk.1.1.1.1.1.1.1, ⟨hk.1.1.1.1.1.1.2.1, hk.1.1.1.1.1.1.2.2.1⟩⟩)⟩, ⟨by (with_reducible repeat (first | apply Kd.V_alloc | apply Kd.V_drewN | apply Kd.V_drew)); exact Kd.V_mono HO_326001.out (fun _ hk => ⟨hk.1.1.1.1.1.1.1, ⟨hk.1.1.1.1.1.1.2.1, hk.1.1.1.1.1.1.2.2.1⟩⟩)⟩, ⟨blk_mv BK325.out⟩, ⟨by repeat (first | (with_reducible first | exact HB.out | apply bA | apply bN | apply bD | refine below_set ?_ GE325.out | refine below_set ?_ GE340.out) | exact HB.out)⟩⟩
            replace c49 := Bool.eq_false_iff.mpr c49
            subst c49
            have H1 : (some false) = some r := by rw [if_neg (show ¬ (false = true) by decide)] at H; exact H
            clear H
            have H := H1
            clear H1
            obtain rfl := Option.some.inj H
            exact absurd hr_.out (by decide)
           rw [if_neg c45] at H
           have c45b0 : (t361 == t362) = false := beq_eq_false_iff_ne.mpr c45
           have c45b1 : (t361 != t362) = true := bne_iff_ne.mpr c45
           obtain rfl := Option.some.inj H
           exact absurd hr_.out (by decide)
          rw [if_neg c42] at H
          have c42b0 : (t359 == t360) = false := beq_eq_false_iff_ne.mpr c42
          have c42b1 : (t359 != t360) = true := bne_iff_ne.mpr c42
          obtain rfl := Option.some.inj H
          exact absurd hr_.out (by decide)
         rw [if_neg c39] at H
         have c39b0 : (t357 == t358) = false := beq_eq_false_iff_ne.mpr c39
         have c39b1 : (t357 != t358) = true := bne_iff_ne.mpr c39
         obtain rfl := Option.some.inj H
         exact absurd hr_.out (by decide)
        replace c36 := Bool.eq_false_iff.mpr c36
        subst c36
        have H1 : (some false) = some r := by rw [if_neg (show ¬ (false = true) by decide)] at H; exact H
        clear H
        have H := H1
        clear H1
        obtain rfl := Option.some.inj H
        exact absurd hr_.out (by decide)
       replace c32 := Bool.eq_false_iff.mpr c32
       subst c32
       have H1 : (some false) = some r := by rw [if_neg (show ¬ (false = true) by decide)] at H; exact H
       clear H
       have H := H1
       clear H1
       obtain rfl := Option.some.inj H
       exact absurd hr_.out (by decide)
      rw [if_neg c28] at H
      have c28b0 : (t341 == t342) = false := beq_eq_false_iff_ne.mpr c28
      have c28b1 : (t341 != t342) = true := bne_iff_ne.mpr c28
      obtain rfl := Option.some.inj H
      exact absurd hr_.out (by decide)
     rw [if_neg c23] at H
     have c23b0 : decide (x34_2 < (y335.length : Int)) = false := decide_eq_false c23
     clear c23
     replace H := Option.bind_eq_some_iff.mp H
     obtain ⟨t338, A750, H⟩ := H
     replace H : (some t338) = some r := H
     have A75 := aM A750
     clear A750
     obtain rfl := Option.some.inj H
     go_wp2_with (first | ((with_reducible refine gate_callee (f := 20) rfl ?_); refine goesL_ (some 97) rfl rfl Try.func20 (by kernel_rfl) rfl #[] rfl (by first | rfl | (simp only [List.map_toArray, List.map_cons, List.map_nil, List.length_drop, List.length_take]; try rfl)) ?_; (with_reducible refine (minecontrollaw18_awake.calls k2  t338 _ A75.out).mono ?_); rintro e w76 ⟨rfl, hb⟩; refine ⟨_, rfl, ?_⟩; replace HO_32 := aM (Kd.N_below (N_mv HO_32.out) hb); replace HO_326000 := aM (Kd.V_below (V_mv HO_326000.out) hb); replace HO_326001 := aM (Kd.V_below (V_mv HO_326001.out) hb); replace BK325 := aM (blk_below (blk_mv BK325.out) hb); replace HB := aM (below_step (by repeat (first | (with_reducible first | exact HB.out | apply bA | apply bN | apply bD | refine below_set ?_ GE325.out) | exact HB.out)) hb); (try clear hb); (try clear hb2); (try clear hge); (try clear hk); (try clear hi)))
     go_ret
     exact ⟨by first | rfl | (simp [errW_none, errW_some] <;> rfl) | (simp [*, errW_none, errW_some] <;> rfl), by repeat (first | (with_reducible first | exact HB.out | apply bA | apply bN | apply bD | refine below_set ?_ GE325.out) | exact HB.out)⟩

/-- THE ONE PURE STATEMENT of minecontrollaw18_FeederChecks: yours. -/
def minecontrollaw18_FeederChecks.Pure : Prop := ∀ (l0 : List Int) (l1_0 : List (S32)) (l1_1 : List Int) (a1_2 : Int) (a2 : Int) (a3 : Int) (a4 : Int), l0.length ≤ maxLen → l0.length * 1 ≤ 140737488351232 → (∀ x ∈ l0, (Lit.int .u8 x).wf = true) → (l1_0.length ≤ maxLen ∧ ∀ x ∈ l1_0, ((Lit.int .i64 x.f0).wf = true) ∧ ((Lit.int .i64 x.f1).wf = true) ∧ ((Lit.int .i64 x.f2).wf = true)) → (l1_1.length ≤ maxLen ∧ ∀ x ∈ l1_1, (Lit.int .i64 x).wf = true) → ((Lit.int .i64 a1_2).wf = true) → (Lit.int .i64 a2).wf = true → (Lit.int .i64 a3).wf = true → (Lit.int .i64 a4).wf = true → ∃ k, minecontrollaw18_FeederChecks.f k l0 l1_0 l1_1 a1_2 a2 a3 a4 = some true
theorem minecontrollaw18_FeederChecks.walk (P : minecontrollaw18_FeederChecks.Pure) (a0 : Option Addr) (len0 cap0 : Nat) (z0 : List Int) (A1_0 : Option Addr) (c1_0 : Nat) (l1_0 : List (S32)) (A1_1 : Option Addr) (c1_1 : Nat) (l1_1 : List Int) (a1_2 : Int) (a2 : Int) (a3 : Int) (a4 : Int) (w : World) (w0 : (a0 = none ∧ len0 = 0 ∧ cap0 = 0 ∧ z0 = []) ∨ ∃ x, a0 = some x ∧ len0 ≤ cap0 ∧ cap0 ≤ maxLen ∧ z0.length = cap0 ∧ (∀ i, i < z0.length → w.cell? (x.add i) = some (.int .u8 (z0.getD i 0))) ∧ ∀ n ∈ z0, (Lit.int .u8 n).wf = true) (y0 : len0 * 1 ≤ 140737488351232) (hr1_0 : Kd.C k32 w A1_0 l1_0.length l1_0) (hc1_0 : l1_0.length ≤ c1_0) (q1_0 : l1_0.length ≤ maxLen ∧ ∀ x ∈ l1_0, ((Lit.int .i64 x.f0).wf = true) ∧ ((Lit.int .i64 x.f1).wf = true) ∧ ((Lit.int .i64 x.f2).wf = true)) (hr1_1 : Kd.C (Kd.int .i64) w A1_1 l1_1.length l1_1) (hc1_1 : l1_1.length ≤ c1_1) (q1_1 : l1_1.length ≤ maxLen ∧ ∀ x ∈ l1_1, (Lit.int .i64 x).wf = true) (q1_2 : (Lit.int .i64 a1_2).wf = true) (w2 : (Lit.int .i64 a2).wf = true) (w3 : (Lit.int .i64 a3).wf = true) (w4 : (Lit.int .i64 a4).wf = true) :
  Calls Try.prog 7 #[.slice a0 len0 cap0, .agg #[.slice A1_0 l1_0.length c1_0, .slice A1_1 l1_1.length c1_1, .int .i64 a1_2], .int .i64 a2, .int .i64 a3, .int .i64 a4] w fun e w' => e = .returned (.bool true) ∧ Below w.heap.size w w' := by
 obtain ⟨l0, rfl, hr0, hm0, hw0, hc0⟩ := ReadsInt.ofRowC w0
 obtain ⟨k, h⟩ := P l0 l1_0 l1_1 a1_2 a2 a3 a4 hm0 y0 hw0 q1_0 q1_1 q1_2 w2 w3 w4
 refine (minecontrollaw18_FeederChecks.calls1 k _ _ l0 (fun k_ => k_ < w.heap.size) _ _ l1_0 (fun k_ => k_ < w.heap.size) _ _ l1_1 a1_2 a2 a3 a4 true w (Kd.C_of_reads (d := (0 : Int)) (h1 := fun _ => rfl) hr0) hc0 (Kd.V_mk hc1_0 (Kd.C_F k32_heap hr1_0)) (Kd.V_mk hc1_1 (Kd.C_F (Kd.heap_int .i64) hr1_1)) (.mk rfl) h).mono ?_
 rintro e w' ⟨rfl, hd⟩
 exact ⟨rfl, hd⟩

end Go.Proofs.Ytcgeflbifbaecaa.PFek
