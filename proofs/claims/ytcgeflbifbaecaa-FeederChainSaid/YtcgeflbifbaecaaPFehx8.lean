/- Functions of the given program as Lean functions, and proofs that its calls come to what these say. Written by a program of this seat (wip/mkprint.py); Lean checks it all. -/
import Derived.Test.YtcgeflbifbaecaaPFehx0
import Derived.Test.YtcgeflbifbaecaaPFehx1
import Derived.Test.YtcgeflbifbaecaaPFehx2
import Derived.Test.YtcgeflbifbaecaaPFehx4
import Derived.Test.YtcgeflbifbaecaaPFehx5
import Derived.Test.YtcgeflbifbaecaaPFehx6
import Derived.Test.YtcgeflbifbaecaaPFehx7
namespace Go.Proofs.Ytcgeflbifbaecaa.PFeh
open Go.RowKit Go.Proofs.YtcgeflbifbaecaaW.PrintWords Go.Proofs.YtcgeflbifbaecaaW.PrintLast Go.Proofs.YtcgeflbifbaecaaW.PrintMore
attribute [local go_sem] max2_int min2_int max_two min_two max_three min_three max_four min_four   -- for this text's walks alone
set_option linter.unusedVariables false
set_option linter.unusedSimpArgs false

/-! ### minecontrollaw18_FeederChain: function 3 -/
mutual
def minecontrollaw18_FeederChain.l0 : Nat → Int → Int → Int → List (S32) → List Int → Int → Option (Bool)
 | 0, _, _, _, _, _, _ => none
 | k + 1, x1, x26, x27, x280000, x280001, x280002 => if x27 < x26 then (if 0 ≤ x27 then (if x27 < (x280000.length : Int) then ((some (x280000.set (x27 : Int).toNat (⟨(rd_T32 x280000 x27).f0, (rd_T32 x280000 x27).f1, (rd_T32 x280000 x27).f2, true, (rd_T32 x280000 x27).f4⟩ : S32) : List (S32))).bind fun y280 => (minecontrollaw18_FeederChain.l0 k x1 x26 (wrap64 (x27 + 1)) (y280.set (x27 : Int).toNat (⟨(rd_T32 y280 x27).f0, (rd_T32 y280 x27).f1, 1, (rd_T32 y280 x27).f3, (rd_T32 y280 x27).f4⟩ : S32)) x280001 x280002)) else (none)) else (none)) else ((minecontroldraw_Mod.f x1 (x280001.length : Int)).bind fun t282 => (if 0 ≤ t282 then (if t282 < (x280001.length : Int) then ((feeder_Path.f k x280000 x280001 x280002 (rd x280001 t282)).bind fun t284 => ((feeder_Open.f k x280000 x280001 x280002 (rd x280001 t282) 0).bind fun bt288 => (if bt288.2.2.2 = 0 then (minecontrollaw18_FeederChain.j1 k t282 t284 ((t284.length : Int) == 0) x280000 x280001 x280002 bt288.1 bt288.2.1 bt288.2.2.1) else (minecontrollaw18_FeederChain.j1 k t282 t284 true x280000 x280001 x280002 bt288.1 bt288.2.1 bt288.2.2.1)))) else (none)) else (none)))
def minecontrollaw18_FeederChain.j1 : Nat → Int → List Int → Bool → List (S32) → List Int → Int → List (S32) → List Int → Int → Option (Bool)
 | 0, _, _, _, _, _, _, _, _, _ => none
 | k + 1, x8, x9, x69, x280000, x280001, x280002, x297000, x297001, x297002 => if x69 = true then (some false) else (minecontrollaw18_FeederChain.l1 k x8 x9 1 x280000 x280001 x280002 x297000 x297001 x297002)
def minecontrollaw18_FeederChain.l1 : Nat → Int → List Int → Int → List (S32) → List Int → Int → List (S32) → List Int → Int → Option (Bool)
 | 0, _, _, _, _, _, _, _, _, _ => none
 | k + 1, x8, x9, x12, x280000, x280001, x280002, x297000, x297001, x297002 => if x12 ≤ (x9.length : Int) then ((feeder_Due.f k x297000 x297001 x297002).bind fun t297 => (if t297 = (wrap64 (x12 * x280002)) then ((feeder_Tick.f k x297000 x297001 x297002 (wrap64 (x12 * x280002))).bind fun bt298 => (if bt298.2.2.2.2.2 = 0 then (if 0 ≤ (wrap64 (x12 - 1)) then (if (wrap64 (x12 - 1)) ≤ x12 then ((minecontrolref01_Ints.f k bt298.2.2.2.1 ((x9.take (x12 : Int).toNat).drop ((wrap64 (x12 - 1)) : Int).toNat)).bind fun t317 => (if t317 = true then (if x12 < (x9.length : Int) then (if 0 ≤ x12 then (if x12 ≤ (wrap64 (x12 + 1)) then (if (wrap64 (x12 + 1)) ≤ (x9.length : Int) then ((minecontrolref01_Ints.f k bt298.2.2.2.2.1 ((x9.take ((wrap64 (x12 + 1)) : Int).toNat).drop (x12 : Int).toNat)).bind fun t322 => (if t322 = true then (if x12 = (x9.length : Int) then (if (bt298.2.2.2.2.1.length : Int) > 0 then (some false) else (minecontrollaw18_FeederChain.l1 k x8 x9 (wrap64 (x12 + 1)) x280000 x280001 x280002 bt298.1 bt298.2.1 bt298.2.2.1)) else (minecontrollaw18_FeederChain.l1 k x8 x9 (wrap64 (x12 + 1)) x280000 x280001 x280002 bt298.1 bt298.2.1 bt298.2.2.1)) else (some false))) else (none)) else (none)) else (none)) else (if x12 = (x9.length : Int) then (if (bt298.2.2.2.2.1.length : Int) > 0 then (some false) else (minecontrollaw18_FeederChain.l1 k x8 x9 (wrap64 (x12 + 1)) x280000 x280001 x280002 bt298.1 bt298.2.1 bt298.2.2.1)) else (minecontrollaw18_FeederChain.l1 k x8 x9 (wrap64 (x12 + 1)) x280000 x280001 x280002 bt298.1 bt298.2.1 bt298.2.2.1))) else (some false))) else (none)) else (none)) else (some false))) else (some false))) else ((feeder_Due.f k x297000 x297001 x297002).bind fun t323 => (if t323 = 1099511627776 then ((feeder_Failed.f k x297000 x297001 x297002).bind fun t324 => (if 0 ≤ (wrap64 ((x9.length : Int) - 1)) then (if (wrap64 ((x9.length : Int) - 1)) ≤ (x9.length : Int) then ((minecontrolref01_Ints.f k t324 (x9.drop ((wrap64 ((x9.length : Int) - 1)) : Int).toNat)).bind fun t331 => (if t331 = true then ((feeder_Live.f k x297000 x297001 x297002 x8).bind fun t332 => (if t332 = 0 then ((minecontrollaw18_awake.f k).bind fun t333 => (some t333)) else (some false))) else (some false))) else (none)) else (none))) else (some false)))
end
def minecontrollaw18_FeederChain.f (k : Nat) (l0 : List Int) (a1 : Int) : Option (Bool) := (minecontroldraw_New.f l0).bind fun bt266 => ((minecontroldraw_Codes_Next.f k bt266.1 bt266.2 3).bind fun bt269 => ((minecontroldraw_Codes_Feeder.f k bt266.1 bt269.2 (wrap64 (1 + bt269.1))).bind fun bt271 => (minecontrollaw18_FeederChain.l0 k a1 (bt271.1.length : Int) 0 bt271.1 bt271.2.1 bt271.2.2.1)))
theorem minecontrollaw18_FeederChain.mono_l : ∀ k, (∀ y0 y1 y2 y3 y4 y5, LeO (minecontrollaw18_FeederChain.l0 k y0 y1 y2 y3 y4 y5) (minecontrollaw18_FeederChain.l0 (k + 1) y0 y1 y2 y3 y4 y5)) ∧ (∀ y0 y1 y2 y3 y4 y5 y6 y7 y8, LeO (minecontrollaw18_FeederChain.j1 k y0 y1 y2 y3 y4 y5 y6 y7 y8) (minecontrollaw18_FeederChain.j1 (k + 1) y0 y1 y2 y3 y4 y5 y6 y7 y8)) ∧ (∀ y0 y1 y2 y3 y4 y5 y6 y7 y8, LeO (minecontrollaw18_FeederChain.l1 k y0 y1 y2 y3 y4 y5 y6 y7 y8) (minecontrollaw18_FeederChain.l1 (k + 1) y0 y1 y2 y3 y4 y5 y6 y7 y8))
 | 0 => ⟨fun _ _ _ _ _ _ r h => by simp [minecontrollaw18_FeederChain.l0] at h, fun _ _ _ _ _ _ _ _ _ r h => by simp [minecontrollaw18_FeederChain.j1] at h, fun _ _ _ _ _ _ _ _ _ r h => by simp [minecontrollaw18_FeederChain.l1] at h⟩
 | k + 1 => by
  obtain ⟨ih0, ih1, ih2⟩ := minecontrollaw18_FeederChain.mono_l k
  refine ⟨?_, ?_, ?_⟩
  ·
   intro y0 y1 y2 y3 y4 y5
   unfold minecontrollaw18_FeederChain.l0
   repeat' first
   | (with_reducible exact ih0 _ _ _ _ _ _)
   | (with_reducible exact ih1 _ _ _ _ _ _ _ _ _)
   | (with_reducible exact ih2 _ _ _ _ _ _ _ _ _)
   | (with_reducible exact feeder_Due.mono _ _ _ _)
   | (with_reducible exact feeder_Failed.mono _ _ _ _)
   | (with_reducible exact feeder_Live.mono _ _ _ _ _)
   | (with_reducible exact feeder_Open.mono _ _ _ _ _ _)
   | (with_reducible exact feeder_Path.mono _ _ _ _ _)
   | (with_reducible exact feeder_Tick.mono _ _ _ _ _)
   | (with_reducible exact minecontroldraw_Codes_Feeder.mono _ _ _ _)
   | (with_reducible exact minecontroldraw_Codes_Next.mono _ _ _ _)
   | (with_reducible exact minecontrollaw18_awake.mono _)
   | (with_reducible exact minecontrolref01_Ints.mono _ _ _)
   | (with_reducible exact LeO.refl _)
   | (with_reducible exact LeO.none _)
   | (with_reducible refine LeO.ite ?_ ?_)
   | (with_reducible refine LeO.bind ?_ (fun _ => ?_))
   | exact ih0 _ _ _ _ _ _
   | exact ih1 _ _ _ _ _ _ _ _ _
   | exact ih2 _ _ _ _ _ _ _ _ _
   | exact LeO.none _
   | refine LeO.ite ?_ ?_
   | refine LeO.bind ?_ (fun _ => ?_)
  ·
   intro y0 y1 y2 y3 y4 y5 y6 y7 y8
   unfold minecontrollaw18_FeederChain.j1
   repeat' first
   | (with_reducible exact ih0 _ _ _ _ _ _)
   | (with_reducible exact ih1 _ _ _ _ _ _ _ _ _)
   | (with_reducible exact ih2 _ _ _ _ _ _ _ _ _)
   | (with_reducible exact feeder_Due.mono _ _ _ _)
   | (with_reducible exact feeder_Failed.mono _ _ _ _)
   | (with_reducible exact feeder_Live.mono _ _ _ _ _)
   | (with_reducible exact feeder_Open.mono _ _ _ _ _ _)
   | (with_reducible exact feeder_Path.mono _ _ _ _ _)
   | (with_reducible exact feeder_Tick.mono _ _ _ _ _)
   | (with_reducible exact minecontroldraw_Codes_Feeder.mono _ _ _ _)
   | (with_reducible exact minecontroldraw_Codes_Next.mono _ _ _ _)
   | (with_reducible exact minecontrollaw18_awake.mono _)
   | (with_reducible exact minecontrolref01_Ints.mono _ _ _)
   | (with_reducible exact LeO.refl _)
   | (with_reducible exact LeO.none _)
   | (with_reducible refine LeO.ite ?_ ?_)
   | (with_reducible refine LeO.bind ?_ (fun _ => ?_))
   | exact ih0 _ _ _ _ _ _
   | exact ih1 _ _ _ _ _ _ _ _ _
   | exact ih2 _ _ _ _ _ _ _ _ _
   | exact LeO.none _
   | refine LeO.ite ?_ ?_
   | refine LeO.bind ?_ (fun _ => ?_)
  intro y0 y1 y2 y3 y4 y5 y6 y7 y8
  unfold minecontrollaw18_FeederChain.l1
  repeat' first
  | (with_reducible exact ih0 _ _ _ _ _ _)
  | (with_reducible exact ih1 _ _ _ _ _ _ _ _ _)
  | (with_reducible exact ih2 _ _ _ _ _ _ _ _ _)
  | (with_reducible exact feeder_Due.mono _ _ _ _)
  | (with_reducible exact feeder_Failed.mono _ _ _ _)
  | (with_reducible exact feeder_Live.mono _ _ _ _ _)
  | (with_reducible exact feeder_Open.mono _ _ _ _ _ _)
  | (with_reducible exact feeder_Path.mono _ _ _ _ _)
  | (with_reducible exact feeder_Tick.mono _ _ _ _ _)
  | (with_reducible exact minecontroldraw_Codes_Feeder.mono _ _ _ _)
  | (with_reducible exact minecontroldraw_Codes_Next.mono _ _ _ _)
  | (with_reducible exact minecontrollaw18_awake.mono _)
  | (with_reducible exact minecontrolref01_Ints.mono _ _ _)
  | (with_reducible exact LeO.refl _)
  | (with_reducible exact LeO.none _)
  | (with_reducible refine LeO.ite ?_ ?_)
  | (with_reducible refine LeO.bind ?_ (fun _ => ?_))
  | exact ih0 _ _ _ _ _ _
  | exact ih1 _ _ _ _ _ _ _ _ _
  | exact ih2 _ _ _ _ _ _ _ _ _
  | exact LeO.none _
  | refine LeO.ite ?_ ?_
  | refine LeO.bind ?_ (fun _ => ?_)
theorem minecontrollaw18_FeederChain.mono : ∀ a0 a1 k, LeO (minecontrollaw18_FeederChain.f k a0 a1) (minecontrollaw18_FeederChain.f (k + 1) a0 a1) := by
 intro a0 a1 k
 obtain ⟨ih0, ih1, ih2⟩ := minecontrollaw18_FeederChain.mono_l k
 unfold minecontrollaw18_FeederChain.f
 repeat' first
   | (with_reducible exact ih0 _ _ _ _ _ _)
   | (with_reducible exact ih1 _ _ _ _ _ _ _ _ _)
   | (with_reducible exact ih2 _ _ _ _ _ _ _ _ _)
   | (with_reducible exact feeder_Due.mono _ _ _ _)
   | (with_reducible exact feeder_Failed.mono _ _ _ _)
   | (with_reducible exact feeder_Live.mono _ _ _ _ _)
   | (with_reducible exact feeder_Open.mono _ _ _ _ _ _)
   | (with_reducible exact feeder_Path.mono _ _ _ _ _)
   | (with_reducible exact feeder_Tick.mono _ _ _ _ _)
   | (with_reducible exact minecontroldraw_Codes_Feeder.mono _ _ _ _)
   | (with_reducible exact minecontroldraw_Codes_Next.mono _ _ _ _)
   | (with_reducible exact minecontrollaw18_awake.mono _)
   | (with_reducible exact minecontrolref01_Ints.mono _ _ _)
   | (with_reducible exact LeO.refl _)
   | (with_reducible exact LeO.none _)
   | (with_reducible refine LeO.ite ?_ ?_)
   | (with_reducible refine LeO.bind ?_ (fun _ => ?_))
   | exact ih0 _ _ _ _ _ _
   | exact ih1 _ _ _ _ _ _ _ _ _
   | exact ih2 _ _ _ _ _ _ _ _ _
   | exact LeO.none _
   | refine LeO.ite ?_ ?_
   | refine LeO.bind ?_ (fun _ => ?_)
def minecontrollaw18_FeederChain.T6 : Bool × List (List Nat × List Nat) := (true, [([], []), ([0], [0]), ([], []), ([], []), ([3], [3]), ([], []), ([1, 2, 0, 1, 2], [1, 2]), ([6, 0, 1, 2], [6]), ([7, 0, 1, 2], [7]), ([4, 5, 0, 1, 2, 3, 4, 5, 6, 7, 8], [4, 5]), ([9, 0, 1, 2, 3, 4, 5, 6, 7, 8], [9]), ([10, 8, 0, 1, 2, 3, 4, 5, 6, 7, 8], [10])])
def minecontrollaw18_FeederChain.B6 : List Nat := [0, 1, 0, 0, 8, 0, 7, 71, 199, 511, 1023, 2047]
theorem minecontrollaw18_FeederChain.tab6 : rtab .any (opsOf Try.f3 6) = minecontrollaw18_FeederChain.T6 := by kernel_rfl
theorem minecontrollaw18_FeederChain.bits6 : waitsOk minecontrollaw18_FeederChain.T6.2 minecontrollaw18_FeederChain.B6 = true := by kernel_rfl
def minecontrollaw18_FeederChain.T9 : Bool × List (List Nat × List Nat) := (true, [([], []), ([], []), ([1], [1]), ([], []), ([2, 3], [2, 3]), ([4], [4]), ([0, 5], [0, 5]), ([6, 6, 0, 1, 2, 3, 4, 5, 6], [6])])
def minecontrollaw18_FeederChain.B9 : List Nat := [0, 0, 2, 0, 14, 30, 63, 127]
theorem minecontrollaw18_FeederChain.tab9 : rtab .any (opsOf Try.f3 9) = minecontrollaw18_FeederChain.T9 := by kernel_rfl
theorem minecontrollaw18_FeederChain.bits9 : waitsOk minecontrollaw18_FeederChain.T9.2 minecontrollaw18_FeederChain.B9 = true := by kernel_rfl
def minecontrollaw18_FeederChain.T10 : Bool × List (List Nat × List Nat) := (true, [([], []), ([], []), ([1], [1]), ([], []), ([2, 3], [2, 3]), ([4], [4]), ([0, 5], [0, 5]), ([6], [6]), ([7], [7]), ([7], [7]), ([], []), ([10, 8, 6, 0, 1, 2, 3, 4, 5, 6, 7, 8, 10], [8, 10]), ([9, 11, 0, 1, 2, 3, 4, 5, 6, 7, 8, 9, 10, 11], [9])])
def minecontrollaw18_FeederChain.B10 : List Nat := [0, 0, 2, 0, 14, 30, 63, 127, 255, 255, 0, 1535, 4095]
theorem minecontrollaw18_FeederChain.tab10 : rtab .any (opsOf Try.f3 10) = minecontrollaw18_FeederChain.T10 := by kernel_rfl
theorem minecontrollaw18_FeederChain.bits10 : waitsOk minecontrollaw18_FeederChain.T10.2 minecontrollaw18_FeederChain.B10 = true := by kernel_rfl
def minecontrollaw18_FeederChain.T22 : Bool × List (List Nat × List Nat) := (true, [([], []), ([0], [0]), ([1], [1]), ([2, 1], [2]), ([3], [3]), ([4, 3, 3], [3, 4]), ([3], [3]), ([3], [3]), ([7, 3], [3, 7]), ([8, 3], [3, 8]), ([6, 9, 3], [3, 6, 9]), ([5, 10, 5, 3], [3, 5, 10]), ([3, 11], [3, 11]), ([12, 11], [12]), ([13], [13]), ([13], [13]), ([14, 15, 13, 13], [13, 14, 15]), ([16, 13], [13, 16]), ([13, 17], [13, 17]), ([18, 16], [18]), ([19, 19], [19]), ([19, 20], [19, 20]), ([21, 20, 0, 1, 2, 3, 4, 5, 6, 7, 8, 9, 10, 11, 12, 13, 14, 15, 16, 17, 18, 19, 20, 21], [21])])
def minecontrollaw18_FeederChain.B22 : List Nat := [0, 1, 3, 7, 15, 31, 15, 15, 143, 399, 975, 2047, 4095, 8191, 16383, 16383, 65535, 131071, 262143, 524287, 1048575, 2097151, 4194303]
theorem minecontrollaw18_FeederChain.tab22 : rtab .any (opsOf Try.f3 22) = minecontrollaw18_FeederChain.T22 := by kernel_rfl
theorem minecontrollaw18_FeederChain.bits22 : waitsOk minecontrollaw18_FeederChain.T22.2 minecontrollaw18_FeederChain.B22 = true := by kernel_rfl
set_option maxHeartbeats 8000000 in
set_option maxRecDepth 100000 in
theorem minecontrollaw18_FeederChain.calls1 (k : Nat) (A0 : Option Addr) (c0 : Nat) (l0 : List Int) (a1 : Int) (r : Bool) (w : World) (hr0 : Kd.C (Kd.int .u8) w A0 l0.length l0) (hc0 : l0.length ≤ c0) (hr_ : Aside0 (r = true)) (h : minecontrollaw18_FeederChain.f k l0 a1 = some r) :
  Calls Try.prog 3 #[.slice A0 l0.length c0, .int .i64 a1] w fun e w' => e = .returned (.bool r) ∧ Below w.heap.size w w' := by
 have hu28 := Try.underlying28
 have HR0 := aM hr0
 have HC0 := aM hc0
 clear hr0 hc0
 have HB := aM (Below.refl w.heap.size w)
 have H : ((minecontroldraw_New.f l0).bind fun bt266 => ((minecontroldraw_Codes_Next.f k bt266.1 bt266.2 3).bind fun bt269 => ((minecontroldraw_Codes_Feeder.f k bt266.1 bt269.2 (wrap64 (1 + bt269.1))).bind fun bt271 => (minecontrollaw18_FeederChain.l0 k a1 (bt271.1.length : Int) 0 bt271.1 bt271.2.1 bt271.2.2.1)))) = some r := h
 clear h
 replace H := Option.bind_eq_some_iff.mp H
 obtain ⟨⟨t266, t267⟩, A30, H⟩ := H
 replace H : ((minecontroldraw_Codes_Next.f k t266 t267 3).bind fun bt269 => ((minecontroldraw_Codes_Feeder.f k t266 bt269.2 (wrap64 (1 + bt269.1))).bind fun bt271 => (minecontrollaw18_FeederChain.l0 k a1 (bt271.1.length : Int) 0 bt271.1 bt271.2.1 bt271.2.2.1))) = some r := H
 have A3 := aM A30
 clear A30
 replace H := Option.bind_eq_some_iff.mp H
 obtain ⟨⟨t269, t270⟩, A40, H⟩ := H
 replace H : ((minecontroldraw_Codes_Feeder.f k t266 t270 (wrap64 (1 + t269))).bind fun bt271 => (minecontrollaw18_FeederChain.l0 k a1 (bt271.1.length : Int) 0 bt271.1 bt271.2.1 bt271.2.2.1)) = some r := H
 have A4 := aM A40
 clear A40
 replace H := Option.bind_eq_some_iff.mp H
 obtain ⟨⟨t271, t274, t277, t278⟩, A50, H⟩ := H
 replace H : (minecontrollaw18_FeederChain.l0 k a1 (t271.length : Int) 0 t271 t274 t277) = some r := H
 have A5 := aM A50
 clear A50
 have H' := aM H
 clear H
 go_enter Try.func3, Try.ntmps3
 go_wp2_with (first | ((with_reducible refine gate_callee (f := 9) rfl ?_); refine goesL_ (some 18) rfl rfl Try.func9 (by kernel_rfl) rfl #[.slice A0 l0.length c0] rfl (by first | rfl | (simp only [List.map_toArray, List.map_cons, List.map_nil, List.length_drop, List.length_take]; try rfl)) ?_; (with_reducible refine (minecontroldraw_New.calls _ _ l0 t266 t267 w _ ?side1 ?side2 ?side3 A3.out).mono ?_); (case side1 => repeat (first | (with_reducible first | exact HB.out | apply bA | apply bN | apply bD) | exact HB.out)); (case side2 => exact HR0.out); (case side3 => exact HC0.out); rintro e w6 ⟨g268, rfl, hi, hb, hb2, hge⟩; refine ⟨_, rfl, ?_⟩; replace HB := aM (hb); have HI268 := aM (hi); (try clear hb); (try clear hb2); (try clear hge); (try clear hk); (try clear hi)) | ((with_reducible refine gate_callee (f := 11) rfl ?_); refine goesL_ (some 21) rfl rfl Try.func11 (by kernel_rfl) rfl #[.pointer (some ⟨g268, 0, none⟩), .int .i64 3] rfl (by first | rfl | (simp only [List.map_toArray, List.map_cons, List.map_nil, List.length_drop, List.length_take]; try rfl)) ?_; (with_reducible refine (minecontroldraw_Codes_Next.calls k g268 t266 t267 3 t269 t270 w _ ?side1 ?side2 A4.out).mono ?_); (case side1 => repeat (first | (with_reducible first | exact HI268.out | apply IsS61.alloc | apply IsS61.drewN | apply IsS61.drew | apply IsS61.set_1) | exact HI268.out)); (case side2 => repeat (first | (with_reducible first | exact HB.out | apply bA | apply bN | apply bD | refine below_set ?_ (IsS61.ge HI268.out)) | exact HB.out)); rintro e w7 ⟨rfl, hi, hb, hk⟩; refine ⟨_, rfl, ?_⟩; replace HB := aM (hb); replace HI268 := aM (hi); (try clear hb); (try clear hb2); (try clear hge); (try clear hk); (try clear hi)) | ((with_reducible refine gate_callee (f := 10) rfl ?_); refine goesL_ (some 23) rfl rfl Try.func10 (by kernel_rfl) rfl #[.pointer (some ⟨g268, 0, none⟩), .int .i64 (wrap64 (1 + t269))] rfl (by first | rfl | (simp only [List.map_toArray, List.map_cons, List.map_nil, List.length_drop, List.length_take]; try rfl)) ?_; (with_reducible refine (minecontroldraw_Codes_Feeder.calls k g268 t266 t270 (wrap64 (1 + t269)) t271 t274 t277 t278 w _ ?side1 ?side2 A5.out).mono ?_); (case side1 => repeat (first | (with_reducible first | exact HI268.out | apply IsS61.alloc | apply IsS61.drewN | apply IsS61.drew | apply IsS61.set_1) | exact HI268.out)); (case side2 => repeat (first | (with_reducible first | exact HB.out | apply bA | apply bN | apply bD | refine below_set ?_ (IsS61.ge HI268.out)) | exact HB.out)); rintro e w8 ⟨v272, v275, rfl, ho0, ho1, hi, hb, hk⟩; refine ⟨_, rfl, ?_⟩; have HO273 := aM (Kd.R_lower ho0 (below_size (by repeat (first | (with_reducible first | exact HB.out | apply bA | apply bN | apply bD | refine below_set ?_ (IsS61.ge HI268.out)) | exact HB.out)))); have HO276 := aM (Kd.R_lower ho1 (below_size (by repeat (first | (with_reducible first | exact HB.out | apply bA | apply bN | apply bD | refine below_set ?_ (IsS61.ge HI268.out)) | exact HB.out)))); replace HB := aM (hb); replace HI268 := aM (hi); (try clear hb); (try clear hb2); (try clear hge); (try clear hk); (try clear hi); (try clear ho0); (try clear ho1)) | ((with_reducible refine gate_dst (N := 6) rfl ?_); (try (refine gate_guard (by rfl) ?_; dsimp only)); refine box_event ?hg (N := 6) ?hd (cs := #[.slice none 0 0, .slice none 0 0, .int .i64 0]) (t := 28) ?hr ?_; (case hd => rfl); (case hg => rfl); (case hr => first | (go_simp; done) | (go_simp; rfl)); intro gb279 hg w9 hbox hb; replace HO273 := aM (Kd.R_below (R_mv HO273.out) hb); replace HO276 := aM (Kd.R_below (R_mv HO276.out) hb); have BK279 := aM (hbox); have GW279 := aM ((by rw [hg]; exact (below_size (by repeat (first | (with_reducible first | exact HB.out | apply bA | apply bN | apply bD | refine below_set ?_ (IsS61.ge HI268.out)) | exact HB.out))) : w.heap.size ≤ gb279)); have GE279 := aM ((by rw [hg]; exact (below_size (by repeat (first | (with_reducible first | exact HB.out | apply bA | apply bN | apply bD | refine below_set ?_ (IsS61.ge HI268.out)) | exact HB.out))) : w.heap.size ≤ gb279)); replace HB := aM (below_step (by repeat (first | (with_reducible first | exact HB.out | apply bA | apply bN | apply bD | refine below_set ?_ (IsS61.ge HI268.out)) | exact HB.out)) hb); have NB268_279 := aM ((by rw [hg]; exact Nat.ne_of_lt (IsS61.lt (show IsS61 w _ g268 t266 t278 from by repeat (first | (with_reducible first | exact HI268.out | apply IsS61.alloc | apply IsS61.drewN | apply IsS61.drew | apply IsS61.set_1) | exact HI268.out))) : g268 ≠ gb279)); have NB279_268 := aM ((by rw [hg]; exact Nat.ne_of_gt (IsS61.lt (show IsS61 w _ g268 t266 t278 from by repeat (first | (with_reducible first | exact HI268.out | apply IsS61.alloc | apply IsS61.drewN | apply IsS61.drew | apply IsS61.set_1) | exact HI268.out))) : gb279 ≠ g268)); replace HI268 := aM (IsS61.below (by repeat (first | (with_reducible first | exact HI268.out | apply IsS61.alloc | apply IsS61.drewN | apply IsS61.drew | apply IsS61.set_1) | exact HI268.out)) hb); clear hb hbox hg; obtain ⟨Ao10, co10, eo10⟩ := Kd.R_slice HO273.out; subst eo10; have hnb11 := NB279_268.out; have hnc11 := NB268_279.out; obtain ⟨hcz12_0, hcz12_1, hcz12_2, hfz12_0, hfz12_1, hfz12_2⟩ := blk3 BK279.out; obtain ⟨Ao13, co13, eo13⟩ := Kd.R_slice HO276.out; subst eo13))
 go_loopg [27] k (fun kq v27 w' => ∃ (x27_1 : Int) (x280000_1 : List (S32)) (u280000 : Value), v27 = .int .i64 x27_1 ∧ Aside0 (minecontrollaw18_FeederChain.l0 kq a1 (t271.length : Int) x27_1 x280000_1 t274 t277 = some r) ∧ Aside0 (kq ≤ k) ∧ Aside0 (Kd.R k32 32 w' w.heap.size (fun _ => True) u280000 x280000_1) ∧ Aside0 (Kd.R (Kd.int .i64) 3 w' w.heap.size (fun _ => True) (.slice Ao13 t274.length co13) t274) ∧ Aside0 (w'.heap[gb279]? = some (.cells #[u280000, (.slice Ao13 t274.length co13), .int .i64 t277] 28 (0, 0))) ∧ Aside0 (Below w.heap.size w w'))
 case atStart => exact ⟨(0), (t271), (.slice Ao10 t271.length co10), (by first | rfl | (simp; done) | (simp [*]; done)), H', ⟨Nat.le_refl _⟩, ⟨by (with_reducible repeat (first | apply Kd.R_alloc | apply Kd.R_drewN | apply Kd.R_drew)); exact Kd.R_mono (f3 HO273.out BK279.out (by decide)) (fun _ hk => trivial)⟩, ⟨by (with_reducible repeat (first | apply Kd.R_alloc | apply Kd.R_drewN | apply Kd.R_drew)); exact Kd.R_mono (f3 HO276.out BK279.out (by decide)) (fun _ hk => trivial)⟩, ⟨by (with_reducible repeat (first | refine kN ?_ _ | refine kD ?_ | refine kA ?_ _)); refine blk_put (cs := #[.slice Ao10 t271.length co10, .slice Ao13 t274.length co13, .int .i64 0]) ?_ 2 _ rfl; (with_reducible repeat (first | refine kN ?_ _ | refine kD ?_ | refine kA ?_ _)); refine blk_put (cs := #[.slice Ao10 t271.length co10, .slice none 0 0, .int .i64 0]) ?_ 1 _ rfl; (with_reducible repeat (first | refine kN ?_ _ | refine kD ?_ | refine kA ?_ _)); refine blk_put (cs := #[.slice none 0 0, .slice none 0 0, .int .i64 0]) ?_ 0 _ rfl; (with_reducible repeat (first | refine kN ?_ _ | refine kD ?_ | refine kA ?_ _)); exact BK279.out⟩, ⟨by repeat (first | (with_reducible first | exact HB.out | apply bA | apply bN | apply bD | refine below_set ?_ (IsS61.ge HI268.out) | refine below_set ?_ GE279.out) | exact HB.out)⟩⟩
 case round =>
  clear H'
  obtain ⟨x27_1, x280000_1, u280000, rfl, HA, HK1, HO_280000, HO_280001, BK279, HB⟩ := hrel
  cases gk with
  | zero => exact absurd HA.out (by simp [minecontrollaw18_FeederChain.l0])
  | succ k1 =>
   have H := HA.out
   clear HA
   simp only [minecontrollaw18_FeederChain.l0] at H
   by_cases c14 : x27_1 < (t271.length : Int)
   ·
    rw [if_pos c14] at H
    have c14b0 : decide (x27_1 < (t271.length : Int)) = true := decide_eq_true c14
    clear c14
    by_cases c15 : 0 ≤ x27_1
    rotate_left
    ·
     rw [if_neg c15] at H
     exact absurd H (by simp)
    rw [if_pos c15] at H
    have c15b0 : decide (0 ≤ x27_1) = true := decide_eq_true c15
    clear c15
    by_cases c16 : x27_1 < (x280000_1.length : Int)
    rotate_left
    ·
     rw [if_neg c16] at H
     exact absurd H (by simp)
    rw [if_pos c16] at H
    have c16b0 : decide (x27_1 < (x280000_1.length : Int)) = true := decide_eq_true c16
    clear c16
    obtain ⟨y280, hy280⟩ : ∃ y_ : List (S32), y_ = (x280000_1.set (x27_1 : Int).toNat (⟨(rd_T32 x280000_1 x27_1).f0, (rd_T32 x280000_1 x27_1).f1, (rd_T32 x280000_1 x27_1).f2, true, (rd_T32 x280000_1 x27_1).f4⟩ : S32)) := ⟨_, rfl⟩
    replace H : (minecontrollaw18_FeederChain.l0 k1 a1 (t271.length : Int) (wrap64 (x27_1 + 1)) (y280.set (x27_1 : Int).toNat (⟨(rd_T32 y280 x27_1).f0, (rd_T32 y280 x27_1).f1, 1, (rd_T32 y280 x27_1).f3, (rd_T32 y280 x27_1).f4⟩ : S32)) t274 t277) = some r := by first | (rw [hy280]; with_reducible exact H) | (have H2_ := (Option.bind_some _ _).symm.trans H; rw [hy280]; with_reducible exact H2_) | (have H2_ := (Option.bind_some _ _).symm.trans H; with_reducible exact H2_) | with_reducible exact H | (rw [hy280]; exact H) | exact H
    have Ny280 := aM hy280
    clear hy280
    obtain ⟨y281, hy281⟩ : ∃ y_ : List (S32), y_ = (y280.set (x27_1 : Int).toNat (⟨(rd_T32 y280 x27_1).f0, (rd_T32 y280 x27_1).f1, 1, (rd_T32 y280 x27_1).f3, (rd_T32 y280 x27_1).f4⟩ : S32)) := ⟨_, rfl⟩
    replace H : (minecontrollaw18_FeederChain.l0 k1 a1 (t271.length : Int) (wrap64 (x27_1 + 1)) y281 t274 t277) = some r := by first | (rw [hy281]; with_reducible exact H) | (have H2_ := (Option.bind_some _ _).symm.trans H; rw [hy281]; with_reducible exact H2_) | (have H2_ := (Option.bind_some _ _).symm.trans H; with_reducible exact H2_) | with_reducible exact H | (rw [hy281]; exact H) | exact H
    have Ny281 := aM hy281
    clear hy281
    have H' := aM H
    clear H
    try go_wp2
    replace HO_280000 := aM (Kd.R_drew HO_280000.out)
    replace HO_280001 := aM (Kd.R_drew HO_280001.out)
    replace BK279 := aM (blk_drew BK279.out)
    replace HB := aM (below_drew1 HB.out)
    have p17 : 0 ≤ (x27_1 : Int) := of_decide_eq_true (by first | (with_reducible assumption) | assumption)
    have q17 : (x27_1 : Int) < ((x280000_1.length : Int) : Int) := of_decide_eq_true (by first | (with_reducible assumption) | assumption)
    obtain ⟨go17, co17, eo17, gb17, gl17, cl17, HG17⟩ := Kd.R_form HO_280000.out (by omega)
    (first | cases eo17 | (injection eo17 with ea_ en_ ec_; (first | subst ea_ | (injection ea_ with ea_; subst ea_)); subst ec_; clear en_))
    have GB17 := aM gb17
    have GG17 := aM HG17
    clear gb17 gl17 HG17
    obtain ⟨ce17, hcl17, hM17, hcc17, hfr17⟩ := Kd.R_elem HO_280000.out z32 (x27_1 : Int) p17 q17
    obtain rfl := k32_openM hM17
    have hx17_0 : World.cell? _ ⟨go17, (x27_1 : Int).toNat * 5, none⟩ = some (.int .i64 ((rd_T32 x280000_1 x27_1).f0)) := hcc17 0 _ rfl
    have hx17_1 : World.cell? _ ⟨go17, (x27_1 : Int).toNat * 5 + 1, none⟩ = some (.int .i64 ((rd_T32 x280000_1 x27_1).f1)) := hcc17 1 _ rfl
    have hx17_2 : World.cell? _ ⟨go17, (x27_1 : Int).toNat * 5 + 2, none⟩ = some (.int .i64 ((rd_T32 x280000_1 x27_1).f2)) := hcc17 2 _ rfl
    have hx17_3 : World.cell? _ ⟨go17, (x27_1 : Int).toNat * 5 + 3, none⟩ = some (.bool ((rd_T32 x280000_1 x27_1).f3)) := hcc17 3 _ rfl
    have hx17_4 : World.cell? _ ⟨go17, (x27_1 : Int).toNat * 5 + 4, none⟩ = some (.bool ((rd_T32 x280000_1 x27_1).f4)) := hcc17 4 _ rfl
    have hf17_0 : World.frozen? _ ⟨go17, (x27_1 : Int).toNat * 5, none⟩ = false := hfr17 0
    have hf17_1 : World.frozen? _ ⟨go17, (x27_1 : Int).toNat * 5 + 1, none⟩ = false := hfr17 1
    have hf17_2 : World.frozen? _ ⟨go17, (x27_1 : Int).toNat * 5 + 2, none⟩ = false := hfr17 2
    have hf17_3 : World.frozen? _ ⟨go17, (x27_1 : Int).toNat * 5 + 3, none⟩ = false := hfr17 3
    have hf17_4 : World.frozen? _ ⟨go17, (x27_1 : Int).toNat * 5 + 4, none⟩ = false := hfr17 4
    clear hcl17 hcc17 hfr17 hM17
    replace p17 := eq_true p17
    replace q17 := eq_true q17
    obtain ⟨ce20, hcl20, hM20, hcc20, hfr20⟩ := Kd.R_elem HO_280000.out z32 (x27_1 : Int) (of_decide_eq_true (by first | (with_reducible assumption) | assumption)) (by have h_ : (x27_1 : Int) < ((x280000_1.length : Int) : Int) := of_decide_eq_true (by first | (with_reducible assumption) | assumption); first | exact h_ | (have e_ := (Kd.R_reads' HO_280000.out).1; omega) | simpa using h_)
    obtain rfl := k32_openM hM20
    have HP20 := (Kd.R_seg HO_280000.out (x27_1 : Int) (of_decide_eq_true (by first | (with_reducible assumption) | assumption)) (by have h_ : (x27_1 : Int) < ((x280000_1.length : Int) : Int) := of_decide_eq_true (by first | (with_reducible assumption) | assumption); first | exact h_ | (have e_ := (Kd.R_reads' HO_280000.out).1; omega) | simpa using h_) (seg := [.bool true]) (j := 3) hcl20 hcc20 (show 4 ≤ 5 from by decide) (x' := (⟨(rd_T32 x280000_1 x27_1).f0, (rd_T32 x280000_1 x27_1).f1, (rd_T32 x280000_1 x27_1).f2, true, (rd_T32 x280000_1 x27_1).f4⟩ : S32)) (k32_mkM _ _ _ (⟨(rd_T32 x280000_1 x27_1).f0, (rd_T32 x280000_1 x27_1).f1, (rd_T32 x280000_1 x27_1).f2, true, (rd_T32 x280000_1 x27_1).f4⟩ : S32) ) (fun _ hk => hk)).1
    rw [← Ny280.out] at HP20
    have HQ20 := aM HP20
    clear hcl20 hcc20 hfr20 hM20 HP20
    have p18 : 0 ≤ (x27_1 : Int) := of_decide_eq_true (by first | (with_reducible assumption) | assumption)
    have q18 : (x27_1 : Int) < ((x280000_1.length : Int) : Int) := of_decide_eq_true (by first | (with_reducible assumption) | assumption)
    replace p18 := eq_true p18
    replace q18 := eq_true q18
    obtain ⟨ce21, hcl21, hM21, hcc21, hfr21⟩ := Kd.R_elem HQ20.out z32 (x27_1 : Int) (of_decide_eq_true (by first | (with_reducible assumption) | assumption)) (by have h_ : (x27_1 : Int) < ((x280000_1.length : Int) : Int) := of_decide_eq_true (by first | (with_reducible assumption) | assumption); first | exact h_ | (have e_ := (Kd.R_reads' HO_280000.out).1; omega) | simpa using h_)
    obtain rfl := k32_openM hM21
    have HP21 := (Kd.R_seg HQ20.out (x27_1 : Int) (of_decide_eq_true (by first | (with_reducible assumption) | assumption)) (by have h_ : (x27_1 : Int) < ((x280000_1.length : Int) : Int) := of_decide_eq_true (by first | (with_reducible assumption) | assumption); first | exact h_ | (have e_ := (Kd.R_reads' HO_280000.out).1; omega) | simpa using h_) (seg := [.int .i64 1]) (j := 2) hcl21 hcc21 (show 3 ≤ 5 from by decide) (x' := (⟨(rd_T32 y280 x27_1).f0, (rd_T32 y280 x27_1).f1, 1, (rd_T32 y280 x27_1).f3, (rd_T32 y280 x27_1).f4⟩ : S32)) (k32_mkM _ _ _ (⟨(rd_T32 y280 x27_1).f0, (rd_T32 y280 x27_1).f1, 1, (rd_T32 y280 x27_1).f3, (rd_T32 y280 x27_1).f4⟩ : S32) ) (fun _ hk => hk)).1
    rw [← Ny281.out] at HP21
    have HQ21 := aM HP21
    clear hcl21 hcc21 hfr21 hM21 HP21
    refine start_ (n := 12) (S := fun w' => w'.cell? ⟨gb279, 0, none⟩ = some (.slice (some ⟨go17, 0, none⟩) x280000_1.length co17) ∧ w'.cell? ⟨gb279, 1, none⟩ = some (.slice Ao13 t274.length co13) ∧ w'.cell? ⟨gb279, 2, none⟩ = some (.int .i64 t277)) (ds := []) #[false, false, false, false, false, false, false, false, false, false, false, false] (by kernel_rfl) rfl rfl ⟨(blk_cell BK279.out 0).trans rfl, (blk_cell BK279.out 1).trans rfl, (blk_cell BK279.out 2).trans rfl⟩ (fun hHeld => ?_); refine with_tabW minecontrollaw18_FeederChain.tab6 minecontrollaw18_FeederChain.bits6 (fun HT_ HW_ => ?_)
    generalize wr.drew = w19 at HO_280000 HO_280001 BK279 HB GG17 HQ20 HQ21 hf17_0 hf17_1 hf17_2 hf17_3 hf17_4 hx17_0 hx17_1 hx17_2 hx17_3 hx17_4 hHeld ⊢
    refine pure_ (i := 0) (N := some 30) (v := ?_) (a' := ?_) #[true, false, false, false, false, false, false, false, false, false, false, false] rfl rfl (any_of HT_.out (by kernel_rfl)) (fun _ _ _ h => h) (Or.inl ⟨by rfl, ?_⟩) ?_ ?_
    rotate_left
    ·
     intro w'
     go_simp
     with_reducible rfl
    rotate_left
    ·
     simp only [Act.put, sT, sZ, sS, i64_w, i32_w]
     rfl
    refine pure_ (i := 2) (N := some 32) (v := ?_) (a' := ?_) #[true, false, true, false, false, false, false, false, false, false, false, false] rfl rfl (any_of HT_.out (by kernel_rfl)) (fun _ _ _ h => h) (Or.inl ⟨by rfl, ?_⟩) ?_ ?_
    rotate_left
    ·
     intro w'
     go_simp
     with_reducible rfl
    rotate_left
    ·
     simp only [Act.put, sT, sZ, sS, i64_w, i32_w]
     rfl
    refine pure_ (i := 3) (N := some 33) (v := ?_) (a' := ?_) #[true, false, true, true, false, false, false, false, false, false, false, false] rfl rfl (any_of HT_.out (by kernel_rfl)) (fun _ _ _ h => h) (Or.inl ⟨by rfl, ?_⟩) ?_ ?_
    rotate_left
    ·
     intro w'
     go_simp
     with_reducible rfl
    rotate_left
    ·
     simp only [Act.put, sT, sZ, sS, i64_w, i32_w]
     rfl
    refine pure_ (i := 5) (N := some 35) (v := ?_) (a' := ?_) #[true, false, true, true, false, true, false, false, false, false, false, false] rfl rfl (any_of HT_.out (by kernel_rfl)) (fun _ _ _ h => h) (Or.inl ⟨by rfl, ?_⟩) ?_ ?_
    rotate_left
    ·
     intro w'
     go_simp
     with_reducible rfl
    rotate_left
    ·
     simp only [Act.put, sT, sZ, sS, i64_w, i32_w]
     rfl
    refine take_ (i := 1) (N := some 31) (v := ?_) (a' := ?_) #[true, true, true, true, false, true, false, false, false, false, false, false] rfl rfl (take_ofW HT_.out HW_.out (by kernel_rfl)) (fun _ _ _ h => h) (Or.inl ⟨by rfl, ?_⟩) hHeld ?_ ?_
    rotate_left
    ·
     rintro w' ⟨s0, s1, s2⟩
     go_simp
     with_reducible rfl
    rotate_left
    ·
     simp only [Act.put, sT, sZ, sS, i64_w, i32_w]
     rfl
    refine pure_ (i := 6) (N := some 36) (v := ?_) (a' := ?_) #[true, true, true, true, false, true, true, false, false, false, false, false] rfl rfl (any_of HT_.out (by kernel_rfl)) (fun _ _ _ h => h) (Or.inl ⟨by rfl, ?_⟩) ?_ ?_
    rotate_left
    ·
     intro w'
     go_simp
     with_reducible rfl
    rotate_left
    ·
     simp only [Act.put, sT, sZ, sS, i64_w, i32_w]
     rfl
    refine pure_ (i := 7) (N := some 37) (v := ?_) (a' := ?_) #[true, true, true, true, false, true, true, true, false, false, false, false] rfl rfl (any_of HT_.out (by kernel_rfl)) (fun _ _ _ h => h) (Or.inl ⟨by rfl, ?_⟩) ?_ ?_
    rotate_left
    ·
     intro w'
     go_simp
     with_reducible rfl
    rotate_left
    ·
     simp only [Act.put, sT, sZ, sS, i64_w, i32_w]
     rfl
    refine take_ (i := 4) (N := some 34) (v := ?_) (a' := ?_) #[true, true, true, true, true, true, true, true, false, false, false, false] rfl rfl (take_ofW HT_.out HW_.out (by kernel_rfl)) (fun _ _ _ h => h) (Or.inl ⟨by rfl, ?_⟩) hHeld ?_ ?_
    rotate_left
    ·
     rintro w' ⟨s0, s1, s2⟩
     go_simp
     with_reducible rfl
    rotate_left
    ·
     simp only [Act.put, sT, sZ, sS, i64_w, i32_w]
     rfl
    refine one_ (i := 8) (N := none) #[true, true, true, true, true, true, true, true, true, false, false, false] rfl rfl (one_of HT_.out (by kernel_rfl)) (by decide) (fun K hK => ?_)
    refine skip_ (w1 := ?_) (by rfl) rfl ?_ ?_
    rotate_left
    ·
     go_simp
     rfl
    refine hK.out _ _ ⟨((cell_far (p := ⟨go17, _, none⟩) (by have h_ := Kd.R_ne HO_280000.out BK279.out (by decide); intro e_; replace e_ : gb279 = go17 := e_; exact h_ (by rw [e_]; rfl)) _).trans (hHeld.1)), ((cell_far (p := ⟨go17, _, none⟩) (by have h_ := Kd.R_ne HO_280000.out BK279.out (by decide); intro e_; replace e_ : gb279 = go17 := e_; exact h_ (by rw [e_]; rfl)) _).trans (hHeld.2.1)), ((cell_far (p := ⟨go17, _, none⟩) (by have h_ := Kd.R_ne HO_280000.out BK279.out (by decide); intro e_; replace e_ : gb279 = go17 := e_; exact h_ (by rw [e_]; rfl)) _).trans (hHeld.2.2))⟩ (fun hHeld => ?_)
    clear hK K
    refine pure_ (i := 9) (N := some 38) (v := ?_) (a' := ?_) #[true, true, true, true, true, true, true, true, true, true, false, false] rfl rfl (any_of HT_.out (by kernel_rfl)) (fun _ _ _ h => h) (Or.inl ⟨by rfl, ?_⟩) ?_ ?_
    rotate_left
    ·
     intro w'
     go_simp
     with_reducible rfl
    rotate_left
    ·
     simp only [Act.put, sT, sZ, sS, i64_w, i32_w]
     rfl
    refine pure_ (i := 10) (N := some 39) (v := ?_) (a' := ?_) #[true, true, true, true, true, true, true, true, true, true, true, false] rfl rfl (any_of HT_.out (by kernel_rfl)) (fun _ _ _ h => h) (Or.inl ⟨by rfl, ?_⟩) ?_ ?_
    rotate_left
    ·
     intro w'
     go_simp
     with_reducible rfl
    rotate_left
    ·
     simp only [Act.put, sT, sZ, sS, i64_w, i32_w]
     rfl
    refine one_ (i := 11) (N := none) #[true, true, true, true, true, true, true, true, true, true, true, true] rfl rfl (one_of HT_.out (by kernel_rfl)) (by decide) (fun K hK => ?_)
    refine skip_ (w1 := ?_) (by rfl) rfl ?_ ?_
    rotate_left
    ·
     go_simp
     rfl
    refine hK.out _ _ ⟨((cell_far (p := ⟨go17, _, none⟩) (by have h_ := Kd.R_ne HO_280000.out BK279.out (by decide); intro e_; replace e_ : gb279 = go17 := e_; exact h_ (by rw [e_]; rfl)) _).trans (hHeld.1)), ((cell_far (p := ⟨go17, _, none⟩) (by have h_ := Kd.R_ne HO_280000.out BK279.out (by decide); intro e_; replace e_ : gb279 = go17 := e_; exact h_ (by rw [e_]; rfl)) _).trans (hHeld.2.1)), ((cell_far (p := ⟨go17, _, none⟩) (by have h_ := Kd.R_ne HO_280000.out BK279.out (by decide); intro e_; replace e_ : gb279 = go17 := e_; exact h_ (by rw [e_]; rfl)) _).trans (hHeld.2.2))⟩ (fun hHeld => ?_)
    clear hK K
    refine done_ (done_of HT_.out (by kernel_rfl)) ?_
    try go_wp2
    go_roundg k1
    case measure => have := HK1.out; omega
    case rel => exact ⟨(wrap64 (x27_1 + 1)), (y281), (.slice (some ⟨go17, 0, none⟩) x280000_1.length co17), (by first | rfl | (simp; done) | (simp [*]; done)), H', ⟨by have := HK1.out; omega⟩, ⟨by (with_reducible repeat (first | apply Kd.R_alloc | apply Kd.R_drewN | apply Kd.R_drew)); exact HQ21.out⟩, ⟨by (with_reducible repeat (first | apply Kd.R_alloc | apply Kd.R_drewN | apply Kd.R_drew)); exact Kd.R_mono (Kd.R_far (p := ⟨go17, (x27_1 : Int).toNat * 5 + 2, none⟩) (Kd.R_far (p := ⟨go17, (x27_1 : Int).toNat * 5 + 3, none⟩) (Kd.R_types HO_280001.out GG17.out (by decide)) (fun _ hk => hk.2) (.bool true)) (fun _ hk => hk.2) (.int .i64 1)) (fun _ hk => trivial)⟩, ⟨by (with_reducible repeat (first | refine kN ?_ _ | refine kD ?_ | refine kA ?_ _)); refine blk_far ?_ (by have h_ := Kd.R_ne HO_280000.out BK279.out (by decide); intro e_; exact h_ (by rw [e_]; rfl)) _; (with_reducible repeat (first | refine kN ?_ _ | refine kD ?_ | refine kA ?_ _)); refine blk_far ?_ (by have h_ := Kd.R_ne HO_280000.out BK279.out (by decide); intro e_; exact h_ (by rw [e_]; rfl)) _; (with_reducible repeat (first | refine kN ?_ _ | refine kD ?_ | refine kA ?_ _)); exact BK279.out⟩, ⟨by repeat (first | (with_reducible first | exact HB.out | apply bA | apply bN | apply bD | refine below_set ?_ GB17.out | refine below_set ?_ GB17.out | refine below_set ?_ GE279.out) | exact HB.out)⟩⟩
   rw [if_neg c14] at H
   have c14b0 : decide (x27_1 < (t271.length : Int)) = false := decide_eq_false c14
   clear c14
   replace H := Option.bind_eq_some_iff.mp H
   obtain ⟨t282, A220, H⟩ := H
   replace H : (if 0 ≤ t282 then (if t282 < (t274.length : Int) then ((feeder_Path.f k1 x280000_1 t274 t277 (rd t274 t282)).bind fun t284 => ((feeder_Open.f k1 x280000_1 t274 t277 (rd t274 t282) 0).bind fun bt288 => (if bt288.2.2.2 = 0 then (minecontrollaw18_FeederChain.j1 k1 t282 t284 ((t284.length : Int) == 0) x280000_1 t274 t277 bt288.1 bt288.2.1 bt288.2.2.1) else (minecontrollaw18_FeederChain.j1 k1 t282 t284 true x280000_1 t274 t277 bt288.1 bt288.2.1 bt288.2.2.1)))) else (none)) else (none)) = some r := H
   have A22 := aM A220
   clear A220
   by_cases c23 : 0 ≤ t282
   rotate_left
   ·
    rw [if_neg c23] at H
    exact absurd H (by simp)
   rw [if_pos c23] at H
   have c23b0 : decide (0 ≤ t282) = true := decide_eq_true c23
   clear c23
   by_cases c24 : t282 < (t274.length : Int)
   rotate_left
   ·
    rw [if_neg c24] at H
    exact absurd H (by simp)
   rw [if_pos c24] at H
   have c24b0 : decide (t282 < (t274.length : Int)) = true := decide_eq_true c24
   clear c24
   replace H := Option.bind_eq_some_iff.mp H
   obtain ⟨t284, A250, H⟩ := H
   replace H : ((feeder_Open.f k1 x280000_1 t274 t277 (rd t274 t282) 0).bind fun bt288 => (if bt288.2.2.2 = 0 then (minecontrollaw18_FeederChain.j1 k1 t282 t284 ((t284.length : Int) == 0) x280000_1 t274 t277 bt288.1 bt288.2.1 bt288.2.2.1) else (minecontrollaw18_FeederChain.j1 k1 t282 t284 true x280000_1 t274 t277 bt288.1 bt288.2.1 bt288.2.2.1))) = some r := H
   have A25 := aM A250
   clear A250
   replace H := Option.bind_eq_some_iff.mp H
   obtain ⟨⟨t288, t291, t294, t295⟩, A260, H⟩ := H
   replace H : (if t295 = 0 then (minecontrollaw18_FeederChain.j1 k1 t282 t284 ((t284.length : Int) == 0) x280000_1 t274 t277 t288 t291 t294) else (minecontrollaw18_FeederChain.j1 k1 t282 t284 true x280000_1 t274 t277 t288 t291 t294)) = some r := H
   have A26 := aM A260
   clear A260
   have HC27 := aM H
   clear H
   obtain ⟨hcz28_0, hcz28_1, hcz28_2, hfz28_0, hfz28_1, hfz28_2⟩ := blk3 BK279.out
   try go_wp2_with (first | ((with_reducible refine gate_callee (f := 12) rfl ?_); refine goesL_ (some 45) rfl rfl Try.func12 (by kernel_rfl) rfl #[.int .i64 a1, .int .i64 (t274.length : Int)] rfl (by first | rfl | (simp only [List.map_toArray, List.map_cons, List.map_nil, List.length_drop, List.length_take]; try rfl)) ?_; (with_reducible refine (minecontroldraw_Mod.calls a1 (t274.length : Int) t282 _ A22.out).mono ?_); rintro e w' ⟨rfl, ⟨nd, rfl⟩⟩; refine ⟨_, rfl, ?_⟩; (try (rw [drewN_self wr]; generalize hq_ : World.drewN wr _ = wr; have n0_ : Aside0 (Kd.R k32 32 wr w.heap.size (fun _ => True) u280000 x280000_1) := ⟨by rw [← hq_]; exact (R_mv HO_280000.out)⟩; have n1_ : Aside0 (Kd.R (Kd.int .i64) 3 wr w.heap.size (fun _ => True) (.slice Ao13 t274.length co13) t274) := ⟨by rw [← hq_]; exact (R_mv HO_280001.out)⟩; have n2_ : Aside0 (wr.heap[gb279]? = some (.cells #[u280000, .slice Ao13 t274.length co13, .int .i64 t277] 28 (0, 0))) := ⟨by rw [← hq_]; exact (by (with_reducible repeat (first | refine kN ?_ _ | refine kD ?_ | refine kA ?_ _)); exact BK279.out)⟩; have n3_ : Aside0 (Below w.heap.size w wr) := ⟨by rw [← hq_]; exact (by repeat (first | (with_reducible first | exact HB.out | apply bA | apply bN | apply bD | refine below_set ?_ GE279.out) | exact HB.out))⟩; clear HO_280000 HO_280001 BK279 HB hq_; have HO_280000 := n0_; have HO_280001 := n1_; have BK279 := n2_; have HB := n3_; clear n0_ n1_ n2_ n3_))))
   replace HO_280000 := aM (Kd.R_drew HO_280000.out)
   replace HO_280001 := aM (Kd.R_drew HO_280001.out)
   replace BK279 := aM (blk_drew BK279.out)
   replace HB := aM (below_drew1 HB.out)
   have p283 : 0 ≤ (t282 : Int) := of_decide_eq_true (by first | (with_reducible assumption) | assumption)
   have q283 : t282 < (t274.length : Int) := of_decide_eq_true (by first | (with_reducible assumption) | assumption)
   obtain ⟨ad283, e283, hx283_0⟩ := Kd.at_int (Kd.R_reads' HO_280001.out).2.2 t282 p283 q283
   cases e283
   replace p283 := eq_true p283
   replace q283 := eq_true q283
   obtain ⟨Ao30, co30, eo30⟩ := Kd.R_slice HO_280000.out
   (first | subst eo30 | (injection eo30 with f1_ f2_ f3_; have f4_ := f1_.symm; have f5_ := f3_.symm; clear f1_ f2_ f3_; subst f4_; subst f5_))
   refine start_ (n := 8) (S := fun w' => w'.cell? ⟨gb279, 0, none⟩ = some (.slice Ao30 x280000_1.length co30) ∧ w'.cell? ⟨gb279, 1, none⟩ = some (.slice (some ad283) t274.length co13) ∧ w'.cell? ⟨gb279, 2, none⟩ = some (.int .i64 t277) ∧ w'.cell? (ad283.add (t282).toNat) = some (.int .i64 (rd t274 t282))) (ds := []) #[false, false, false, false, false, false, false, false] (by kernel_rfl) rfl rfl ⟨(blk_cell BK279.out 0).trans rfl, (blk_cell BK279.out 1).trans rfl, (blk_cell BK279.out 2).trans rfl, hx283_0⟩ (fun hHeld => ?_); refine with_tabW minecontrollaw18_FeederChain.tab9 minecontrollaw18_FeederChain.bits9 (fun HT_ HW_ => ?_)
   generalize wr.drew = w29 at HO_280000 HO_280001 BK279 HB hx283_0 hHeld ⊢
   refine pure_ (i := 1) (N := some 47) (v := ?_) (a' := ?_) #[false, true, false, false, false, false, false, false] rfl rfl (any_of HT_.out (by kernel_rfl)) (fun _ _ _ h => h) (Or.inl ⟨by rfl, ?_⟩) ?_ ?_
   rotate_left
   ·
    intro w'
    go_simp
    with_reducible rfl
   rotate_left
   ·
    simp only [Act.put, sT, sZ, sS, i64_w, i32_w]
    rfl
   refine pure_ (i := 3) (N := some 49) (v := ?_) (a' := ?_) #[false, true, false, true, false, false, false, false] rfl rfl (any_of HT_.out (by kernel_rfl)) (fun _ _ _ h => h) (Or.inl ⟨by rfl, ?_⟩) ?_ ?_
   rotate_left
   ·
    intro w'
    go_simp
    with_reducible rfl
   rotate_left
   ·
    simp only [Act.put, sT, sZ, sS, i64_w, i32_w]
    rfl
   refine take_ (i := 0) (N := some 46) (v := ?_) (a' := ?_) #[true, true, false, true, false, false, false, false] rfl rfl (take_ofW HT_.out HW_.out (by kernel_rfl)) (fun _ _ _ h => h) (Or.inl ⟨by rfl, ?_⟩) hHeld ?_ ?_
   rotate_left
   ·
    rintro w' ⟨s0, s1, s2, s3⟩
    go_simp
    with_reducible rfl
   rotate_left
   ·
    simp only [Act.put, sT, sZ, sS, i64_w, i32_w]
    rfl
   refine take_ (i := 2) (N := some 48) (v := ?_) (a' := ?_) #[true, true, true, true, false, false, false, false] rfl rfl (take_ofW HT_.out HW_.out (by kernel_rfl)) (fun _ _ _ h => h) (Or.inl ⟨by rfl, ?_⟩) hHeld ?_ ?_
   rotate_left
   ·
    rintro w' ⟨s0, s1, s2, s3⟩
    go_simp
    with_reducible rfl
   rotate_left
   ·
    simp only [Act.put, sT, sZ, sS, i64_w, i32_w]
    rfl
   refine pure_ (i := 4) (N := some 50) (v := ?_) (a' := ?_) #[true, true, true, true, true, false, false, false] rfl rfl (any_of HT_.out (by kernel_rfl)) (fun _ _ _ h => h) (Or.inl ⟨by rfl, ?_⟩) ?_ ?_
   rotate_left
   ·
    intro w'
    go_simp
    with_reducible rfl
   rotate_left
   ·
    simp only [Act.put, sT, sZ, sS, i64_w, i32_w]
    rfl
   refine take_ (i := 5) (N := some 51) (v := ?_) (a' := ?_) #[true, true, true, true, true, true, false, false] rfl rfl (take_ofW HT_.out HW_.out (by kernel_rfl)) (fun _ _ _ h => h) (Or.inl ⟨by rfl, ?_⟩) hHeld ?_ ?_
   rotate_left
   ·
    rintro w' ⟨s0, s1, s2, s3⟩
    go_simp
    with_reducible rfl
   rotate_left
   ·
    simp only [Act.put, sT, sZ, sS, i64_w, i32_w]
    rfl
   refine one_ (i := 6) (N := some 52) #[true, true, true, true, true, true, true, false] rfl rfl (one_of HT_.out (by kernel_rfl)) (by decide) (fun K hK => ?_)
   refine goes_ Try.func13 (by kernel_rfl) rfl #[.agg #[.slice Ao30 x280000_1.length co30, .slice (some ad283) t274.length co13, .int .i64 t277], .int .i64 (rd t274 t282)] (by rfl) rfl rfl (by first | rfl | (simp only [List.map_toArray, List.map_cons, List.map_nil, List.length_drop, List.length_take]; try rfl)) ?_
   with_reducible refine (feeder_Path.calls k1 _ _ x280000_1 _ _ t274 t277 (rd t274 t282) t284 _ ?side1 ?side2 ?side3 ?side4 A25.out).mono ?_
   (case side1 => exact C_mv (Kd.R_reads' HO_280000.out).2.2)
   (case side2 => exact (Kd.R_reads' HO_280000.out).2.1)
   (case side3 => exact C_mv (Kd.R_reads' HO_280001.out).2.2)
   (case side4 => exact (Kd.R_reads' HO_280001.out).2.1)
   rintro e w31 ⟨v285, rfl, ho0, hb⟩
   have HS3_ := (hb.cell (World.block_lt_of_cell? _ _ (hHeld.2.2.2))).trans (hHeld.2.2.2)
   refine ⟨_, rfl, ?_⟩
   replace HO_280000 := aM (Kd.R_below (R_mv HO_280000.out) hb)
   have HO286 := aM (Kd.R_lower (Kd.R_new' ho0 (Kd.R_lt (R_mv HO_280001.out))) (below_size (by repeat (first | (with_reducible first | exact HB.out | apply bA | apply bN | apply bD | refine below_set ?_ GE279.out) | exact HB.out))))
   replace HO_280001 := aM (Kd.R_elder' (R_mv HO_280001.out) (Kd.R_base ho0) hb)
   replace BK279 := aM (blk_below (blk_mv BK279.out) hb)
   replace HB := aM (below_step (by repeat (first | (with_reducible first | exact HB.out | apply bA | apply bN | apply bD | refine below_set ?_ GE279.out) | exact HB.out)) hb)
   (try clear hb)
   (try clear hb2)
   (try clear hge)
   (try clear hk)
   (try clear hi)
   (try clear ho0)
   refine hK.out _ _ ⟨(blk_cell BK279.out 0).trans rfl, (blk_cell BK279.out 1).trans rfl, (blk_cell BK279.out 2).trans rfl, HS3_⟩ (fun hHeld => ?_)
   clear hK K
   refine norm_ (a' := ?_) ?_ ?_
   rotate_left
   ·
    show Act.put _ (some 52) _ = _
    simp only [Act.put, sT, sZ, sS, i64_w, i32_w]
    rfl
   refine pure_ (i := 7) (N := some 9) (v := ?_) (a' := ?_) #[true, true, true, true, true, true, true, true] rfl rfl (any_of HT_.out (by kernel_rfl)) (fun _ _ _ h => h) (Or.inl ⟨by rfl, ?_⟩) ?_ ?_
   rotate_left
   ·
    intro w'
    go_simp
    with_reducible rfl
   rotate_left
   ·
    simp only [Act.put, sT, sZ, sS, i64_w, i32_w]
    rfl
   refine done_ (done_of HT_.out (by kernel_rfl)) ?_
   try go_wp2
   replace HO_280000 := aM (Kd.R_drew HO_280000.out)
   replace HO_280001 := aM (Kd.R_drew HO_280001.out)
   replace HO286 := aM (Kd.R_drew HO286.out)
   replace BK279 := aM (blk_drew BK279.out)
   replace HB := aM (below_drew1 HB.out)
   have p287 : 0 ≤ (t282 : Int) := of_decide_eq_true (by first | (with_reducible assumption) | assumption)
   have q287 : t282 < (t274.length : Int) := of_decide_eq_true (by first | (with_reducible assumption) | assumption)
   obtain ⟨ad287, e287, hx287_0⟩ := Kd.at_int (Kd.R_reads' HO_280001.out).2.2 t282 p287 q287
   obtain rfl : ad283 = ad287 := (by injection e287)
   replace p287 := eq_true p287
   replace q287 := eq_true q287
   refine start_ (n := 13) (S := fun w' => w'.cell? ⟨gb279, 0, none⟩ = some (.slice Ao30 x280000_1.length co30) ∧ w'.cell? ⟨gb279, 1, none⟩ = some (.slice (some ad283) t274.length co13) ∧ w'.cell? ⟨gb279, 2, none⟩ = some (.int .i64 t277) ∧ w'.cell? (ad283.add (t282).toNat) = some (.int .i64 (rd t274 t282))) (ds := []) #[false, false, false, false, false, false, false, false, false, false, false, false, false] (by kernel_rfl) rfl rfl ⟨(blk_cell BK279.out 0).trans rfl, (blk_cell BK279.out 1).trans rfl, (blk_cell BK279.out 2).trans rfl, hx287_0⟩ (fun hHeld => ?_); refine with_tabW minecontrollaw18_FeederChain.tab10 minecontrollaw18_FeederChain.bits10 (fun HT_ HW_ => ?_)
   generalize w31.drew = w32 at HO_280000 HO_280001 HO286 BK279 HB hx287_0 hHeld ⊢
   refine pure_ (i := 1) (N := some 55) (v := ?_) (a' := ?_) #[false, true, false, false, false, false, false, false, false, false, false, false, false] rfl rfl (any_of HT_.out (by kernel_rfl)) (fun _ _ _ h => h) (Or.inl ⟨by rfl, ?_⟩) ?_ ?_
   rotate_left
   ·
    intro w'
    go_simp
    with_reducible rfl
   rotate_left
   ·
    simp only [Act.put, sT, sZ, sS, i64_w, i32_w]
    rfl
   refine pure_ (i := 3) (N := some 57) (v := ?_) (a' := ?_) #[false, true, false, true, false, false, false, false, false, false, false, false, false] rfl rfl (any_of HT_.out (by kernel_rfl)) (fun _ _ _ h => h) (Or.inl ⟨by rfl, ?_⟩) ?_ ?_
   rotate_left
   ·
    intro w'
    go_simp
    with_reducible rfl
   rotate_left
   ·
    simp only [Act.put, sT, sZ, sS, i64_w, i32_w]
    rfl
   refine take_ (i := 0) (N := some 54) (v := ?_) (a' := ?_) #[true, true, false, true, false, false, false, false, false, false, false, false, false] rfl rfl (take_ofW HT_.out HW_.out (by kernel_rfl)) (fun _ _ _ h => h) (Or.inl ⟨by rfl, ?_⟩) hHeld ?_ ?_
   rotate_left
   ·
    rintro w' ⟨s0, s1, s2, s3⟩
    go_simp
    with_reducible rfl
   rotate_left
   ·
    simp only [Act.put, sT, sZ, sS, i64_w, i32_w]
    rfl
   refine take_ (i := 2) (N := some 56) (v := ?_) (a' := ?_) #[true, true, true, true, false, false, false, false, false, false, false, false, false] rfl rfl (take_ofW HT_.out HW_.out (by kernel_rfl)) (fun _ _ _ h => h) (Or.inl ⟨by rfl, ?_⟩) hHeld ?_ ?_
   rotate_left
   ·
    rintro w' ⟨s0, s1, s2, s3⟩
    go_simp
    with_reducible rfl
   rotate_left
   ·
    simp only [Act.put, sT, sZ, sS, i64_w, i32_w]
    rfl
   refine pure_ (i := 4) (N := some 58) (v := ?_) (a' := ?_) #[true, true, true, true, true, false, false, false, false, false, false, false, false] rfl rfl (any_of HT_.out (by kernel_rfl)) (fun _ _ _ h => h) (Or.inl ⟨by rfl, ?_⟩) ?_ ?_
   rotate_left
   ·
    intro w'
    go_simp
    with_reducible rfl
   rotate_left
   ·
    simp only [Act.put, sT, sZ, sS, i64_w, i32_w]
    rfl
   refine take_ (i := 5) (N := some 59) (v := ?_) (a' := ?_) #[true, true, true, true, true, true, false, false, false, false, false, false, false] rfl rfl (take_ofW HT_.out HW_.out (by kernel_rfl)) (fun _ _ _ h => h) (Or.inl ⟨by rfl, ?_⟩) hHeld ?_ ?_
   rotate_left
   ·
    rintro w' ⟨s0, s1, s2, s3⟩
    go_simp
    with_reducible rfl
   rotate_left
   ·
    simp only [Act.put, sT, sZ, sS, i64_w, i32_w]
    rfl
   refine join_ (σ := Value × Value × Nat) 2 #[true, true, true, true, true, true, true, true, true, true, true, false, false] (fun s_ => [(60, .tuple #[.agg #[s_.1, s_.2.1, .int .i64 t294], .int .i64 t295]), (10, .pointer (some ⟨s_.2.2, 0, none⟩)), (53, .tuple #[.agg #[s_.1, s_.2.1, .int .i64 t294], .int .i64 t295]), (61, .agg #[s_.1, s_.2.1, .int .i64 t294]), (62, .int .i64 t295)]) (fun s_ w' => (w'.cell? ⟨gb279, 0, none⟩ = some (.slice Ao30 x280000_1.length co30) ∧ w'.cell? ⟨gb279, 1, none⟩ = some (.slice (some ad283) t274.length co13) ∧ w'.cell? ⟨gb279, 2, none⟩ = some (.int .i64 t277) ∧ w'.cell? (ad283.add (t282).toNat) = some (.int .i64 (rd t274 t282))) ∧ (Kd.R (Kd.int .i64) 3 w' w.heap.size (fun k_ => some k_ ≠ (s_.2.1 : Value).ownBlock ∧ some k_ ≠ (.slice (some ad283) t274.length co13 : Value).ownBlock) v285 t284) ∧ (Kd.R k32 32 w' w.heap.size (fun k_ => some k_ ≠ (.slice Ao30 x280000_1.length co30 : Value).ownBlock) s_.1 t288) ∧ (Kd.R (Kd.int .i64) 3 w' w.heap.size (fun k_ => some k_ ≠ (v285 : Value).ownBlock ∧ some k_ ≠ (.slice (some ad283) t274.length co13 : Value).ownBlock) s_.2.1 t291) ∧ (Kd.R k32 32 w' w.heap.size (fun k_ => some k_ ≠ (s_.1 : Value).ownBlock) (.slice Ao30 x280000_1.length co30) x280000_1) ∧ (Kd.R (Kd.int .i64) 3 w' w.heap.size (fun k_ => some k_ ≠ (v285 : Value).ownBlock ∧ some k_ ≠ (s_.2.1 : Value).ownBlock) (.slice (some ad283) t274.length co13) t274) ∧ (w'.heap[gb279]? = some (.cells #[.slice Ao30 x280000_1.length co30, .slice (some ad283) t274.length co13, .int .i64 t277] 28 (0, 0))) ∧ (w'.heap[s_.2.2]? = some (.cells #[.slice none 0 0, .slice none 0 0, .int .i64 0] 28 (0, 0))) ∧ (w.heap.size ≤ s_.2.2) ∧ (w.heap.size ≤ s_.2.2) ∧ (gb279 ≠ s_.2.2) ∧ (s_.2.2 ≠ gb279) ∧ (Below w.heap.size w w')) ?_ ?_
   rotate_left
   ·
    intro hCont
    refine two_ (i := 6) (j := 10) (Ni := some 60) (Nj := some 10) #[true, true, true, true, true, true, true, false, false, false, false, false, false] #[true, true, true, true, true, true, false, false, false, false, true, false, false] rfl rfl rfl rfl (two_of HT_.out (by kernel_rfl)) (by decide) (by decide) (fun K hK => ?_) (fun K hK => ?_)
    ·
     skip
     refine goes_ Try.func14 (by kernel_rfl) rfl #[.agg #[.slice Ao30 x280000_1.length co30, .slice (some ad283) t274.length co13, .int .i64 t277], .int .i64 (rd t274 t282), .int .i64 0] (by rfl) rfl rfl (by first | rfl | (simp only [List.map_toArray, List.map_cons, List.map_nil, List.length_drop, List.length_take]; try rfl)) ?_
     with_reducible refine (feeder_Open.calls k1 _ _ x280000_1 _ _ t274 t277 (rd t274 t282) 0 t288 t291 t294 t295 _ ?side1 ?side2 ?side3 ?side4 A26.out).mono ?_
     (case side1 => exact C_mv (Kd.R_reads' HO_280000.out).2.2)
     (case side2 => exact (Kd.R_reads' HO_280000.out).2.1)
     (case side3 => exact C_mv (Kd.R_reads' HO_280001.out).2.2)
     (case side4 => exact (Kd.R_reads' HO_280001.out).2.1)
     rintro e w33 ⟨v289, v292, rfl, ho0, ho1, hb⟩
     have HS3_ := (hb.cell (World.block_lt_of_cell? _ _ (hHeld.2.2.2))).trans (hHeld.2.2.2)
     refine ⟨_, rfl, ?_⟩
     have HO290 := aM (Kd.R_lower (Kd.R_new' ho0 (Kd.R_lt (R_mv HO_280000.out))) (below_size (by repeat (first | (with_reducible first | exact HB.out | apply bA | apply bN | apply bD | refine below_set ?_ GE279.out) | exact HB.out))))
     replace HO_280000 := aM (Kd.R_elder' (R_mv HO_280000.out) (Kd.R_base ho0) hb)
     have HO293 := aM (Kd.R_lower (Kd.R_new' (Kd.R_new' ho1 (Kd.R_lt (R_mv HO_280001.out))) (Kd.R_lt (R_mv HO286.out))) (below_size (by repeat (first | (with_reducible first | exact HB.out | apply bA | apply bN | apply bD | refine below_set ?_ GE279.out) | exact HB.out))))
     replace HO_280001 := aM (Kd.R_elder' (R_mv HO_280001.out) (Kd.R_base ho1) hb)
     replace HO286 := aM (Kd.R_elder' (R_mv HO286.out) (Kd.R_base ho1) hb)
     replace BK279 := aM (blk_below (blk_mv BK279.out) hb)
     replace HB := aM (below_step (by repeat (first | (with_reducible first | exact HB.out | apply bA | apply bN | apply bD | refine below_set ?_ GE279.out) | exact HB.out)) hb)
     (try clear hb)
     (try clear hb2)
     (try clear hge)
     (try clear hk)
     (try clear hi)
     (try clear ho0)
     (try clear ho1)
     refine hK.out _ _ ⟨(blk_cell BK279.out 0).trans rfl, (blk_cell BK279.out 1).trans rfl, (blk_cell BK279.out 2).trans rfl, HS3_⟩ (fun hHeld => ?_)
     clear hK K
     refine norm_ (a' := ?_) ?_ ?_
     rotate_left
     ·
      show Act.put _ (some 60) _ = _
      simp only [Act.put, sT, sZ, sS, i64_w, i32_w]
      rfl
     refine pure_ (i := 7) (N := some 53) (v := ?_) (a' := ?_) #[true, true, true, true, true, true, true, true, false, false, false, false, false] rfl rfl (any_of HT_.out (by kernel_rfl)) (fun _ _ _ h => h) (Or.inl ⟨by rfl, ?_⟩) ?_ ?_
     rotate_left
     ·
      intro w'
      go_simp
      with_reducible rfl
     rotate_left
     ·
      simp only [Act.put, sT, sZ, sS, i64_w, i32_w]
      rfl
     refine pure_ (i := 8) (N := some 61) (v := ?_) (a' := ?_) #[true, true, true, true, true, true, true, true, true, false, false, false, false] rfl rfl (any_of HT_.out (by kernel_rfl)) (fun _ _ _ h => h) (Or.inl ⟨by rfl, ?_⟩) ?_ ?_
     rotate_left
     ·
      intro w'
      go_simp
      with_reducible rfl
     rotate_left
     ·
      simp only [Act.put, sT, sZ, sS, i64_w, i32_w]
      rfl
     refine pure_ (i := 9) (N := some 62) (v := ?_) (a' := ?_) #[true, true, true, true, true, true, true, true, true, true, false, false, false] rfl rfl (any_of HT_.out (by kernel_rfl)) (fun _ _ _ h => h) (Or.inl ⟨by rfl, ?_⟩) ?_ ?_
     rotate_left
     ·
      intro w'
      go_simp
      with_reducible rfl
     rotate_left
     ·
      simp only [Act.put, sT, sZ, sS, i64_w, i32_w]
      rfl
     refine one_ (i := 10) (N := some 10) #[true, true, true, true, true, true, true, true, true, true, true, false, false] rfl rfl (one_of HT_.out (by kernel_rfl)) (by decide) (fun K hK => ?_)
     refine box_step ?hg (N := 10) ?hd (cs := #[.slice none 0 0, .slice none 0 0, .int .i64 0]) (t := 28) ?hr ?_; (case hd => rfl); (case hg => rfl); (case hr => first | (go_simp; done) | (go_simp; rfl))
     intro gb296 hg w34 hbox hb
     have HS3_ := (hb.cell (World.block_lt_of_cell? _ _ (hHeld.2.2.2))).trans (hHeld.2.2.2)
     replace HO_280000 := aM (Kd.R_below (R_mv HO_280000.out) hb)
     replace HO_280001 := aM (Kd.R_below (R_mv HO_280001.out) hb)
     replace HO286 := aM (Kd.R_below (R_mv HO286.out) hb)
     replace HO290 := aM (Kd.R_below (R_mv HO290.out) hb)
     replace HO293 := aM (Kd.R_below (R_mv HO293.out) hb)
     have BK296 := aM (hbox)
     have GW296 := aM ((by rw [hg]; exact (below_size (by repeat (first | (with_reducible first | exact HB.out | apply bA | apply bN | apply bD | refine below_set ?_ GE279.out) | exact HB.out))) : w.heap.size ≤ gb296))
     have GE296 := aM ((by rw [hg]; exact (below_size (by repeat (first | (with_reducible first | exact HB.out | apply bA | apply bN | apply bD | refine below_set ?_ GE279.out) | exact HB.out))) : w.heap.size ≤ gb296))
     replace HB := aM (below_step (by repeat (first | (with_reducible first | exact HB.out | apply bA | apply bN | apply bD | refine below_set ?_ GE279.out) | exact HB.out)) hb)
     have NB279_296 := aM ((by rw [hg]; exact Nat.ne_of_lt (blk_lt (blk_mv BK279.out)) : gb279 ≠ gb296))
     have NB296_279 := aM ((by rw [hg]; exact Nat.ne_of_gt (blk_lt (blk_mv BK279.out)) : gb296 ≠ gb279))
     replace BK279 := aM (blk_below (blk_mv BK279.out) hb)
     clear hb hbox hg
     refine hK.out _ _ ⟨(blk_cell BK279.out 0).trans rfl, (blk_cell BK279.out 1).trans rfl, (blk_cell BK279.out 2).trans rfl, HS3_⟩ (fun hHeld => ?_)
     clear hK K
     refine norm_ (a' := ?_) ?_ ?_
     rotate_left
     ·
      show Act.put _ (some 10) _ = _
      simp only [Act.put, sT, sZ, sS, i64_w, i32_w]
      rfl
     exact norm_ (by simp only [putAll, Act.put, List.setIfInBounds_toArray, List.set_cons_zero, List.set_cons_succ]) (hCont (v289, v292, gb296) _ ⟨hHeld, (by (with_reducible repeat (first | apply Kd.R_alloc | apply Kd.R_drewN | apply Kd.R_drew)); exact Kd.R_mono HO286.out (fun _ hk => ⟨hk.2, hk.1.2⟩)), (by (with_reducible repeat (first | apply Kd.R_alloc | apply Kd.R_drewN | apply Kd.R_drew)); exact Kd.R_mono HO290.out (fun _ hk => hk.2)), (by (with_reducible repeat (first | apply Kd.R_alloc | apply Kd.R_drewN | apply Kd.R_drew)); exact Kd.R_mono HO293.out (fun _ hk => ⟨hk.2, hk.1.2⟩)), (by (with_reducible repeat (first | apply Kd.R_alloc | apply Kd.R_drewN | apply Kd.R_drew)); exact Kd.R_mono HO_280000.out (fun _ hk => hk.2)), (by (with_reducible repeat (first | apply Kd.R_alloc | apply Kd.R_drewN | apply Kd.R_drew)); exact Kd.R_mono HO_280001.out (fun _ hk => ⟨hk.1.2, hk.2⟩)), (by (with_reducible repeat (first | refine kN ?_ _ | refine kD ?_ | refine kA ?_ _)); exact BK279.out), (by (with_reducible repeat (first | refine kN ?_ _ | refine kD ?_ | refine kA ?_ _)); exact BK296.out), GW296.out, GE296.out, NB279_296.out, NB296_279.out, (by repeat (first | (with_reducible first | exact HB.out | apply bA | apply bN | apply bD | refine below_set ?_ GE279.out | refine below_set ?_ GE296.out) | exact HB.out))⟩)
    skip
    refine box_step ?hg (N := 10) ?hd (cs := #[.slice none 0 0, .slice none 0 0, .int .i64 0]) (t := 28) ?hr ?_; (case hd => rfl); (case hg => rfl); (case hr => first | (go_simp; done) | (go_simp; rfl))
    intro gb296 hg w33 hbox hb
    have HS3_ := (hb.cell (World.block_lt_of_cell? _ _ (hHeld.2.2.2))).trans (hHeld.2.2.2)
    replace HO_280000 := aM (Kd.R_below (R_mv HO_280000.out) hb)
    replace HO_280001 := aM (Kd.R_below (R_mv HO_280001.out) hb)
    replace HO286 := aM (Kd.R_below (R_mv HO286.out) hb)
    have BK296 := aM (hbox)
    have GW296 := aM ((by rw [hg]; exact (below_size (by repeat (first | (with_reducible first | exact HB.out | apply bA | apply bN | apply bD | refine below_set ?_ GE279.out) | exact HB.out))) : w.heap.size ≤ gb296))
    have GE296 := aM ((by rw [hg]; exact (below_size (by repeat (first | (with_reducible first | exact HB.out | apply bA | apply bN | apply bD | refine below_set ?_ GE279.out) | exact HB.out))) : w.heap.size ≤ gb296))
    replace HB := aM (below_step (by repeat (first | (with_reducible first | exact HB.out | apply bA | apply bN | apply bD | refine below_set ?_ GE279.out) | exact HB.out)) hb)
    have NB279_296 := aM ((by rw [hg]; exact Nat.ne_of_lt (blk_lt (blk_mv BK279.out)) : gb279 ≠ gb296))
    have NB296_279 := aM ((by rw [hg]; exact Nat.ne_of_gt (blk_lt (blk_mv BK279.out)) : gb296 ≠ gb279))
    replace BK279 := aM (blk_below (blk_mv BK279.out) hb)
    clear hb hbox hg
    refine hK.out _ _ ⟨(blk_cell BK279.out 0).trans rfl, (blk_cell BK279.out 1).trans rfl, (blk_cell BK279.out 2).trans rfl, HS3_⟩ (fun hHeld => ?_)
    clear hK K
    refine norm_ (a' := ?_) ?_ ?_
    rotate_left
    ·
     show Act.put _ (some 10) _ = _
     simp only [Act.put, sT, sZ, sS, i64_w, i32_w]
     rfl
    refine one_ (i := 6) (N := some 60) #[true, true, true, true, true, true, true, false, false, false, true, false, false] rfl rfl (one_of HT_.out (by kernel_rfl)) (by decide) (fun K hK => ?_)
    refine goes_ Try.func14 (by kernel_rfl) rfl #[.agg #[.slice Ao30 x280000_1.length co30, .slice (some ad283) t274.length co13, .int .i64 t277], .int .i64 (rd t274 t282), .int .i64 0] (by rfl) rfl rfl (by first | rfl | (simp only [List.map_toArray, List.map_cons, List.map_nil, List.length_drop, List.length_take]; try rfl)) ?_
    with_reducible refine (feeder_Open.calls k1 _ _ x280000_1 _ _ t274 t277 (rd t274 t282) 0 t288 t291 t294 t295 _ ?side1 ?side2 ?side3 ?side4 A26.out).mono ?_
    (case side1 => exact C_mv (Kd.R_reads' HO_280000.out).2.2)
    (case side2 => exact (Kd.R_reads' HO_280000.out).2.1)
    (case side3 => exact C_mv (Kd.R_reads' HO_280001.out).2.2)
    (case side4 => exact (Kd.R_reads' HO_280001.out).2.1)
    rintro e w34 ⟨v289, v292, rfl, ho0, ho1, hb⟩
    have HS3_ := (hb.cell (World.block_lt_of_cell? _ _ (hHeld.2.2.2))).trans (hHeld.2.2.2)
    refine ⟨_, rfl, ?_⟩
    have HO290 := aM (Kd.R_lower (Kd.R_new' ho0 (Kd.R_lt (R_mv HO_280000.out))) (below_size (by repeat (first | (with_reducible first | exact HB.out | apply bA | apply bN | apply bD | refine below_set ?_ GE279.out | refine below_set ?_ GE296.out) | exact HB.out))))
    replace HO_280000 := aM (Kd.R_elder' (R_mv HO_280000.out) (Kd.R_base ho0) hb)
    have HO293 := aM (Kd.R_lower (Kd.R_new' (Kd.R_new' ho1 (Kd.R_lt (R_mv HO_280001.out))) (Kd.R_lt (R_mv HO286.out))) (below_size (by repeat (first | (with_reducible first | exact HB.out | apply bA | apply bN | apply bD | refine below_set ?_ GE279.out | refine below_set ?_ GE296.out) | exact HB.out))))
    replace HO_280001 := aM (Kd.R_elder' (R_mv HO_280001.out) (Kd.R_base ho1) hb)
    replace HO286 := aM (Kd.R_elder' (R_mv HO286.out) (Kd.R_base ho1) hb)
    replace BK279 := aM (blk_below (blk_mv BK279.out) hb)
    replace BK296 := aM (blk_below (blk_mv BK296.out) hb)
    replace HB := aM (below_step (by repeat (first | (with_reducible first | exact HB.out | apply bA | apply bN | apply bD | refine below_set ?_ GE279.out | refine below_set ?_ GE296.out) | exact HB.out)) hb)
    (try clear hb)
    (try clear hb2)
    (try clear hge)
    (try clear hk)
    (try clear hi)
    (try clear ho0)
    (try clear ho1)
    refine hK.out _ _ ⟨(blk_cell BK279.out 0).trans rfl, (blk_cell BK279.out 1).trans rfl, (blk_cell BK279.out 2).trans rfl, HS3_⟩ (fun hHeld => ?_)
    clear hK K
    refine norm_ (a' := ?_) ?_ ?_
    rotate_left
    ·
     show Act.put _ (some 60) _ = _
     simp only [Act.put, sT, sZ, sS, i64_w, i32_w]
     rfl
    refine pure_ (i := 7) (N := some 53) (v := ?_) (a' := ?_) #[true, true, true, true, true, true, true, true, false, false, true, false, false] rfl rfl (any_of HT_.out (by kernel_rfl)) (fun _ _ _ h => h) (Or.inl ⟨by rfl, ?_⟩) ?_ ?_
    rotate_left
    ·
     intro w'
     go_simp
     with_reducible rfl
    rotate_left
    ·
     simp only [Act.put, sT, sZ, sS, i64_w, i32_w]
     rfl
    refine pure_ (i := 8) (N := some 61) (v := ?_) (a' := ?_) #[true, true, true, true, true, true, true, true, true, false, true, false, false] rfl rfl (any_of HT_.out (by kernel_rfl)) (fun _ _ _ h => h) (Or.inl ⟨by rfl, ?_⟩) ?_ ?_
    rotate_left
    ·
     intro w'
     go_simp
     with_reducible rfl
    rotate_left
    ·
     simp only [Act.put, sT, sZ, sS, i64_w, i32_w]
     rfl
    refine pure_ (i := 9) (N := some 62) (v := ?_) (a' := ?_) #[true, true, true, true, true, true, true, true, true, true, true, false, false] rfl rfl (any_of HT_.out (by kernel_rfl)) (fun _ _ _ h => h) (Or.inl ⟨by rfl, ?_⟩) ?_ ?_
    rotate_left
    ·
     intro w'
     go_simp
     with_reducible rfl
    rotate_left
    ·
     simp only [Act.put, sT, sZ, sS, i64_w, i32_w]
     rfl
    exact norm_ (by simp only [putAll, Act.put, List.setIfInBounds_toArray, List.set_cons_zero, List.set_cons_succ]) (hCont (v289, v292, gb296) _ ⟨hHeld, (by (with_reducible repeat (first | apply Kd.R_alloc | apply Kd.R_drewN | apply Kd.R_drew)); exact Kd.R_mono HO286.out (fun _ hk => ⟨hk.2, hk.1.2⟩)), (by (with_reducible repeat (first | apply Kd.R_alloc | apply Kd.R_drewN | apply Kd.R_drew)); exact Kd.R_mono HO290.out (fun _ hk => hk.2)), (by (with_reducible repeat (first | apply Kd.R_alloc | apply Kd.R_drewN | apply Kd.R_drew)); exact Kd.R_mono HO293.out (fun _ hk => ⟨hk.2, hk.1.2⟩)), (by (with_reducible repeat (first | apply Kd.R_alloc | apply Kd.R_drewN | apply Kd.R_drew)); exact Kd.R_mono HO_280000.out (fun _ hk => hk.2)), (by (with_reducible repeat (first | apply Kd.R_alloc | apply Kd.R_drewN | apply Kd.R_drew)); exact Kd.R_mono HO_280001.out (fun _ hk => ⟨hk.1.2, hk.2⟩)), (by (with_reducible repeat (first | refine kN ?_ _ | refine kD ?_ | refine kA ?_ _)); exact BK279.out), (by (with_reducible repeat (first | refine kN ?_ _ | refine kD ?_ | refine kA ?_ _)); exact BK296.out), GW296.out, GE296.out, NB279_296.out, NB296_279.out, (by repeat (first | (with_reducible first | exact HB.out | apply bA | apply bN | apply bD | refine below_set ?_ GE279.out | refine below_set ?_ GE296.out) | exact HB.out))⟩)
   rintro ⟨v289, v292, gb296⟩ w35 ⟨hS_, h0_, h1_, h2_, h3_, h4_, h5_, h6_, h7_, h8_, h9_, h10_, h11_⟩
   have n0_ : Aside0 (Kd.R (Kd.int .i64) 3 w35 w.heap.size (fun k_ => some k_ ≠ (v292 : Value).ownBlock ∧ some k_ ≠ (.slice (some ad283) t274.length co13 : Value).ownBlock) v285 t284) := ⟨h0_⟩
   have n1_ : Aside0 (Kd.R k32 32 w35 w.heap.size (fun k_ => some k_ ≠ (.slice Ao30 x280000_1.length co30 : Value).ownBlock) v289 t288) := ⟨h1_⟩
   have n2_ : Aside0 (Kd.R (Kd.int .i64) 3 w35 w.heap.size (fun k_ => some k_ ≠ (v285 : Value).ownBlock ∧ some k_ ≠ (.slice (some ad283) t274.length co13 : Value).ownBlock) v292 t291) := ⟨h2_⟩
   have n3_ : Aside0 (Kd.R k32 32 w35 w.heap.size (fun k_ => some k_ ≠ (v289 : Value).ownBlock) (.slice Ao30 x280000_1.length co30) x280000_1) := ⟨h3_⟩
   have n4_ : Aside0 (Kd.R (Kd.int .i64) 3 w35 w.heap.size (fun k_ => some k_ ≠ (v285 : Value).ownBlock ∧ some k_ ≠ (v292 : Value).ownBlock) (.slice (some ad283) t274.length co13) t274) := ⟨h4_⟩
   have n5_ : Aside0 (w35.heap[gb279]? = some (.cells #[.slice Ao30 x280000_1.length co30, .slice (some ad283) t274.length co13, .int .i64 t277] 28 (0, 0))) := ⟨h5_⟩
   have n6_ : Aside0 (w35.heap[gb296]? = some (.cells #[.slice none 0 0, .slice none 0 0, .int .i64 0] 28 (0, 0))) := ⟨h6_⟩
   have n7_ : Aside0 (w.heap.size ≤ gb296) := ⟨h7_⟩
   have n8_ : Aside0 (w.heap.size ≤ gb296) := ⟨h8_⟩
   have n9_ : Aside0 (gb279 ≠ gb296) := ⟨h9_⟩
   have n10_ : Aside0 (gb296 ≠ gb279) := ⟨h10_⟩
   have n11_ : Aside0 (Below w.heap.size w w35) := ⟨h11_⟩
   clear HO_280000
   clear HO_280001
   clear HO286
   clear BK279
   clear HB
   clear h0_ h1_ h2_ h3_ h4_ h5_ h6_ h7_ h8_ h9_ h10_ h11_
   have HO286 := n0_
   have HO290 := n1_
   have HO293 := n2_
   have HO_280000 := n3_
   have HO_280001 := n4_
   have BK279 := n5_
   have BK296 := n6_
   have GW296 := n7_
   have GE296 := n8_
   have NB279_296 := n9_
   have NB296_279 := n10_
   have HB := n11_
   clear n0_ n1_ n2_ n3_ n4_ n5_ n6_ n7_ n8_ n9_ n10_ n11_
   have hHeld : w35.cell? ⟨gb279, 0, none⟩ = some (.slice Ao30 x280000_1.length co30) ∧ w35.cell? ⟨gb279, 1, none⟩ = some (.slice (some ad283) t274.length co13) ∧ w35.cell? ⟨gb279, 2, none⟩ = some (.int .i64 t277) ∧ w35.cell? (ad283.add (t282).toNat) = some (.int .i64 (rd t274 t282)) := hS_
   obtain ⟨Ao36, co36, eo36⟩ := Kd.R_slice HO290.out
   (first | subst eo36 | (injection eo36 with f1_ f2_ f3_; have f4_ := f1_.symm; have f5_ := f3_.symm; clear f1_ f2_ f3_; subst f4_; subst f5_))
   obtain ⟨Ao38, co38, eo38⟩ := Kd.R_slice HO293.out
   (first | subst eo38 | (injection eo38 with f1_ f2_ f3_; have f4_ := f1_.symm; have f5_ := f3_.symm; clear f1_ f2_ f3_; subst f4_; subst f5_))
   refine norm_ (a' := ?_) ?_ ?_
   rotate_left
   ·
    simp only [putAll, Act.put, List.setIfInBounds_toArray, List.set_cons_zero, List.set_cons_succ]
    rfl
   refine one_ (i := 11) (N := none) #[true, true, true, true, true, true, true, true, true, true, true, true, false] rfl rfl (one_of HT_.out (by kernel_rfl)) (by decide) (fun K hK => ?_)
   have hs37 : w35.cell? ⟨gb296, 0, none⟩ = some (.slice none 0 0) := (blk_cell BK296.out 0).trans rfl
   have hfs37 := blk_frozen BK296.out 0
   have hns37_0 := NB279_296.out
   have hms37_0 := NB296_279.out
   have hs39 : w35.cell? ⟨gb296, 1, none⟩ = some (.slice none 0 0) := (blk_cell BK296.out 1).trans rfl
   have hfs39 := blk_frozen BK296.out 1
   have hns39_0 := NB279_296.out
   have hms39_0 := NB296_279.out
   have hs40 : w35.cell? ⟨gb296, 2, none⟩ = some (.int .i64 0) := (blk_cell BK296.out 2).trans rfl
   have hfs40 := blk_frozen BK296.out 2
   have hns40_0 := NB279_296.out
   have hms40_0 := NB296_279.out
   refine skip_ (w1 := ?_) (by rfl) rfl ?_ ?_
   rotate_left
   ·
    go_simp
    rfl
   refine hK.out _ _ ⟨((cell_far (p := ⟨gb296, _, none⟩) NB279_296.out _).trans (((cell_far (p := ⟨gb296, _, none⟩) NB279_296.out _).trans (((cell_far (p := ⟨gb296, _, none⟩) NB279_296.out _).trans (hHeld.1)))))), ((cell_far (p := ⟨gb296, _, none⟩) NB279_296.out _).trans (((cell_far (p := ⟨gb296, _, none⟩) NB279_296.out _).trans (((cell_far (p := ⟨gb296, _, none⟩) NB279_296.out _).trans (hHeld.2.1)))))), ((cell_far (p := ⟨gb296, _, none⟩) NB279_296.out _).trans (((cell_far (p := ⟨gb296, _, none⟩) NB279_296.out _).trans (((cell_far (p := ⟨gb296, _, none⟩) NB279_296.out _).trans (hHeld.2.2.1)))))), ((cell_far (p := ⟨gb296, _, none⟩) (by first | exact Kd.own_blk (Kd.R_ne HO_280001.out BK296.out (by decide)) | (rw [add_block]; exact Kd.own_blk (Kd.R_ne HO_280001.out BK296.out (by decide))) | (show (Addr.add _ _).block ≠ _; rw [add_block]; exact Kd.own_blk (Kd.R_ne HO_280001.out BK296.out (by decide))) | (dsimp only; exact Kd.own_blk (Kd.R_ne HO_280001.out BK296.out (by decide)))) _).trans (((cell_far (p := ⟨gb296, _, none⟩) (by first | exact Kd.own_blk (Kd.R_ne HO_280001.out BK296.out (by decide)) | (rw [add_block]; exact Kd.own_blk (Kd.R_ne HO_280001.out BK296.out (by decide))) | (show (Addr.add _ _).block ≠ _; rw [add_block]; exact Kd.own_blk (Kd.R_ne HO_280001.out BK296.out (by decide))) | (dsimp only; exact Kd.own_blk (Kd.R_ne HO_280001.out BK296.out (by decide)))) _).trans (((cell_far (p := ⟨gb296, _, none⟩) (by first | exact Kd.own_blk (Kd.R_ne HO_280001.out BK296.out (by decide)) | (rw [add_block]; exact Kd.own_blk (Kd.R_ne HO_280001.out BK296.out (by decide))) | (show (Addr.add _ _).block ≠ _; rw [add_block]; exact Kd.own_blk (Kd.R_ne HO_280001.out BK296.out (by decide))) | (dsimp only; exact Kd.own_blk (Kd.R_ne HO_280001.out BK296.out (by decide)))) _).trans (hHeld.2.2.2))))))⟩ (fun hHeld => ?_)
   clear hK K
   refine pure_ (i := 12) (N := some 11) (v := ?_) (a' := ?_) #[true, true, true, true, true, true, true, true, true, true, true, true, true] rfl rfl (any_of HT_.out (by kernel_rfl)) (fun _ _ _ h => h) (Or.inl ⟨by rfl, ?_⟩) ?_ ?_
   rotate_left
   ·
    intro w'
    go_simp
    with_reducible rfl
   rotate_left
   ·
    simp only [Act.put, sT, sZ, sS, i64_w, i32_w]
    rfl
   refine done_ (done_of HT_.out (by kernel_rfl)) ?_
   go_upto_region 11 with (fail)
   go_cut [69] (fun v69 wc => ∃ (kq : Nat) (x69_26 : Bool), v69 = .bool x69_26 ∧ Aside0 (minecontrollaw18_FeederChain.j1 kq t282 t284 x69_26 x280000_1 t274 t277 t288 t291 t294 = some r) ∧ Aside0 (kq ≤ k1) ∧ Aside0 (Kd.R (Kd.int .i64) 3 wc w.heap.size (fun k_ => some k_ ≠ ((.slice (some ad283) t274.length co13) : Value).ownBlock ∧ some k_ ≠ ((.slice Ao38 t291.length co38) : Value).ownBlock) v285 t284) ∧ Aside0 (Kd.R k32 32 wc w.heap.size (fun k_ => some k_ ≠ ((.slice Ao36 t288.length co36) : Value).ownBlock) (.slice Ao30 x280000_1.length co30) x280000_1) ∧ Aside0 (Kd.R (Kd.int .i64) 3 wc w.heap.size (fun k_ => some k_ ≠ (v285 : Value).ownBlock ∧ some k_ ≠ ((.slice Ao38 t291.length co38) : Value).ownBlock) (.slice (some ad283) t274.length co13) t274) ∧ Aside0 (Kd.R k32 32 wc w.heap.size (fun k_ => some k_ ≠ ((.slice Ao30 x280000_1.length co30) : Value).ownBlock) (.slice Ao36 t288.length co36) t288) ∧ Aside0 (Kd.R (Kd.int .i64) 3 wc w.heap.size (fun k_ => some k_ ≠ (v285 : Value).ownBlock ∧ some k_ ≠ ((.slice (some ad283) t274.length co13) : Value).ownBlock) (.slice Ao38 t291.length co38) t291) ∧ Aside0 (wc.heap[gb279]? = some (.cells #[(.slice Ao30 x280000_1.length co30), (.slice (some ad283) t274.length co13), .int .i64 t277] 28 (0, 0))) ∧ Aside0 (wc.heap[gb296]? = some (.cells #[(.slice Ao36 t288.length co36), (.slice Ao38 t291.length co38), .int .i64 t294] 28 (0, 0))) ∧ Aside0 (Below w.heap.size w wc))
   case first =>
    have H := HC27.out
    clear HC27
    by_cases c41 : t295 = 0
    ·
     rw [if_pos c41] at H
     have c41b0 : (t295 == 0) = true := beq_iff_eq.mpr c41
     have c41b1 : (t295 != 0) = false := bne_eq_false_iff_eq.mpr c41
     clear c41
     (first | rw [c41b0] | (simp only [i64_w, i32_w]; rw [c41b0]) | skip)
     have H' := aM H
     clear H
     obtain ⟨Ao42, co42, eo42⟩ := Kd.R_slice HO286.out
     subst eo42
     go_wp2
     go_meet
     case rel => exact ⟨_, (((t284.length : Int) == 0)), (by first | rfl | (simp; done) | (simp [*]; done)), H', ⟨by have := HK1.out; first | omega | exact Nat.le_refl _⟩, ⟨by (with_reducible repeat (first | apply Kd.R_alloc | apply Kd.R_drewN | apply Kd.R_drew)); exact Kd.R_mono (f3 HO286.out BK296.out (by decide)) (fun _ hk => ⟨hk.1.2, hk.1.1⟩)⟩, ⟨by (with_reducible repeat (first | apply Kd.R_alloc | apply Kd.R_drewN | apply Kd.R_drew)); exact Kd.R_mono (f3 HO_280000.out BK296.out (by decide)) (fun _ hk => hk.1)⟩, ⟨by (with_reducible repeat (first | apply Kd.R_alloc | apply Kd.R_drewN | apply Kd.R_drew)); exact Kd.R_mono (f3 HO_280001.out BK296.out (by decide)) (fun _ hk => ⟨hk.1.1, hk.1.2⟩)⟩, ⟨by (with_reducible repeat (first | apply Kd.R_alloc | apply Kd.R_drewN | apply Kd.R_drew)); exact Kd.R_mono (f3 HO290.out BK296.out (by decide)) (fun _ hk => hk.1)⟩, ⟨by (with_reducible repeat (first | apply Kd.R_alloc | apply Kd.R_drewN | apply Kd.R_drew)); exact Kd.R_mono (f3 HO293.out BK296.out (by decide)) (fun _ hk => ⟨hk.1.1, hk.1.2⟩)⟩, ⟨by (with_reducible repeat (first | refine kN ?_ _ | refine kD ?_ | refine kA ?_ _)); refine blk_far ?_ NB279_296.out _; (with_reducible repeat (first | refine kN ?_ _ | refine kD ?_ | refine kA ?_ _)); refine blk_far ?_ NB279_296.out _; (with_reducible repeat (first | refine kN ?_ _ | refine kD ?_ | refine kA ?_ _)); refine blk_far ?_ NB279_296.out _; (with_reducible repeat (first | refine kN ?_ _ | refine kD ?_ | refine kA ?_ _)); exact BK279.out⟩, ⟨by (with_reducible repeat (first | refine kN ?_ _ | refine kD ?_ | refine kA ?_ _)); refine blk_put (cs := #[.slice Ao36 t288.length co36, .slice Ao38 t291.length co38, .int .i64 0]) ?_ 2 _ rfl; (with_reducible repeat (first | refine kN ?_ _ | refine kD ?_ | refine kA ?_ _)); refine blk_put (cs := #[.slice Ao36 t288.length co36, .slice none 0 0, .int .i64 0]) ?_ 1 _ rfl; (with_reducible repeat (first | refine kN ?_ _ | refine kD ?_ | refine kA ?_ _)); refine blk_put (cs := #[.slice none 0 0, .slice none 0 0, .int .i64 0]) ?_ 0 _ rfl; (with_reducible repeat (first | refine kN ?_ _ | refine kD ?_ | refine kA ?_ _)); exact BK296.out⟩, ⟨by repeat (first | (with_reducible first | exact HB.out | apply bA | apply bN | apply bD | refine below_set ?_ GE279.out | refine below_set ?_ GE296.out) | exact HB.out)⟩⟩
    rw [if_neg c41] at H
    have c41b0 : (t295 == 0) = false := beq_eq_false_iff_ne.mpr c41
    have c41b1 : (t295 != 0) = true := bne_iff_ne.mpr c41
    (first | rw [c41b0] | (simp only [i64_w, i32_w]; rw [c41b0]) | skip)
    have H' := aM H
    clear H
    go_wp2
    go_meet
    case rel => exact ⟨_, (true), (by first | rfl | (simp; done) | (simp [*]; done)), H', ⟨by have := HK1.out; first | omega | exact Nat.le_refl _⟩, ⟨by (with_reducible repeat (first | apply Kd.R_alloc | apply Kd.R_drewN | apply Kd.R_drew)); exact Kd.R_mono (f3 HO286.out BK296.out (by decide)) (fun _ hk => ⟨hk.1.2, hk.1.1⟩)⟩, ⟨by (with_reducible repeat (first | apply Kd.R_alloc | apply Kd.R_drewN | apply Kd.R_drew)); exact Kd.R_mono (f3 HO_280000.out BK296.out (by decide)) (fun _ hk => hk.1)⟩, ⟨by (with_reducible repeat (first | apply Kd.R_alloc | apply Kd.R_drewN | apply Kd.R_drew)); exact Kd.R_mono (f3 HO_280001.out BK296.out (by decide)) (fun _ hk => ⟨hk.1.1, hk.1.2⟩)⟩, ⟨by (with_reducible repeat (first | apply Kd.R_alloc | apply Kd.R_drewN | apply Kd.R_drew)); exact Kd.R_mono (f3 HO290.out BK296.out (by decide)) (fun _ hk => hk.1)⟩, ⟨by (with_reducible repeat (first | apply Kd.R_alloc | apply Kd.R_drewN | apply Kd.R_drew)); exact Kd.R_mono (f3 HO293.out BK296.out (by decide)) (fun _ hk => ⟨hk.1.1, hk.1.2⟩)⟩, ⟨by (with_reducible repeat (first | refine kN ?_ _ | refine kD ?_ | refine kA ?_ _)); refine blk_far ?_ NB279_296.out _; (with_reducible repeat (first | refine kN ?_ _ | refine kD ?_ | refine kA ?_ _)); refine blk_far ?_ NB279_296.out _; (with_reducible repeat (first | refine kN ?_ _ | refine kD ?_ | refine kA ?_ _)); refine blk_far ?_ NB279_296.out _; (with_reducible repeat (first | refine kN ?_ _ | refine kD ?_ | refine kA ?_ _)); exact BK279.out⟩, ⟨by (with_reducible repeat (first | refine kN ?_ _ | refine kD ?_ | refine kA ?_ _)); refine blk_put (cs := #[.slice Ao36 t288.length co36, .slice Ao38 t291.length co38, .int .i64 0]) ?_ 2 _ rfl; (with_reducible repeat (first | refine kN ?_ _ | refine kD ?_ | refine kA ?_ _)); refine blk_put (cs := #[.slice Ao36 t288.length co36, .slice none 0 0, .int .i64 0]) ?_ 1 _ rfl; (with_reducible repeat (first | refine kN ?_ _ | refine kD ?_ | refine kA ?_ _)); refine blk_put (cs := #[.slice none 0 0, .slice none 0 0, .int .i64 0]) ?_ 0 _ rfl; (with_reducible repeat (first | refine kN ?_ _ | refine kD ?_ | refine kA ?_ _)); exact BK296.out⟩, ⟨by repeat (first | (with_reducible first | exact HB.out | apply bA | apply bN | apply bD | refine below_set ?_ GE279.out | refine below_set ?_ GE296.out) | exact HB.out)⟩⟩
   case rest =>
    clear HC27
    obtain ⟨kq, x69_26, rfl, HA, HJ26, HO_9, HO_280000, HO_280001, HO_297000, HO_297001, BK279, BK296, HB⟩ := hcut
    cases kq with
    | zero => exact absurd HA.out (by simp [minecontrollaw18_FeederChain.j1])
    | succ kj26 =>
     have H := HA.out
     clear HA
     simp only [minecontrollaw18_FeederChain.j1] at H
     by_cases c43 : x69_26 = true
     ·
      subst c43
      have H1 : (some false) = some r := by rw [if_pos rfl] at H; exact H
      clear H
      have H := H1
      clear H1
      obtain rfl := Option.some.inj H
      exact absurd hr_.out (by decide)
     replace c43 := Bool.eq_false_iff.mpr c43
     subst c43
     have H1 : (minecontrollaw18_FeederChain.l1 kj26 t282 t284 1 x280000_1 t274 t277 t288 t291 t294) = some r := by rw [if_neg (show ¬ (false = true) by decide)] at H; exact H
     clear H
     have H := H1
     clear H1
     have H' := aM H
     clear H
     go_wp2
     go_loopg [12] kj26 (fun kq v12 w' => ∃ (x12_3 : Int) (x297000_3 : List (S32)) (x297001_3 : List Int) (x297002_3 : Int) (u297000 : Value) (u297001 : Value), v12 = .int .i64 x12_3 ∧ Aside0 (minecontrollaw18_FeederChain.l1 kq t282 t284 x12_3 x280000_1 t274 t277 x297000_3 x297001_3 x297002_3 = some r) ∧ Aside0 (kq ≤ kj26) ∧ Aside0 (Kd.R (Kd.int .i64) 3 w' w.heap.size (fun k_ => some k_ ≠ ((.slice (some ad283) t274.length co13) : Value).ownBlock ∧ some k_ ≠ (u297001 : Value).ownBlock) v285 t284) ∧ Aside0 (Kd.R k32 32 w' w.heap.size (fun k_ => some k_ ≠ (u297000 : Value).ownBlock) (.slice Ao30 x280000_1.length co30) x280000_1) ∧ Aside0 (Kd.R (Kd.int .i64) 3 w' w.heap.size (fun k_ => some k_ ≠ (v285 : Value).ownBlock ∧ some k_ ≠ (u297001 : Value).ownBlock) (.slice (some ad283) t274.length co13) t274) ∧ Aside0 (Kd.R k32 32 w' w.heap.size (fun k_ => some k_ ≠ ((.slice Ao30 x280000_1.length co30) : Value).ownBlock) u297000 x297000_3) ∧ Aside0 (Kd.R (Kd.int .i64) 3 w' w.heap.size (fun k_ => some k_ ≠ (v285 : Value).ownBlock ∧ some k_ ≠ ((.slice (some ad283) t274.length co13) : Value).ownBlock) u297001 x297001_3) ∧ Aside0 (w'.heap[gb279]? = some (.cells #[(.slice Ao30 x280000_1.length co30), (.slice (some ad283) t274.length co13), .int .i64 t277] 28 (0, 0))) ∧ Aside0 (w'.heap[gb296]? = some (.cells #[u297000, u297001, .int .i64 x297002_3] 28 (0, 0))) ∧ Aside0 (Below w.heap.size w w'))
     case atStart => exact ⟨(1), (t288), (t291), (t294), (.slice Ao36 t288.length co36), (.slice Ao38 t291.length co38), (by first | rfl | (simp; done) | (simp [*]; done)), H', ⟨Nat.le_refl _⟩, ⟨by (with_reducible repeat (first | apply Kd.R_alloc | apply Kd.R_drewN | apply Kd.R_drew)); exact HO_9.out⟩, ⟨by (with_reducible repeat (first | apply Kd.R_alloc | apply Kd.R_drewN | apply Kd.R_drew)); exact HO_280000.out⟩, ⟨by (with_reducible repeat (first | apply Kd.R_alloc | apply Kd.R_drewN | apply Kd.R_drew)); exact HO_280001.out⟩, ⟨by (with_reducible repeat (first | apply Kd.R_alloc | apply Kd.R_drewN | apply Kd.R_drew)); exact HO_297000.out⟩, ⟨by (with_reducible repeat (first | apply Kd.R_alloc | apply Kd.R_drewN | apply Kd.R_drew)); exact HO_297001.out⟩, ⟨blk_mv BK279.out⟩, ⟨blk_mv BK296.out⟩, ⟨by repeat (first | (with_reducible first | exact HB.out | apply bA | apply bN | apply bD | refine below_set ?_ GE279.out | refine below_set ?_ GE296.out) | exact HB.out)⟩⟩
     case round =>
      clear H'
      obtain ⟨x12_3, x297000_3, x297001_3, x297002_3, u297000, u297001, rfl, HA, HK3, HO_9, HO_280000, HO_280001, HO_297000, HO_297001, BK279, BK296, HB⟩ := hrel
      cases gk with
      | zero => exact absurd HA.out (by simp [minecontrollaw18_FeederChain.l1])
      | succ k3 =>
       have H := HA.out
       clear HA
       simp only [minecontrollaw18_FeederChain.l1] at H
       by_cases c44 : x12_3 ≤ (t284.length : Int)
       ·
        rw [if_pos c44] at H
        have c44b0 : decide (x12_3 ≤ (t284.length : Int)) = true := decide_eq_true c44
        clear c44
        replace H := Option.bind_eq_some_iff.mp H
        obtain ⟨t297, A450, H⟩ := H
        replace H : (if t297 = (wrap64 (x12_3 * t277)) then ((feeder_Tick.f k3 x297000_3 x297001_3 x297002_3 (wrap64 (x12_3 * t277))).bind fun bt298 => (if bt298.2.2.2.2.2 = 0 then (if 0 ≤ (wrap64 (x12_3 - 1)) then (if (wrap64 (x12_3 - 1)) ≤ x12_3 then ((minecontrolref01_Ints.f k3 bt298.2.2.2.1 ((t284.take (x12_3 : Int).toNat).drop ((wrap64 (x12_3 - 1)) : Int).toNat)).bind fun t317 => (if t317 = true then (if x12_3 < (t284.length : Int) then (if 0 ≤ x12_3 then (if x12_3 ≤ (wrap64 (x12_3 + 1)) then (if (wrap64 (x12_3 + 1)) ≤ (t284.length : Int) then ((minecontrolref01_Ints.f k3 bt298.2.2.2.2.1 ((t284.take ((wrap64 (x12_3 + 1)) : Int).toNat).drop (x12_3 : Int).toNat)).bind fun t322 => (if t322 = true then (if x12_3 = (t284.length : Int) then (if (bt298.2.2.2.2.1.length : Int) > 0 then (some false) else (minecontrollaw18_FeederChain.l1 k3 t282 t284 (wrap64 (x12_3 + 1)) x280000_1 t274 t277 bt298.1 bt298.2.1 bt298.2.2.1)) else (minecontrollaw18_FeederChain.l1 k3 t282 t284 (wrap64 (x12_3 + 1)) x280000_1 t274 t277 bt298.1 bt298.2.1 bt298.2.2.1)) else (some false))) else (none)) else (none)) else (none)) else (if x12_3 = (t284.length : Int) then (if (bt298.2.2.2.2.1.length : Int) > 0 then (some false) else (minecontrollaw18_FeederChain.l1 k3 t282 t284 (wrap64 (x12_3 + 1)) x280000_1 t274 t277 bt298.1 bt298.2.1 bt298.2.2.1)) else (minecontrollaw18_FeederChain.l1 k3 t282 t284 (wrap64 (x12_3 + 1)) x280000_1 t274 t277 bt298.1 bt298.2.1 bt298.2.2.1))) else (some false))) else (none)) else (none)) else (some false))) else (some false)) = some r := H
        have A45 := aM A450
        clear A450
        by_cases c46 : t297 = (wrap64 (x12_3 * t277))
        ·
         rw [if_pos c46] at H
         have c46b0 : (t297 == (wrap64 (x12_3 * t277))) = true := beq_iff_eq.mpr c46
         have c46b1 : (t297 != (wrap64 (x12_3 * t277))) = false := bne_eq_false_iff_eq.mpr c46
         clear c46
         replace H := Option.bind_eq_some_iff.mp H
         obtain ⟨⟨t298, t301, t304, t305, t308, t311⟩, A470, H⟩ := H
         replace H : (if t311 = 0 then (if 0 ≤ (wrap64 (x12_3 - 1)) then (if (wrap64 (x12_3 - 1)) ≤ x12_3 then ((minecontrolref01_Ints.f k3 t305 ((t284.take (x12_3 : Int).toNat).drop ((wrap64 (x12_3 - 1)) : Int).toNat)).bind fun t317 => (if t317 = true then (if x12_3 < (t284.length : Int) then (if 0 ≤ x12_3 then (if x12_3 ≤ (wrap64 (x12_3 + 1)) then (if (wrap64 (x12_3 + 1)) ≤ (t284.length : Int) then ((minecontrolref01_Ints.f k3 t308 ((t284.take ((wrap64 (x12_3 + 1)) : Int).toNat).drop (x12_3 : Int).toNat)).bind fun t322 => (if t322 = true then (if x12_3 = (t284.length : Int) then (if (t308.length : Int) > 0 then (some false) else (minecontrollaw18_FeederChain.l1 k3 t282 t284 (wrap64 (x12_3 + 1)) x280000_1 t274 t277 t298 t301 t304)) else (minecontrollaw18_FeederChain.l1 k3 t282 t284 (wrap64 (x12_3 + 1)) x280000_1 t274 t277 t298 t301 t304)) else (some false))) else (none)) else (none)) else (none)) else (if x12_3 = (t284.length : Int) then (if (t308.length : Int) > 0 then (some false) else (minecontrollaw18_FeederChain.l1 k3 t282 t284 (wrap64 (x12_3 + 1)) x280000_1 t274 t277 t298 t301 t304)) else (minecontrollaw18_FeederChain.l1 k3 t282 t284 (wrap64 (x12_3 + 1)) x280000_1 t274 t277 t298 t301 t304))) else (some false))) else (none)) else (none)) else (some false)) = some r := H
         have A47 := aM A470
         clear A470
         by_cases c48 : t311 = 0
         ·
          rw [if_pos c48] at H
          have c48b0 : (t311 == 0) = true := beq_iff_eq.mpr c48
          have c48b1 : (t311 != 0) = false := bne_eq_false_iff_eq.mpr c48
          clear c48
          obtain ⟨ji49, hji49⟩ : ∃ j_ : Int, (wrap64 (x12_3 - 1)) = j_ := ⟨_, rfl⟩
          replace H : (if 0 ≤ (ji49) then (if (ji49) ≤ x12_3 then ((minecontrolref01_Ints.f k3 t305 ((t284.take (x12_3 : Int).toNat).drop ((ji49) : Int).toNat)).bind fun t317 => (if t317 = true then (if x12_3 < (t284.length : Int) then (if 0 ≤ x12_3 then (if x12_3 ≤ (wrap64 (x12_3 + 1)) then (if (wrap64 (x12_3 + 1)) ≤ (t284.length : Int) then ((minecontrolref01_Ints.f k3 t308 ((t284.take ((wrap64 (x12_3 + 1)) : Int).toNat).drop (x12_3 : Int).toNat)).bind fun t322 => (if t322 = true then (if x12_3 = (t284.length : Int) then (if (t308.length : Int) > 0 then (some false) else (minecontrollaw18_FeederChain.l1 k3 t282 t284 (wrap64 (x12_3 + 1)) x280000_1 t274 t277 t298 t301 t304)) else (minecontrollaw18_FeederChain.l1 k3 t282 t284 (wrap64 (x12_3 + 1)) x280000_1 t274 t277 t298 t301 t304)) else (some false))) else (none)) else (none)) else (none)) else (if x12_3 = (t284.length : Int) then (if (t308.length : Int) > 0 then (some false) else (minecontrollaw18_FeederChain.l1 k3 t282 t284 (wrap64 (x12_3 + 1)) x280000_1 t274 t277 t298 t301 t304)) else (minecontrollaw18_FeederChain.l1 k3 t282 t284 (wrap64 (x12_3 + 1)) x280000_1 t274 t277 t298 t301 t304))) else (some false))) else (none)) else (none)) = some r := by first | (rw [hji49] at H; exact H) | (simp only [hji49] at H ⊢; exact H)
          (try rw [hji49] at A45)
          (try rw [hji49] at A47)
          have hji49w : (IntKind.i64.wrap (x12_3 - 1)) = ji49 := (i64_w _).trans hji49
          by_cases c50 : 0 ≤ (ji49)
          rotate_left
          ·
           rw [if_neg c50] at H
           exact absurd H (by simp)
          rw [if_pos c50] at H
          have c50b0 := eq_true c50
          have c50b1 : decide (0 ≤ (ji49)) = true := decide_eq_true c50
          clear c50
          by_cases c51 : (ji49) ≤ x12_3
          rotate_left
          ·
           rw [if_neg c51] at H
           exact absurd H (by simp)
          rw [if_pos c51] at H
          have c51b0 := eq_true c51
          have c51b1 : decide ((ji49) ≤ x12_3) = true := decide_eq_true c51
          clear c51
          have c52b0 := eq_true (of_decide_eq_true (by first | (with_reducible assumption) | assumption) : x12_3 ≤ (t284.length : Int))
          obtain ⟨y313, hy313⟩ : ∃ y_ : List Int, y_ = ((t284.take (x12_3 : Int).toNat).drop ((ji49) : Int).toNat) := ⟨_, rfl⟩
          replace H : ((minecontrolref01_Ints.f k3 t305 y313).bind fun t317 => (if t317 = true then (if x12_3 < (t284.length : Int) then (if 0 ≤ x12_3 then (if x12_3 ≤ (wrap64 (x12_3 + 1)) then (if (wrap64 (x12_3 + 1)) ≤ (t284.length : Int) then ((minecontrolref01_Ints.f k3 t308 ((t284.take ((wrap64 (x12_3 + 1)) : Int).toNat).drop (x12_3 : Int).toNat)).bind fun t322 => (if t322 = true then (if x12_3 = (t284.length : Int) then (if (t308.length : Int) > 0 then (some false) else (minecontrollaw18_FeederChain.l1 k3 t282 t284 (wrap64 (x12_3 + 1)) x280000_1 t274 t277 t298 t301 t304)) else (minecontrollaw18_FeederChain.l1 k3 t282 t284 (wrap64 (x12_3 + 1)) x280000_1 t274 t277 t298 t301 t304)) else (some false))) else (none)) else (none)) else (none)) else (if x12_3 = (t284.length : Int) then (if (t308.length : Int) > 0 then (some false) else (minecontrollaw18_FeederChain.l1 k3 t282 t284 (wrap64 (x12_3 + 1)) x280000_1 t274 t277 t298 t301 t304)) else (minecontrollaw18_FeederChain.l1 k3 t282 t284 (wrap64 (x12_3 + 1)) x280000_1 t274 t277 t298 t301 t304))) else (some false))) = some r := by first | (rw [hy313]; with_reducible exact H) | (have H2_ := (Option.bind_some _ _).symm.trans H; rw [hy313]; with_reducible exact H2_) | (have H2_ := (Option.bind_some _ _).symm.trans H; with_reducible exact H2_) | with_reducible exact H | (rw [hy313]; exact H) | exact H
          have Ny313 := aM hy313
          clear hy313
          replace H := Option.bind_eq_some_iff.mp H
          obtain ⟨t317, A530, H⟩ := H
          replace H : (if t317 = true then (if x12_3 < (t284.length : Int) then (if 0 ≤ x12_3 then (if x12_3 ≤ (wrap64 (x12_3 + 1)) then (if (wrap64 (x12_3 + 1)) ≤ (t284.length : Int) then ((minecontrolref01_Ints.f k3 t308 ((t284.take ((wrap64 (x12_3 + 1)) : Int).toNat).drop (x12_3 : Int).toNat)).bind fun t322 => (if t322 = true then (if x12_3 = (t284.length : Int) then (if (t308.length : Int) > 0 then (some false) else (minecontrollaw18_FeederChain.l1 k3 t282 t284 (wrap64 (x12_3 + 1)) x280000_1 t274 t277 t298 t301 t304)) else (minecontrollaw18_FeederChain.l1 k3 t282 t284 (wrap64 (x12_3 + 1)) x280000_1 t274 t277 t298 t301 t304)) else (some false))) else (none)) else (none)) else (none)) else (if x12_3 = (t284.length : Int) then (if (t308.length : Int) > 0 then (some false) else (minecontrollaw18_FeederChain.l1 k3 t282 t284 (wrap64 (x12_3 + 1)) x280000_1 t274 t277 t298 t301 t304)) else (minecontrollaw18_FeederChain.l1 k3 t282 t284 (wrap64 (x12_3 + 1)) x280000_1 t274 t277 t298 t301 t304))) else (some false)) = some r := H
          have A53 := aM A530
          clear A530
          by_cases c54 : t317 = true
          ·
           subst c54
           have H1 : (if x12_3 < (t284.length : Int) then (if 0 ≤ x12_3 then (if x12_3 ≤ (wrap64 (x12_3 + 1)) then (if (wrap64 (x12_3 + 1)) ≤ (t284.length : Int) then ((minecontrolref01_Ints.f k3 t308 ((t284.take ((wrap64 (x12_3 + 1)) : Int).toNat).drop (x12_3 : Int).toNat)).bind fun t322 => (if t322 = true then (if x12_3 = (t284.length : Int) then (if (t308.length : Int) > 0 then (some false) else (minecontrollaw18_FeederChain.l1 k3 t282 t284 (wrap64 (x12_3 + 1)) x280000_1 t274 t277 t298 t301 t304)) else (minecontrollaw18_FeederChain.l1 k3 t282 t284 (wrap64 (x12_3 + 1)) x280000_1 t274 t277 t298 t301 t304)) else (some false))) else (none)) else (none)) else (none)) else (if x12_3 = (t284.length : Int) then (if (t308.length : Int) > 0 then (some false) else (minecontrollaw18_FeederChain.l1 k3 t282 t284 (wrap64 (x12_3 + 1)) x280000_1 t274 t277 t298 t301 t304)) else (minecontrollaw18_FeederChain.l1 k3 t282 t284 (wrap64 (x12_3 + 1)) x280000_1 t274 t277 t298 t301 t304))) = some r := by rw [if_pos rfl] at H; exact H
           clear H
           have H := H1
           clear H1
           by_cases c55 : x12_3 < (t284.length : Int)
           ·
            rw [if_pos c55] at H
            have c55b0 : decide (x12_3 < (t284.length : Int)) = true := decide_eq_true c55
            clear c55
            by_cases c56 : 0 ≤ x12_3
            rotate_left
            ·
             rw [if_neg c56] at H
             exact absurd H (by simp)
            rw [if_pos c56] at H
            have c56b0 := eq_true c56
            have c56b1 : decide (0 ≤ x12_3) = true := decide_eq_true c56
            clear c56
            by_cases c57 : x12_3 ≤ (wrap64 (x12_3 + 1))
            rotate_left
            ·
             rw [if_neg c57] at H
             exact absurd H (by simp)
            rw [if_pos c57] at H
            have c57b0 := eq_true c57
            have c57b1 : decide (x12_3 ≤ (wrap64 (x12_3 + 1))) = true := decide_eq_true c57
            by_cases c58 : (wrap64 (x12_3 + 1)) ≤ (t284.length : Int)
            rotate_left
            ·
             rw [if_neg c58] at H
             exact absurd H (by simp)
            rw [if_pos c58] at H
            have c58b0 := eq_true c58
            have c58b1 : decide ((wrap64 (x12_3 + 1)) ≤ (t284.length : Int)) = true := decide_eq_true c58
            obtain ⟨y318, hy318⟩ : ∃ y_ : List Int, y_ = ((t284.take ((wrap64 (x12_3 + 1)) : Int).toNat).drop (x12_3 : Int).toNat) := ⟨_, rfl⟩
            replace H : ((minecontrolref01_Ints.f k3 t308 y318).bind fun t322 => (if t322 = true then (if x12_3 = (t284.length : Int) then (if (t308.length : Int) > 0 then (some false) else (minecontrollaw18_FeederChain.l1 k3 t282 t284 (wrap64 (x12_3 + 1)) x280000_1 t274 t277 t298 t301 t304)) else (minecontrollaw18_FeederChain.l1 k3 t282 t284 (wrap64 (x12_3 + 1)) x280000_1 t274 t277 t298 t301 t304)) else (some false))) = some r := by first | (rw [hy318]; with_reducible exact H) | (have H2_ := (Option.bind_some _ _).symm.trans H; rw [hy318]; with_reducible exact H2_) | (have H2_ := (Option.bind_some _ _).symm.trans H; with_reducible exact H2_) | with_reducible exact H | (rw [hy318]; exact H) | exact H
            have Ny318 := aM hy318
            clear hy318
            replace H := Option.bind_eq_some_iff.mp H
            obtain ⟨t322, A590, H⟩ := H
            replace H : (if t322 = true then (if x12_3 = (t284.length : Int) then (if (t308.length : Int) > 0 then (some false) else (minecontrollaw18_FeederChain.l1 k3 t282 t284 (wrap64 (x12_3 + 1)) x280000_1 t274 t277 t298 t301 t304)) else (minecontrollaw18_FeederChain.l1 k3 t282 t284 (wrap64 (x12_3 + 1)) x280000_1 t274 t277 t298 t301 t304)) else (some false)) = some r := H
            have A59 := aM A590
            clear A590
            by_cases c60 : t322 = true
            ·
             subst c60
             have H1 : (if x12_3 = (t284.length : Int) then (if (t308.length : Int) > 0 then (some false) else (minecontrollaw18_FeederChain.l1 k3 t282 t284 (wrap64 (x12_3 + 1)) x280000_1 t274 t277 t298 t301 t304)) else (minecontrollaw18_FeederChain.l1 k3 t282 t284 (wrap64 (x12_3 + 1)) x280000_1 t274 t277 t298 t301 t304)) = some r := by rw [if_pos rfl] at H; exact H
             clear H
             have H := H1
             clear H1
             by_cases c61 : x12_3 = (t284.length : Int)
             ·
              rw [if_pos c61] at H
              have c61b0 : (x12_3 == (t284.length : Int)) = true := beq_iff_eq.mpr c61
              have c61b1 : (x12_3 != (t284.length : Int)) = false := bne_eq_false_iff_eq.mpr c61
              clear c61
              by_cases c62 : (t308.length : Int) > 0
              ·
               rw [if_pos c62] at H
               have c62b0 : decide (0 < (t308.length : Int)) = true := decide_eq_true c62
               have c62b1 : decide (0 < t308.length) = true := decide_eq_true (by omega)
               clear c62
               obtain rfl := Option.some.inj H
               exact absurd hr_.out (by decide)
              rw [if_neg c62] at H
              have c62b0 : decide (0 < (t308.length : Int)) = false := decide_eq_false c62
              have c62b1 : decide (0 < t308.length) = false := decide_eq_false (by omega)
              clear c62
              have H' := aM H
              clear H
              obtain ⟨Ao63, co63, eo63⟩ := Kd.R_slice HO_9.out
              subst eo63
              try go_wp2
              replace HO_9 := aM (Kd.R_drew HO_9.out)
              replace HO_280000 := aM (Kd.R_drew HO_280000.out)
              replace HO_280001 := aM (Kd.R_drew HO_280001.out)
              replace HO_297000 := aM (Kd.R_drew HO_297000.out)
              replace HO_297001 := aM (Kd.R_drew HO_297001.out)
              replace BK279 := aM (blk_drew BK279.out)
              replace BK296 := aM (blk_drew BK296.out)
              replace HB := aM (below_drew1 HB.out)
              obtain ⟨Ao65, co65, eo65⟩ := Kd.R_slice HO_297000.out
              (first | subst eo65 | (injection eo65 with f1_ f2_ f3_; have f4_ := f1_.symm; have f5_ := f3_.symm; clear f1_ f2_ f3_; subst f4_; subst f5_))
              obtain ⟨Ao66, co66, eo66⟩ := Kd.R_slice HO_297001.out
              (first | subst eo66 | (injection eo66 with f1_ f2_ f3_; have f4_ := f1_.symm; have f5_ := f3_.symm; clear f1_ f2_ f3_; subst f4_; subst f5_))
              refine start_ (n := 7) (S := fun w' => w'.cell? ⟨gb296, 0, none⟩ = some (.slice Ao65 x297000_3.length co65) ∧ w'.cell? ⟨gb296, 1, none⟩ = some (.slice Ao66 x297001_3.length co66) ∧ w'.cell? ⟨gb296, 2, none⟩ = some (.int .i64 x297002_3) ∧ w'.cell? ⟨gb279, 0, none⟩ = some (.slice Ao30 x280000_1.length co30) ∧ w'.cell? ⟨gb279, 1, none⟩ = some (.slice (some ad283) t274.length co13) ∧ w'.cell? ⟨gb279, 2, none⟩ = some (.int .i64 t277)) (ds := []) #[false, false, false, false, false, false, false] (by kernel_rfl) rfl rfl ⟨(blk_cell BK296.out 0).trans rfl, (blk_cell BK296.out 1).trans rfl, (blk_cell BK296.out 2).trans rfl, (blk_cell BK279.out 0).trans rfl, (blk_cell BK279.out 1).trans rfl, (blk_cell BK279.out 2).trans rfl⟩ (fun hHeld => ?_)
              generalize wr.drew = w64 at HO_9 HO_280000 HO_280001 HO_297000 HO_297001 BK279 BK296 HB hHeld ⊢
              refine pure_ (i := 2) (N := some 78) (v := ?_) (a' := ?_) #[false, false, true, false, false, false, false] rfl rfl (by kernel_rfl) (fun _ _ _ h => h) (Or.inl ⟨by rfl, ?_⟩) ?_ ?_
              rotate_left
              ·
               intro w'
               go_simp
               with_reducible rfl
              rotate_left
              ·
               simp only [Act.put, sT, sZ, sS, i64_w, i32_w]
               rfl
              refine pure_ (i := 3) (N := some 79) (v := ?_) (a' := ?_) #[false, false, true, true, false, false, false] rfl rfl (by kernel_rfl) (fun _ _ _ h => h) (Or.inl ⟨by rfl, ?_⟩) ?_ ?_
              rotate_left
              ·
               intro w'
               go_simp
               with_reducible rfl
              rotate_left
              ·
               simp only [Act.put, sT, sZ, sS, i64_w, i32_w]
               rfl
              refine take_ (i := 0) (N := some 76) (v := ?_) (a' := ?_) #[true, false, true, true, false, false, false] rfl rfl (by kernel_rfl) (fun _ _ _ h => h) (Or.inl ⟨by rfl, ?_⟩) hHeld ?_ ?_
              rotate_left
              ·
               rintro w' ⟨s0, s1, s2, s3, s4, s5⟩
               go_simp
               with_reducible rfl
              rotate_left
              ·
               simp only [Act.put, sT, sZ, sS, i64_w, i32_w]
               rfl
              refine take_ (i := 4) (N := some 80) (v := ?_) (a' := ?_) #[true, false, true, true, true, false, false] rfl rfl (by kernel_rfl) (fun _ _ _ h => h) (Or.inl ⟨by rfl, ?_⟩) hHeld ?_ ?_
              rotate_left
              ·
               rintro w' ⟨s0, s1, s2, s3, s4, s5⟩
               go_simp
               with_reducible rfl
              rotate_left
              ·
               simp only [Act.put, sT, sZ, sS, i64_w, i32_w]
               rfl
              refine pure_ (i := 5) (N := some 81) (v := ?_) (a' := ?_) #[true, false, true, true, true, true, false] rfl rfl (by kernel_rfl) (fun _ _ _ h => h) (Or.inl ⟨by rfl, ?_⟩) ?_ ?_
              rotate_left
              ·
               intro w'
               go_simp
               with_reducible rfl
              rotate_left
              ·
               simp only [Act.put, sT, sZ, sS, i64_w, i32_w]
               rfl
              refine one_ (i := 1) (N := some 77) #[true, true, true, true, true, true, false] rfl rfl (by kernel_rfl) (by decide) (fun K hK => ?_)
              refine goes_ Try.func15 (by kernel_rfl) rfl #[.agg #[.slice Ao65 x297000_3.length co65, .slice Ao66 x297001_3.length co66, .int .i64 x297002_3]] (by rfl) rfl rfl (by first | rfl | (simp only [List.map_toArray, List.map_cons, List.map_nil, List.length_drop, List.length_take]; try rfl)) ?_
              with_reducible refine (feeder_Due.calls k3 _ _ x297000_3 _ _ x297001_3 x297002_3 t297 _ ?side1 ?side2 ?side3 ?side4 A45.out).mono ?_
              (case side1 => exact C_mv (Kd.R_reads' HO_297000.out).2.2)
              (case side2 => exact (Kd.R_reads' HO_297000.out).2.1)
              (case side3 => exact C_mv (Kd.R_reads' HO_297001.out).2.2)
              (case side4 => exact (Kd.R_reads' HO_297001.out).2.1)
              rintro e w67 ⟨rfl, hb⟩
              refine ⟨_, rfl, ?_⟩
              replace HO_9 := aM (Kd.R_below (R_mv HO_9.out) hb)
              replace HO_280000 := aM (Kd.R_below (R_mv HO_280000.out) hb)
              replace HO_280001 := aM (Kd.R_below (R_mv HO_280001.out) hb)
              replace HO_297000 := aM (Kd.R_below (R_mv HO_297000.out) hb)
              replace HO_297001 := aM (Kd.R_below (R_mv HO_297001.out) hb)
              replace BK279 := aM (blk_below (blk_mv BK279.out) hb)
              replace BK296 := aM (blk_below (blk_mv BK296.out) hb)
              replace HB := aM (below_step (by repeat (first | (with_reducible first | exact HB.out | apply bA | apply bN | apply bD | refine below_set ?_ GE279.out | refine below_set ?_ GE296.out) | exact HB.out)) hb)
              (try clear hb)
              (try clear hb2)
              (try clear hge)
              (try clear hk)
              (try clear hi)
              refine hK.out _ _ ⟨(blk_cell BK296.out 0).trans rfl, (blk_cell BK296.out 1).trans rfl, (blk_cell BK296.out 2).trans rfl, (blk_cell BK279.out 0).trans rfl, (blk_cell BK279.out 1).trans rfl, (blk_cell BK279.out 2).trans rfl⟩ (fun hHeld => ?_)
              clear hK K
              refine norm_ (a' := ?_) ?_ ?_
              rotate_left
              ·
               show Act.put _ (some 77) _ = _
               simp only [Act.put, sT, sZ, sS, i64_w, i32_w]
               rfl
              refine pure_ (i := 6) (N := some 82) (v := ?_) (a' := ?_) #[true, true, true, true, true, true, true] rfl rfl (by kernel_rfl) (fun _ _ _ h => h) (Or.inl ⟨by rfl, ?_⟩) ?_ ?_
              rotate_left
              ·
               intro w'
               go_simp
               with_reducible rfl
              rotate_left
              ·
               simp only [Act.put, sT, sZ, sS, i64_w, i32_w]
               rfl
              refine done_ (by kernel_rfl) ?_
              have hnb68 := NB296_279.out
              have hnc68 := NB279_296.out
              obtain ⟨hcz69_0, hcz69_1, hcz69_2, hfz69_0, hfz69_1, hfz69_2⟩ := blk3 BK296.out
              obtain ⟨hcz70_0, hcz70_1, hcz70_2, hfz70_0, hfz70_1, hfz70_2⟩ := blk3 BK279.out
              try go_wp2_with (first | ((with_reducible refine gate_callee (f := 16) rfl ?_); refine goesL_ (some 89) rfl rfl Try.func16 (by kernel_rfl) rfl #[.agg #[.slice Ao65 x297000_3.length co65, .slice Ao66 x297001_3.length co66, .int .i64 x297002_3], .int .i64 (wrap64 (x12_3 * t277))] rfl (by first | rfl | (simp only [List.map_toArray, List.map_cons, List.map_nil, List.length_drop, List.length_take]; try rfl)) ?_; (with_reducible refine (feeder_Tick.calls k3 _ _ x297000_3 _ _ x297001_3 x297002_3 (wrap64 (x12_3 * t277)) t298 t301 t304 t305 t308 t311 _ ?side1 ?side2 ?side3 ?side4 A47.out).mono ?_); (case side1 => exact C_mv (Kd.R_reads' HO_297000.out).2.2); (case side2 => exact (Kd.R_reads' HO_297000.out).2.1); (case side3 => exact C_mv (Kd.R_reads' HO_297001.out).2.2); (case side4 => exact (Kd.R_reads' HO_297001.out).2.1); rintro e w71 ⟨v299, v302, v306, v309, rfl, ho0, ho1, ho2, ho3, hb⟩; refine ⟨_, rfl, ?_⟩; have HO300 := aM (Kd.R_lower (Kd.R_new' (Kd.R_new' ho0 (Kd.R_lt (R_mv HO_280000.out))) (Kd.R_lt (R_mv HO_297000.out))) (below_size (by repeat (first | (with_reducible first | exact HB.out | apply bA | apply bN | apply bD | refine below_set ?_ GE279.out | refine below_set ?_ GE296.out) | exact HB.out)))); replace HO_280000 := aM (Kd.R_elder' (R_mv HO_280000.out) (Kd.R_base ho0) hb); replace HO_297000 := aM (Kd.R_elder' (R_mv HO_297000.out) (Kd.R_base ho0) hb); have HO303 := aM (Kd.R_lower (Kd.R_new' (Kd.R_new' (Kd.R_new' ho1 (Kd.R_lt (R_mv HO_9.out))) (Kd.R_lt (R_mv HO_280001.out))) (Kd.R_lt (R_mv HO_297001.out))) (below_size (by repeat (first | (with_reducible first | exact HB.out | apply bA | apply bN | apply bD | refine below_set ?_ GE279.out | refine below_set ?_ GE296.out) | exact HB.out)))); have HO307 := aM (Kd.R_lower (Kd.R_new' (Kd.R_new' (Kd.R_new' ho2 (Kd.R_lt (R_mv HO_9.out))) (Kd.R_lt (R_mv HO_280001.out))) (Kd.R_lt (R_mv HO_297001.out))) (below_size (by repeat (first | (with_reducible first | exact HB.out | apply bA | apply bN | apply bD | refine below_set ?_ GE279.out | refine below_set ?_ GE296.out) | exact HB.out)))); have HO310 := aM (Kd.R_lower (Kd.R_new' (Kd.R_new' (Kd.R_new' ho3 (Kd.R_lt (R_mv HO_9.out))) (Kd.R_lt (R_mv HO_280001.out))) (Kd.R_lt (R_mv HO_297001.out))) (below_size (by repeat (first | (with_reducible first | exact HB.out | apply bA | apply bN | apply bD | refine below_set ?_ GE279.out | refine below_set ?_ GE296.out) | exact HB.out)))); replace HO_9 := aM (Kd.R_mono (Kd.R_told (Kd.R_told (Kd.R_told (Kd.R_old (R_mv HO_9.out) hb) (Kd.R_base ho1)) (Kd.R_base ho2)) (Kd.R_base ho3)) (fun _ h_ => h_.1)); replace HO_280001 := aM (Kd.R_mono (Kd.R_told (Kd.R_told (Kd.R_told (Kd.R_old (R_mv HO_280001.out) hb) (Kd.R_base ho1)) (Kd.R_base ho2)) (Kd.R_base ho3)) (fun _ h_ => h_.1)); replace HO_297001 := aM (Kd.R_mono (Kd.R_told (Kd.R_told (Kd.R_told (Kd.R_old (R_mv HO_297001.out) hb) (Kd.R_base ho1)) (Kd.R_base ho2)) (Kd.R_base ho3)) (fun _ h_ => h_.1)); replace BK279 := aM (blk_below (blk_mv BK279.out) hb); replace BK296 := aM (blk_below (blk_mv BK296.out) hb); replace HB := aM (below_step (by repeat (first | (with_reducible first | exact HB.out | apply bA | apply bN | apply bD | refine below_set ?_ GE279.out | refine below_set ?_ GE296.out) | exact HB.out)) hb); (try clear hb); (try clear hb2); (try clear hge); (try clear hk); (try clear hi); (try clear ho0); (try clear ho1); (try clear ho2); (try clear ho3)) | ((with_reducible refine gate_dst (N := 13) rfl ?_); (try (refine gate_guard (by rfl) ?_; dsimp only)); refine box_event ?hg (N := 13) ?hd (cs := #[.slice none 0 0, .slice none 0 0, .int .i64 0]) (t := 28) ?hr ?_; (case hd => rfl); (case hg => rfl); (case hr => first | (go_simp; done) | (go_simp; rfl)); intro gb312 hg w72 hbox hb; replace HO_9 := aM (Kd.R_below (R_mv HO_9.out) hb); replace HO_280000 := aM (Kd.R_below (R_mv HO_280000.out) hb); replace HO_280001 := aM (Kd.R_below (R_mv HO_280001.out) hb); replace HO_297000 := aM (Kd.R_below (R_mv HO_297000.out) hb); replace HO_297001 := aM (Kd.R_below (R_mv HO_297001.out) hb); replace HO300 := aM (Kd.R_below (R_mv HO300.out) hb); replace HO303 := aM (Kd.R_below (R_mv HO303.out) hb); replace HO307 := aM (Kd.R_below (R_mv HO307.out) hb); replace HO310 := aM (Kd.R_below (R_mv HO310.out) hb); have BK312 := aM (hbox); have GW312 := aM ((by rw [hg]; exact (below_size (by repeat (first | (with_reducible first | exact HB.out | apply bA | apply bN | apply bD | refine below_set ?_ GE279.out | refine below_set ?_ GE296.out) | exact HB.out))) : w.heap.size ≤ gb312)); have GE312 := aM ((by rw [hg]; exact (below_size (by repeat (first | (with_reducible first | exact HB.out | apply bA | apply bN | apply bD | refine below_set ?_ GE279.out | refine below_set ?_ GE296.out) | exact HB.out))) : w.heap.size ≤ gb312)); replace HB := aM (below_step (by repeat (first | (with_reducible first | exact HB.out | apply bA | apply bN | apply bD | refine below_set ?_ GE279.out | refine below_set ?_ GE296.out) | exact HB.out)) hb); have NB279_312 := aM ((by rw [hg]; exact Nat.ne_of_lt (blk_lt (blk_mv BK279.out)) : gb279 ≠ gb312)); have NB312_279 := aM ((by rw [hg]; exact Nat.ne_of_gt (blk_lt (blk_mv BK279.out)) : gb312 ≠ gb279)); replace BK279 := aM (blk_below (blk_mv BK279.out) hb); have NB296_312 := aM ((by rw [hg]; exact Nat.ne_of_lt (blk_lt (blk_mv BK296.out)) : gb296 ≠ gb312)); have NB312_296 := aM ((by rw [hg]; exact Nat.ne_of_gt (blk_lt (blk_mv BK296.out)) : gb312 ≠ gb296)); replace BK296 := aM (blk_below (blk_mv BK296.out) hb); clear hb hbox hg; obtain ⟨Ao73, co73, eo73⟩ := Kd.R_slice HO300.out; subst eo73; have hnb74 := NB312_279.out; have hnc74 := NB279_312.out; have hnb75 := NB312_296.out; have hnc75 := NB296_312.out; obtain ⟨hcz76_0, hcz76_1, hcz76_2, hfz76_0, hfz76_1, hfz76_2⟩ := blk3 BK312.out; obtain ⟨Ao77, co77, eo77⟩ := Kd.R_slice HO303.out; subst eo77) | ((with_reducible refine gate_store (t := 28) (p := 13) rfl ?_); refine store_event (t := 28) (p := 13) (v := ?vo_w78) (w1 := (((w72.setCell ⟨gb312, 0, none⟩ (.slice Ao73 t298.length co73)).setCell ⟨gb312, 1, none⟩ (.slice Ao77 t301.length co77)).setCell ⟨gb312, 2, none⟩ (.int .i64 t304))) ?hg ?ho ?hn ?hr ?_; (case ho => rfl); (case hg => rfl); (case hn => rfl); (case hr => first | (go_simp; done) | (go_simp; rfl)); intro w78 hw; have n0_ : Aside0 (Kd.R (Kd.int .i64) 3 w78 w.heap.size (fun k_ => some k_ ≠ (.slice (some ad283) t274.length co13 : Value).ownBlock ∧ some k_ ≠ (.slice Ao66 x297001_3.length co66 : Value).ownBlock ∧ some k_ ≠ (.slice Ao77 t301.length co77 : Value).ownBlock ∧ some k_ ≠ (v306 : Value).ownBlock ∧ some k_ ≠ (v309 : Value).ownBlock) (.slice Ao63 t284.length co63) t284) := ⟨(by rw [hw]; exact (by (with_reducible repeat (first | apply Kd.R_alloc | apply Kd.R_drewN | apply Kd.R_drew)); exact Kd.R_mono (f3 HO_9.out BK312.out (by decide)) (fun _ hk => ⟨hk.1.1.1.1.1, ⟨hk.1.1.1.1.2, ⟨hk.1.1.1.2, ⟨hk.1.1.2, hk.1.2⟩⟩⟩⟩)))⟩; have n1_ : Aside0 (Kd.R k32 32 w78 w.heap.size (fun k_ => some k_ ≠ (.slice Ao65 x297000_3.length co65 : Value).ownBlock ∧ some k_ ≠ (.slice Ao73 t298.length co73 : Value).ownBlock) (.slice Ao30 x280000_1.length co30) x280000_1) := ⟨(by rw [hw]; exact (by (with_reducible repeat (first | apply Kd.R_alloc | apply Kd.R_drewN | apply Kd.R_drew)); exact Kd.R_mono (f3 HO_280000.out BK312.out (by decide)) (fun _ hk => ⟨hk.1.1, hk.1.2⟩)))⟩; have n2_ : Aside0 (Kd.R (Kd.int .i64) 3 w78 w.heap.size (fun k_ => some k_ ≠ (.slice Ao63 t284.length co63 : Value).ownBlock ∧ some k_ ≠ (.slice Ao66 x297001_3.length co66 : Value).ownBlock ∧ some k_ ≠ (.slice Ao77 t301.length co77 : Value).ownBlock ∧ some k_ ≠ (v306 : Value).ownBlock ∧ some k_ ≠ (v309 : Value).ownBlock) (.slice (some ad283) t274.length co13) t274) := ⟨(by rw [hw]; exact (by (with_reducible repeat (first | apply Kd.R_alloc | apply Kd.R_drewN | apply Kd.R_drew)); exact Kd.R_mono (f3 HO_280001.out BK312.out (by decide)) (fun _ hk => ⟨hk.1.1.1.1.1, ⟨hk.1.1.1.1.2, ⟨hk.1.1.1.2, ⟨hk.1.1.2, hk.1.2⟩⟩⟩⟩)))⟩; have n3_ : Aside0 (Kd.R k32 32 w78 w.heap.size (fun k_ => some k_ ≠ (.slice Ao30 x280000_1.length co30 : Value).ownBlock ∧ some k_ ≠ (.slice Ao73 t298.length co73 : Value).ownBlock) (.slice Ao65 x297000_3.length co65) x297000_3) := ⟨(by rw [hw]; exact (by (with_reducible repeat (first | apply Kd.R_alloc | apply Kd.R_drewN | apply Kd.R_drew)); exact Kd.R_mono (f3 HO_297000.out BK312.out (by decide)) (fun _ hk => ⟨hk.1.1, hk.1.2⟩)))⟩; have n4_ : Aside0 (Kd.R (Kd.int .i64) 3 w78 w.heap.size (fun k_ => some k_ ≠ (.slice Ao63 t284.length co63 : Value).ownBlock ∧ some k_ ≠ (.slice (some ad283) t274.length co13 : Value).ownBlock ∧ some k_ ≠ (.slice Ao77 t301.length co77 : Value).ownBlock ∧ some k_ ≠ (v306 : Value).ownBlock ∧ some k_ ≠ (v309 : Value).ownBlock) (.slice Ao66 x297001_3.length co66) x297001_3) := ⟨(by rw [hw]; exact (by (with_reducible repeat (first | apply Kd.R_alloc | apply Kd.R_drewN | apply Kd.R_drew)); exact Kd.R_mono (f3 HO_297001.out BK312.out (by decide)) (fun _ hk => ⟨hk.1.1.1.1.1, ⟨hk.1.1.1.1.2, ⟨hk.1.1.1.2, ⟨hk.1.1.2, hk.1.2⟩⟩⟩⟩)))⟩; have n5_ : Aside0 (Kd.R k32 32 w78 w.heap.size (fun k_ => some k_ ≠ (.slice Ao30 x280000_1.length co30 : Value).ownBlock ∧ some k_ ≠ (.slice Ao65 x297000_3.length co65 : Value).ownBlock) (.slice Ao73 t298.length co73) t298) := ⟨(by rw [hw]; exact (by (with_reducible repeat (first | apply Kd.R_alloc | apply Kd.R_drewN | apply Kd.R_drew)); exact Kd.R_mono (f3 HO300.out BK312.out (by decide)) (fun _ hk => ⟨hk.1.1.2, hk.1.2⟩)))⟩; have n6_ : Aside0 (Kd.R (Kd.int .i64) 3 w78 w.heap.size (fun k_ => some k_ ≠ (.slice Ao63 t284.length co63 : Value).ownBlock ∧ some k_ ≠ (.slice (some ad283) t274.length co13 : Value).ownBlock ∧ some k_ ≠ (.slice Ao66 x297001_3.length co66 : Value).ownBlock ∧ some k_ ≠ (v306 : Value).ownBlock ∧ some k_ ≠ (v309 : Value).ownBlock) (.slice Ao77 t301.length co77) t301) := ⟨(by rw [hw]; exact (by (with_reducible repeat (first | apply Kd.R_alloc | apply Kd.R_drewN | apply Kd.R_drew)); exact Kd.R_mono (f3 HO303.out BK312.out (by decide)) (fun _ hk => ⟨hk.1.1.1.2, ⟨hk.1.1.2, ⟨hk.1.2, ⟨hk.1.1.1.1.1, hk.1.1.1.1.2⟩⟩⟩⟩)))⟩; have n7_ : Aside0 (Kd.R (Kd.int .i64) 3 w78 w.heap.size (fun k_ => some k_ ≠ (.slice Ao63 t284.length co63 : Value).ownBlock ∧ some k_ ≠ (.slice (some ad283) t274.length co13 : Value).ownBlock ∧ some k_ ≠ (.slice Ao66 x297001_3.length co66 : Value).ownBlock ∧ some k_ ≠ (.slice Ao77 t301.length co77 : Value).ownBlock ∧ some k_ ≠ (v309 : Value).ownBlock) v306 t305) := ⟨(by rw [hw]; exact (by (with_reducible repeat (first | apply Kd.R_alloc | apply Kd.R_drewN | apply Kd.R_drew)); exact Kd.R_mono (f3 HO307.out BK312.out (by decide)) (fun _ hk => ⟨hk.1.1.1.2, ⟨hk.1.1.2, ⟨hk.1.2, ⟨hk.1.1.1.1.1, hk.1.1.1.1.2⟩⟩⟩⟩)))⟩; have n8_ : Aside0 (Kd.R (Kd.int .i64) 3 w78 w.heap.size (fun k_ => some k_ ≠ (.slice Ao63 t284.length co63 : Value).ownBlock ∧ some k_ ≠ (.slice (some ad283) t274.length co13 : Value).ownBlock ∧ some k_ ≠ (.slice Ao66 x297001_3.length co66 : Value).ownBlock ∧ some k_ ≠ (.slice Ao77 t301.length co77 : Value).ownBlock ∧ some k_ ≠ (v306 : Value).ownBlock) v309 t308) := ⟨(by rw [hw]; exact (by (with_reducible repeat (first | apply Kd.R_alloc | apply Kd.R_drewN | apply Kd.R_drew)); exact Kd.R_mono (f3 HO310.out BK312.out (by decide)) (fun _ hk => ⟨hk.1.1.1.2, ⟨hk.1.1.2, ⟨hk.1.2, ⟨hk.1.1.1.1.1, hk.1.1.1.1.2⟩⟩⟩⟩)))⟩; have n9_ : Aside0 (w78.heap[gb279]? = some (.cells #[.slice Ao30 x280000_1.length co30, .slice (some ad283) t274.length co13, .int .i64 t277] 28 (0, 0))) := ⟨(by rw [hw]; exact (by (with_reducible repeat (first | refine kN ?_ _ | refine kD ?_ | refine kA ?_ _)); refine blk_far ?_ NB279_312.out _; (with_reducible repeat (first | refine kN ?_ _ | refine kD ?_ | refine kA ?_ _)); refine blk_far ?_ NB279_312.out _; (with_reducible repeat (first | refine kN ?_ _ | refine kD ?_ | refine kA ?_ _)); refine blk_far ?_ NB279_312.out _; (with_reducible repeat (first | refine kN ?_ _ | refine kD ?_ | refine kA ?_ _)); exact BK279.out))⟩; have n10_ : Aside0 (w78.heap[gb296]? = some (.cells #[.slice Ao65 x297000_3.length co65, .slice Ao66 x297001_3.length co66, .int .i64 x297002_3] 28 (0, 0))) := ⟨(by rw [hw]; exact (by (with_reducible repeat (first | refine kN ?_ _ | refine kD ?_ | refine kA ?_ _)); refine blk_far ?_ NB296_312.out _; (with_reducible repeat (first | refine kN ?_ _ | refine kD ?_ | refine kA ?_ _)); refine blk_far ?_ NB296_312.out _; (with_reducible repeat (first | refine kN ?_ _ | refine kD ?_ | refine kA ?_ _)); refine blk_far ?_ NB296_312.out _; (with_reducible repeat (first | refine kN ?_ _ | refine kD ?_ | refine kA ?_ _)); exact BK296.out))⟩; have n11_ : Aside0 (w78.heap[gb312]? = some (.cells #[.slice Ao73 t298.length co73, .slice Ao77 t301.length co77, .int .i64 t304] 28 (0, 0))) := ⟨(by rw [hw]; exact (by (with_reducible repeat (first | refine kN ?_ _ | refine kD ?_ | refine kA ?_ _)); refine blk_put (cs := #[.slice Ao73 t298.length co73, .slice Ao77 t301.length co77, .int .i64 0]) ?_ 2 _ rfl; (with_reducible repeat (first | refine kN ?_ _ | refine kD ?_ | refine kA ?_ _)); refine blk_put (cs := #[.slice Ao73 t298.length co73, .slice none 0 0, .int .i64 0]) ?_ 1 _ rfl; (with_reducible repeat (first | refine kN ?_ _ | refine kD ?_ | refine kA ?_ _)); refine blk_put (cs := #[.slice none 0 0, .slice none 0 0, .int .i64 0]) ?_ 0 _ rfl; (with_reducible repeat (first | refine kN ?_ _ | refine kD ?_ | refine kA ?_ _)); exact BK312.out))⟩; have n12_ : Aside0 (Below w.heap.size w w78) := ⟨(by rw [hw]; exact (by repeat (first | (with_reducible first | exact HB.out | apply bA | apply bN | apply bD | refine below_set ?_ GE279.out | refine below_set ?_ GE296.out | refine below_set ?_ GE312.out) | exact HB.out)))⟩; clear hw; clear HO_9; clear HO_280000; clear HO_280001; clear HO_297000; clear HO_297001; clear HO300; clear HO303; clear HO307; clear HO310; clear BK279; clear BK296; clear BK312; clear HB; have HO_9 := n0_; have HO_280000 := n1_; have HO_280001 := n2_; have HO_297000 := n3_; have HO_297001 := n4_; have HO300 := n5_; have HO303 := n6_; have HO307 := n7_; have HO310 := n8_; have BK279 := n9_; have BK296 := n10_; have BK312 := n11_; have HB := n12_; clear n0_ n1_ n2_ n3_ n4_ n5_ n6_ n7_ n8_ n9_ n10_ n11_ n12_; have q79 : (x12_3 : Int) ≤ ((t284.length : Int) : Int) := of_decide_eq_true (by first | (with_reducible assumption) | assumption); obtain ⟨i079, hi079, _, hsz79, _⟩ := info_parts info3; have hroom79 : t284.length ≤ co63 := (Kd.R_reads' HO_9.out).2.1; have hC79 : Kd.C (Kd.int .i64) _ Ao63 t284.length t284 := (Kd.R_reads' HO_9.out).2.2; have ql79 : ((ji49) : Int) ≤ (x12_3 : Int) := of_decide_eq_true (by first | (with_reducible assumption) | assumption); have q079 : (0 : Int) ≤ ((ji49) : Int) := of_decide_eq_true (by first | (with_reducible assumption) | assumption); have hcut79 := cut_mid (P := Try.prog) 26 3 .i64 .i64 Try.underlying26 hi079 1 hsz79 Ao63 t284.length co63 (ji49) x12_3 q079 ql79 q79 hroom79; have hr79 := Kd.C_mid (lo := ((ji49) : Int).toNat) (hi := (x12_3 : Int).toNat) (c := co63) hC79 (by omega) (by omega) hroom79; obtain ⟨A79, hA79⟩ : ∃ A1, A1 = (if co63 = ((ji49) : Int).toNat then Ao63 else (Ao63 : Option Addr).map (·.add (((ji49) : Int).toNat * 1))) := ⟨_, rfl⟩; obtain ⟨c79, hc79⟩ : ∃ c1, c1 = co63 - ((ji49) : Int).toNat := ⟨_, rfl⟩; have hy79 : y313.length = (x12_3 : Int).toNat - ((ji49) : Int).toNat := (by rw [Ny313.out, List.length_drop, List.length_take] <;> omega); rw [show ((t284).take (x12_3 : Int).toNat).drop ((ji49) : Int).toNat = y313 from Ny313.out.symm] at hr79; replace hr79 : Kd.C (Kd.int .i64) _ A79 y313.length y313 := (by rw [hA79]; exact hr79); rw [← hy79, ← hA79, ← hc79] at hcut79; have HR316 := aM hr79; have HC316 := aM (show y313.length ≤ c79 from by rw [hy79, hc79]; exact Nat.sub_le_sub_right (Nat.le_trans (by omega) hroom79) _); clear hr79 hC79 hroom79 hi079 hsz79 hc79; have KY79 := aM hy79; have KA79 := aM hA79; clear hy79 hA79; have KL79 := aM (show (x12_3 : Int).toNat ≤ t284.length from by omega); have KM79 := aM (show ((ji49) : Int).toNat ≤ (x12_3 : Int).toNat from by omega); replace q79 := eq_true q79; obtain ⟨Ao80, co80, eo80⟩ := Kd.R_slice HO307.out; subst eo80) | (go_at_call 17; (with_reducible refine (minecontrolref01_Ints.calls k3 _ _ t305 _ _ y313 true _ ?side1 ?side2 ?side3 ?side4 A53.out).mono ?_); (case side1 => exact C_mv (Kd.R_reads' HO307.out).2.2); (case side2 => exact (Kd.R_reads' HO307.out).2.1); (case side3 => repeat (first | exact (C_mv HR316.out) | (with_reducible refine Kd.C_alloc ?_ _) | (with_reducible refine Kd.C_drewN ?_ _) | (with_reducible refine Kd.C_drew ?_))); (case side4 => exact HC316.out); rintro e w' ⟨rfl, ⟨nd, rfl⟩⟩; (try (rw [drewN_self w78]; generalize hq_ : World.drewN w78 _ = w78; have n0_ : Aside0 (Kd.R k32 32 w78 w.heap.size (fun k_ => some k_ ≠ (.slice Ao30 x280000_1.length co30 : Value).ownBlock ∧ some k_ ≠ (.slice Ao65 x297000_3.length co65 : Value).ownBlock) (.slice Ao73 t298.length co73) t298) := ⟨by rw [← hq_]; exact (R_mv HO300.out)⟩; have n1_ : Aside0 (Kd.R (Kd.int .i64) 3 w78 w.heap.size (fun k_ => (some k_ ≠ (.slice Ao63 t284.length co63 : Value).ownBlock ∧ (some k_ ≠ (.slice (some ad283) t274.length co13 : Value).ownBlock ∧ (some k_ ≠ (.slice Ao66 x297001_3.length co66 : Value).ownBlock ∧ (some k_ ≠ (.slice Ao80 t305.length co80 : Value).ownBlock ∧ some k_ ≠ (v309 : Value).ownBlock))))) (.slice Ao77 t301.length co77) t301) := ⟨by rw [← hq_]; exact (R_mv HO303.out)⟩; have n2_ : Aside0 (Kd.R (Kd.int .i64) 3 w78 w.heap.size (fun k_ => (some k_ ≠ (.slice Ao63 t284.length co63 : Value).ownBlock ∧ (some k_ ≠ (.slice (some ad283) t274.length co13 : Value).ownBlock ∧ (some k_ ≠ (.slice Ao66 x297001_3.length co66 : Value).ownBlock ∧ (some k_ ≠ (.slice Ao77 t301.length co77 : Value).ownBlock ∧ some k_ ≠ (v309 : Value).ownBlock))))) (.slice Ao80 t305.length co80) t305) := ⟨by rw [← hq_]; exact (R_mv HO307.out)⟩; have n3_ : Aside0 (Kd.R (Kd.int .i64) 3 w78 w.heap.size (fun k_ => (some k_ ≠ (.slice Ao63 t284.length co63 : Value).ownBlock ∧ (some k_ ≠ (.slice (some ad283) t274.length co13 : Value).ownBlock ∧ (some k_ ≠ (.slice Ao66 x297001_3.length co66 : Value).ownBlock ∧ (some k_ ≠ (.slice Ao77 t301.length co77 : Value).ownBlock ∧ some k_ ≠ (.slice Ao80 t305.length co80 : Value).ownBlock))))) v309 t308) := ⟨by rw [← hq_]; exact (R_mv HO310.out)⟩; have n4_ : Aside0 (Kd.R k32 32 w78 w.heap.size (fun k_ => (some k_ ≠ (.slice Ao65 x297000_3.length co65 : Value).ownBlock ∧ some k_ ≠ (.slice Ao73 t298.length co73 : Value).ownBlock)) (.slice Ao30 x280000_1.length co30) x280000_1) := ⟨by rw [← hq_]; exact (R_mv HO_280000.out)⟩; have n5_ : Aside0 (Kd.R (Kd.int .i64) 3 w78 w.heap.size (fun k_ => (some k_ ≠ (.slice Ao63 t284.length co63 : Value).ownBlock ∧ (some k_ ≠ (.slice Ao66 x297001_3.length co66 : Value).ownBlock ∧ (some k_ ≠ (.slice Ao77 t301.length co77 : Value).ownBlock ∧ (some k_ ≠ (.slice Ao80 t305.length co80 : Value).ownBlock ∧ some k_ ≠ (v309 : Value).ownBlock))))) (.slice (some ad283) t274.length co13) t274) := ⟨by rw [← hq_]; exact (R_mv HO_280001.out)⟩; have n6_ : Aside0 (Kd.R k32 32 w78 w.heap.size (fun k_ => (some k_ ≠ (.slice Ao30 x280000_1.length co30 : Value).ownBlock ∧ some k_ ≠ (.slice Ao73 t298.length co73 : Value).ownBlock)) (.slice Ao65 x297000_3.length co65) x297000_3) := ⟨by rw [← hq_]; exact (R_mv HO_297000.out)⟩; have n7_ : Aside0 (Kd.R (Kd.int .i64) 3 w78 w.heap.size (fun k_ => (some k_ ≠ (.slice Ao63 t284.length co63 : Value).ownBlock ∧ (some k_ ≠ (.slice (some ad283) t274.length co13 : Value).ownBlock ∧ (some k_ ≠ (.slice Ao77 t301.length co77 : Value).ownBlock ∧ (some k_ ≠ (.slice Ao80 t305.length co80 : Value).ownBlock ∧ some k_ ≠ (v309 : Value).ownBlock))))) (.slice Ao66 x297001_3.length co66) x297001_3) := ⟨by rw [← hq_]; exact (R_mv HO_297001.out)⟩; have n8_ : Aside0 (Kd.R (Kd.int .i64) 3 w78 w.heap.size (fun k_ => (some k_ ≠ (.slice (some ad283) t274.length co13 : Value).ownBlock ∧ (some k_ ≠ (.slice Ao66 x297001_3.length co66 : Value).ownBlock ∧ (some k_ ≠ (.slice Ao77 t301.length co77 : Value).ownBlock ∧ (some k_ ≠ (.slice Ao80 t305.length co80 : Value).ownBlock ∧ some k_ ≠ (v309 : Value).ownBlock))))) (.slice Ao63 t284.length co63) t284) := ⟨by rw [← hq_]; exact (R_mv HO_9.out)⟩; have n9_ : Aside0 (w78.heap[gb279]? = some (.cells #[.slice Ao30 x280000_1.length co30, .slice (some ad283) t274.length co13, .int .i64 t277] 28 (0, 0))) := ⟨by rw [← hq_]; exact (by (with_reducible repeat (first | refine kN ?_ _ | refine kD ?_ | refine kA ?_ _)); exact BK279.out)⟩; have n10_ : Aside0 (w78.heap[gb296]? = some (.cells #[.slice Ao65 x297000_3.length co65, .slice Ao66 x297001_3.length co66, .int .i64 x297002_3] 28 (0, 0))) := ⟨by rw [← hq_]; exact (by (with_reducible repeat (first | refine kN ?_ _ | refine kD ?_ | refine kA ?_ _)); exact BK296.out)⟩; have n11_ : Aside0 (w78.heap[gb312]? = some (.cells #[.slice Ao73 t298.length co73, .slice Ao77 t301.length co77, .int .i64 t304] 28 (0, 0))) := ⟨by rw [← hq_]; exact (by (with_reducible repeat (first | refine kN ?_ _ | refine kD ?_ | refine kA ?_ _)); exact BK312.out)⟩; have n12_ : Aside0 (Below w.heap.size w w78) := ⟨by rw [← hq_]; exact (by repeat (first | (with_reducible first | exact HB.out | apply bA | apply bN | apply bD | refine below_set ?_ GE279.out | refine below_set ?_ GE296.out | refine below_set ?_ GE312.out) | exact HB.out))⟩; have n13_ : Aside0 (Kd.C (Kd.int .i64) w78 A79 y313.length y313) := ⟨by rw [← hq_]; exact (C_mv HR316.out)⟩; clear HO300 HO303 HO307 HO310 HO_280000 HO_280001 HO_297000 HO_297001 HO_9 BK279 BK296 BK312 HB HR316 hq_; have HO300 := n0_; have HO303 := n1_; have HO307 := n2_; have HO310 := n3_; have HO_280000 := n4_; have HO_280001 := n5_; have HO_297000 := n6_; have HO_297001 := n7_; have HO_9 := n8_; have BK279 := n9_; have BK296 := n10_; have BK312 := n11_; have HB := n12_; have HR316 := n13_; clear n0_ n1_ n2_ n3_ n4_ n5_ n6_ n7_ n8_ n9_ n10_ n11_ n12_ n13_)); have q81 : ((wrap64 (x12_3 + 1)) : Int) ≤ ((t284.length : Int) : Int) := of_decide_eq_true (by first | (with_reducible assumption) | assumption); obtain ⟨i081, hi081, _, hsz81, _⟩ := info_parts info3; have hroom81 : t284.length ≤ co63 := (Kd.R_reads' HO_9.out).2.1; have hC81 : Kd.C (Kd.int .i64) _ Ao63 t284.length t284 := (Kd.R_reads' HO_9.out).2.2; have ql81 : (x12_3 : Int) ≤ ((wrap64 (x12_3 + 1)) : Int) := of_decide_eq_true (by first | (with_reducible assumption) | assumption); have q081 : (0 : Int) ≤ (x12_3 : Int) := of_decide_eq_true (by first | (with_reducible assumption) | assumption); have hcut81 := cut_mid (P := Try.prog) 26 3 .i64 .i64 Try.underlying26 hi081 1 hsz81 Ao63 t284.length co63 x12_3 (wrap64 (x12_3 + 1)) q081 ql81 q81 hroom81; have hr81 := Kd.C_mid (lo := (x12_3 : Int).toNat) (hi := ((wrap64 (x12_3 + 1)) : Int).toNat) (c := co63) hC81 (by omega) (by omega) hroom81; obtain ⟨A81, hA81⟩ : ∃ A1, A1 = (if co63 = (x12_3 : Int).toNat then Ao63 else (Ao63 : Option Addr).map (·.add ((x12_3 : Int).toNat * 1))) := ⟨_, rfl⟩; obtain ⟨c81, hc81⟩ : ∃ c1, c1 = co63 - (x12_3 : Int).toNat := ⟨_, rfl⟩; have hy81 : y318.length = ((wrap64 (x12_3 + 1)) : Int).toNat - (x12_3 : Int).toNat := (by rw [Ny318.out, List.length_drop, List.length_take] <;> omega); rw [show ((t284).take ((wrap64 (x12_3 + 1)) : Int).toNat).drop (x12_3 : Int).toNat = y318 from Ny318.out.symm] at hr81; replace hr81 : Kd.C (Kd.int .i64) _ A81 y318.length y318 := (by rw [hA81]; exact hr81); rw [← hy81, ← hA81, ← hc81] at hcut81; have HR321 := aM hr81; have HC321 := aM (show y318.length ≤ c81 from by rw [hy81, hc81]; exact Nat.sub_le_sub_right (Nat.le_trans (by omega) hroom81) _); clear hr81 hC81 hroom81 hi081 hsz81 hc81; have KY81 := aM hy81; have KA81 := aM hA81; clear hy81 hA81; have KL81 := aM (show ((wrap64 (x12_3 + 1)) : Int).toNat ≤ t284.length from by omega); have KM81 := aM (show (x12_3 : Int).toNat ≤ ((wrap64 (x12_3 + 1)) : Int).toNat from by omega); replace q81 := eq_true q81; obtain ⟨Ao82, co82, eo82⟩ := Kd.R_slice HO310.out; subst eo82) | (go_at_call 17; (with_reducible refine (minecontrolref01_Ints.calls k3 _ _ t308 _ _ y318 true _ ?side1 ?side2 ?side3 ?side4 A59.out).mono ?_); (case side1 => exact C_mv (Kd.R_reads' HO310.out).2.2); (case side2 => exact (Kd.R_reads' HO310.out).2.1); (case side3 => repeat (first | exact (C_mv HR321.out) | (with_reducible refine Kd.C_alloc ?_ _) | (with_reducible refine Kd.C_drewN ?_ _) | (with_reducible refine Kd.C_drew ?_))); (case side4 => exact HC321.out); rintro e w' ⟨rfl, ⟨nd, rfl⟩⟩; (try (rw [drewN_self w78]; generalize hq_ : World.drewN w78 _ = w78; have n0_ : Aside0 (Kd.R k32 32 w78 w.heap.size (fun k_ => some k_ ≠ (.slice Ao30 x280000_1.length co30 : Value).ownBlock ∧ some k_ ≠ (.slice Ao65 x297000_3.length co65 : Value).ownBlock) (.slice Ao73 t298.length co73) t298) := ⟨by rw [← hq_]; exact (R_mv HO300.out)⟩; have n1_ : Aside0 (Kd.R (Kd.int .i64) 3 w78 w.heap.size (fun k_ => (some k_ ≠ (.slice Ao63 t284.length co63 : Value).ownBlock ∧ (some k_ ≠ (.slice (some ad283) t274.length co13 : Value).ownBlock ∧ (some k_ ≠ (.slice Ao66 x297001_3.length co66 : Value).ownBlock ∧ (some k_ ≠ (.slice Ao80 t305.length co80 : Value).ownBlock ∧ some k_ ≠ (.slice Ao82 t308.length co82 : Value).ownBlock))))) (.slice Ao77 t301.length co77) t301) := ⟨by rw [← hq_]; exact (R_mv HO303.out)⟩; have n2_ : Aside0 (Kd.R (Kd.int .i64) 3 w78 w.heap.size (fun k_ => (some k_ ≠ (.slice Ao63 t284.length co63 : Value).ownBlock ∧ (some k_ ≠ (.slice (some ad283) t274.length co13 : Value).ownBlock ∧ (some k_ ≠ (.slice Ao66 x297001_3.length co66 : Value).ownBlock ∧ (some k_ ≠ (.slice Ao77 t301.length co77 : Value).ownBlock ∧ some k_ ≠ (.slice Ao82 t308.length co82 : Value).ownBlock))))) (.slice Ao80 t305.length co80) t305) := ⟨by rw [← hq_]; exact (R_mv HO307.out)⟩; have n3_ : Aside0 (Kd.R (Kd.int .i64) 3 w78 w.heap.size (fun k_ => (some k_ ≠ (.slice Ao63 t284.length co63 : Value).ownBlock ∧ (some k_ ≠ (.slice (some ad283) t274.length co13 : Value).ownBlock ∧ (some k_ ≠ (.slice Ao66 x297001_3.length co66 : Value).ownBlock ∧ (some k_ ≠ (.slice Ao77 t301.length co77 : Value).ownBlock ∧ some k_ ≠ (.slice Ao80 t305.length co80 : Value).ownBlock))))) (.slice Ao82 t308.length co82) t308) := ⟨by rw [← hq_]; exact (R_mv HO310.out)⟩; have n4_ : Aside0 (Kd.R k32 32 w78 w.heap.size (fun k_ => (some k_ ≠ (.slice Ao65 x297000_3.length co65 : Value).ownBlock ∧ some k_ ≠ (.slice Ao73 t298.length co73 : Value).ownBlock)) (.slice Ao30 x280000_1.length co30) x280000_1) := ⟨by rw [← hq_]; exact (R_mv HO_280000.out)⟩; have n5_ : Aside0 (Kd.R (Kd.int .i64) 3 w78 w.heap.size (fun k_ => (some k_ ≠ (.slice Ao63 t284.length co63 : Value).ownBlock ∧ (some k_ ≠ (.slice Ao66 x297001_3.length co66 : Value).ownBlock ∧ (some k_ ≠ (.slice Ao77 t301.length co77 : Value).ownBlock ∧ (some k_ ≠ (.slice Ao80 t305.length co80 : Value).ownBlock ∧ some k_ ≠ (.slice Ao82 t308.length co82 : Value).ownBlock))))) (.slice (some ad283) t274.length co13) t274) := ⟨by rw [← hq_]; exact (R_mv HO_280001.out)⟩; have n6_ : Aside0 (Kd.R k32 32 w78 w.heap.size (fun k_ => (some k_ ≠ (.slice Ao30 x280000_1.length co30 : Value).ownBlock ∧ some k_ ≠ (.slice Ao73 t298.length co73 : Value).ownBlock)) (.slice Ao65 x297000_3.length co65) x297000_3) := ⟨by rw [← hq_]; exact (R_mv HO_297000.out)⟩; have n7_ : Aside0 (Kd.R (Kd.int .i64) 3 w78 w.heap.size (fun k_ => (some k_ ≠ (.slice Ao63 t284.length co63 : Value).ownBlock ∧ (some k_ ≠ (.slice (some ad283) t274.length co13 : Value).ownBlock ∧ (some k_ ≠ (.slice Ao77 t301.length co77 : Value).ownBlock ∧ (some k_ ≠ (.slice Ao80 t305.length co80 : Value).ownBlock ∧ some k_ ≠ (.slice Ao82 t308.length co82 : Value).ownBlock))))) (.slice Ao66 x297001_3.length co66) x297001_3) := ⟨by rw [← hq_]; exact (R_mv HO_297001.out)⟩; have n8_ : Aside0 (Kd.R (Kd.int .i64) 3 w78 w.heap.size (fun k_ => (some k_ ≠ (.slice (some ad283) t274.length co13 : Value).ownBlock ∧ (some k_ ≠ (.slice Ao66 x297001_3.length co66 : Value).ownBlock ∧ (some k_ ≠ (.slice Ao77 t301.length co77 : Value).ownBlock ∧ (some k_ ≠ (.slice Ao80 t305.length co80 : Value).ownBlock ∧ some k_ ≠ (.slice Ao82 t308.length co82 : Value).ownBlock))))) (.slice Ao63 t284.length co63) t284) := ⟨by rw [← hq_]; exact (R_mv HO_9.out)⟩; have n9_ : Aside0 (w78.heap[gb279]? = some (.cells #[.slice Ao30 x280000_1.length co30, .slice (some ad283) t274.length co13, .int .i64 t277] 28 (0, 0))) := ⟨by rw [← hq_]; exact (by (with_reducible repeat (first | refine kN ?_ _ | refine kD ?_ | refine kA ?_ _)); exact BK279.out)⟩; have n10_ : Aside0 (w78.heap[gb296]? = some (.cells #[.slice Ao65 x297000_3.length co65, .slice Ao66 x297001_3.length co66, .int .i64 x297002_3] 28 (0, 0))) := ⟨by rw [← hq_]; exact (by (with_reducible repeat (first | refine kN ?_ _ | refine kD ?_ | refine kA ?_ _)); exact BK296.out)⟩; have n11_ : Aside0 (w78.heap[gb312]? = some (.cells #[.slice Ao73 t298.length co73, .slice Ao77 t301.length co77, .int .i64 t304] 28 (0, 0))) := ⟨by rw [← hq_]; exact (by (with_reducible repeat (first | refine kN ?_ _ | refine kD ?_ | refine kA ?_ _)); exact BK312.out)⟩; have n12_ : Aside0 (Below w.heap.size w w78) := ⟨by rw [← hq_]; exact (by repeat (first | (with_reducible first | exact HB.out | apply bA | apply bN | apply bD | refine below_set ?_ GE279.out | refine below_set ?_ GE296.out | refine below_set ?_ GE312.out) | exact HB.out))⟩; have n13_ : Aside0 (Kd.C (Kd.int .i64) w78 A79 y313.length y313) := ⟨by rw [← hq_]; exact (C_mv HR316.out)⟩; have n14_ : Aside0 (Kd.C (Kd.int .i64) w78 A81 y318.length y318) := ⟨by rw [← hq_]; exact (C_mv HR321.out)⟩; clear HO300 HO303 HO307 HO310 HO_280000 HO_280001 HO_297000 HO_297001 HO_9 BK279 BK296 BK312 HB HR316 HR321 hq_; have HO300 := n0_; have HO303 := n1_; have HO307 := n2_; have HO310 := n3_; have HO_280000 := n4_; have HO_280001 := n5_; have HO_297000 := n6_; have HO_297001 := n7_; have HO_9 := n8_; have BK279 := n9_; have BK296 := n10_; have BK312 := n11_; have HB := n12_; have HR316 := n13_; have HR321 := n14_; clear n0_ n1_ n2_ n3_ n4_ n5_ n6_ n7_ n8_ n9_ n10_ n11_ n12_ n13_ n14_)); obtain ⟨hcz83_0, hcz83_1, hcz83_2, hfz83_0, hfz83_1, hfz83_2⟩ := blk3 BK312.out; obtain ⟨hcz84_0, hcz84_1, hcz84_2, hfz84_0, hfz84_1, hfz84_2⟩ := blk3 BK296.out))
              go_roundg k3
              case measure => have := HK1.out; have := HJ26.out; have := HK3.out; omega
              case rel => exact ⟨(wrap64 (x12_3 + 1)), (t298), (t301), (t304), (.slice Ao73 t298.length co73), (.slice Ao77 t301.length co77), (by first | rfl | (simp; done) | (simp [*]; done)), H', ⟨by have := HK1.out; have := HJ26.out; have := HK3.out; omega⟩, ⟨by (with_reducible repeat (first | apply Kd.R_alloc | apply Kd.R_drewN | apply Kd.R_drew)); exact Kd.R_mono (f3 HO_9.out BK296.out (by decide)) (fun _ hk => ⟨hk.1.1, hk.1.2.2.1⟩)⟩, ⟨by (with_reducible repeat (first | apply Kd.R_alloc | apply Kd.R_drewN | apply Kd.R_drew)); exact Kd.R_mono (f3 HO_280000.out BK296.out (by decide)) (fun _ hk => hk.1.2)⟩, ⟨by (with_reducible repeat (first | apply Kd.R_alloc | apply Kd.R_drewN | apply Kd.R_drew)); exact Kd.R_mono (f3 HO_280001.out BK296.out (by decide)) (fun _ hk => ⟨hk.1.1, hk.1.2.2.1⟩)⟩, ⟨by (with_reducible repeat (first | apply Kd.R_alloc | apply Kd.R_drewN | apply Kd.R_drew)); exact Kd.R_mono (f3 HO300.out BK296.out (by decide)) (fun _ hk => hk.1.1)⟩, ⟨by (with_reducible repeat (first | apply Kd.R_alloc | apply Kd.R_drewN | apply Kd.R_drew)); exact Kd.R_mono (f3 HO303.out BK296.out (by decide)) (fun _ hk => ⟨hk.1.1, hk.1.2.1⟩)⟩, ⟨by (with_reducible repeat (first | refine kN ?_ _ | refine kD ?_ | refine kA ?_ _)); refine blk_far ?_ NB279_296.out _; (with_reducible repeat (first | refine kN ?_ _ | refine kD ?_ | refine kA ?_ _)); refine blk_far ?_ NB279_296.out _; (with_reducible repeat (first | refine kN ?_ _ | refine kD ?_ | refine kA ?_ _)); refine blk_far ?_ NB279_296.out _; (with_reducible repeat (first | refine kN ?_ _ | refine kD ?_ | refine kA ?_ _)); exact BK279.out⟩, ⟨by (with_reducible repeat (first | refine kN ?_ _ | refine kD ?_ | refine kA ?_ _)); refine blk_put (cs := #[.slice Ao73 t298.length co73, .slice Ao77 t301.length co77, .int .i64 x297002_3]) ?_ 2 _ rfl; (with_reducible repeat (first | refine kN ?_ _ | refine kD ?_ | refine kA ?_ _)); refine blk_put (cs := #[.slice Ao73 t298.length co73, .slice Ao66 x297001_3.length co66, .int .i64 x297002_3]) ?_ 1 _ rfl; (with_reducible repeat (first | refine kN ?_ _ | refine kD ?_ | refine kA ?_ _)); refine blk_put (cs := #[.slice Ao65 x297000_3.length co65, .slice Ao66 x297001_3.length co66, .int .i64 x297002_3]) ?_ 0 _ rfl; (with_reducible repeat (first | refine kN ?_ _ | refine kD ?_ | refine kA ?_ _)); exact BK296.out⟩, ⟨by repeat (first | (with_reducible first | exact HB.out | apply bA | apply bN | apply bD | refine below_set ?_ GE279.out | refine below_set ?_ GE296.out | refine below_set ?_ GE312.out) | exact HB.out)⟩⟩
             rw [if_neg c61] at H
             have c61b0 : (x12_3 == (t284.length : Int)) = false := beq_eq_false_iff_ne.mpr c61
             have c61b1 : (x12_3 != (t284.length : Int)) = true := bne_iff_ne.mpr c61
             have H' := aM H
             clear H
             obtain ⟨Ao85, co85, eo85⟩ := Kd.R_slice HO_9.out
             subst eo85
             try go_wp2
             replace HO_9 := aM (Kd.R_drew HO_9.out)
             replace HO_280000 := aM (Kd.R_drew HO_280000.out)
             replace HO_280001 := aM (Kd.R_drew HO_280001.out)
             replace HO_297000 := aM (Kd.R_drew HO_297000.out)
             replace HO_297001 := aM (Kd.R_drew HO_297001.out)
             replace BK279 := aM (blk_drew BK279.out)
             replace BK296 := aM (blk_drew BK296.out)
             replace HB := aM (below_drew1 HB.out)
             obtain ⟨Ao87, co87, eo87⟩ := Kd.R_slice HO_297000.out
             (first | subst eo87 | (injection eo87 with f1_ f2_ f3_; have f4_ := f1_.symm; have f5_ := f3_.symm; clear f1_ f2_ f3_; subst f4_; subst f5_))
             obtain ⟨Ao88, co88, eo88⟩ := Kd.R_slice HO_297001.out
             (first | subst eo88 | (injection eo88 with f1_ f2_ f3_; have f4_ := f1_.symm; have f5_ := f3_.symm; clear f1_ f2_ f3_; subst f4_; subst f5_))
             refine start_ (n := 7) (S := fun w' => w'.cell? ⟨gb296, 0, none⟩ = some (.slice Ao87 x297000_3.length co87) ∧ w'.cell? ⟨gb296, 1, none⟩ = some (.slice Ao88 x297001_3.length co88) ∧ w'.cell? ⟨gb296, 2, none⟩ = some (.int .i64 x297002_3) ∧ w'.cell? ⟨gb279, 0, none⟩ = some (.slice Ao30 x280000_1.length co30) ∧ w'.cell? ⟨gb279, 1, none⟩ = some (.slice (some ad283) t274.length co13) ∧ w'.cell? ⟨gb279, 2, none⟩ = some (.int .i64 t277)) (ds := []) #[false, false, false, false, false, false, false] (by kernel_rfl) rfl rfl ⟨(blk_cell BK296.out 0).trans rfl, (blk_cell BK296.out 1).trans rfl, (blk_cell BK296.out 2).trans rfl, (blk_cell BK279.out 0).trans rfl, (blk_cell BK279.out 1).trans rfl, (blk_cell BK279.out 2).trans rfl⟩ (fun hHeld => ?_)
             generalize wr.drew = w86 at HO_9 HO_280000 HO_280001 HO_297000 HO_297001 BK279 BK296 HB hHeld ⊢
             refine pure_ (i := 2) (N := some 78) (v := ?_) (a' := ?_) #[false, false, true, false, false, false, false] rfl rfl (by kernel_rfl) (fun _ _ _ h => h) (Or.inl ⟨by rfl, ?_⟩) ?_ ?_
             rotate_left
             ·
              intro w'
              go_simp
              with_reducible rfl
             rotate_left
             ·
              simp only [Act.put, sT, sZ, sS, i64_w, i32_w]
              rfl
             refine pure_ (i := 3) (N := some 79) (v := ?_) (a' := ?_) #[false, false, true, true, false, false, false] rfl rfl (by kernel_rfl) (fun _ _ _ h => h) (Or.inl ⟨by rfl, ?_⟩) ?_ ?_
             rotate_left
             ·
              intro w'
              go_simp
              with_reducible rfl
             rotate_left
             ·
              simp only [Act.put, sT, sZ, sS, i64_w, i32_w]
              rfl
             refine take_ (i := 0) (N := some 76) (v := ?_) (a' := ?_) #[true, false, true, true, false, false, false] rfl rfl (by kernel_rfl) (fun _ _ _ h => h) (Or.inl ⟨by rfl, ?_⟩) hHeld ?_ ?_
             rotate_left
             ·
              rintro w' ⟨s0, s1, s2, s3, s4, s5⟩
              go_simp
              with_reducible rfl
             rotate_left
             ·
              simp only [Act.put, sT, sZ, sS, i64_w, i32_w]
              rfl
             refine take_ (i := 4) (N := some 80) (v := ?_) (a' := ?_) #[true, false, true, true, true, false, false] rfl rfl (by kernel_rfl) (fun _ _ _ h => h) (Or.inl ⟨by rfl, ?_⟩) hHeld ?_ ?_
             rotate_left
             ·
              rintro w' ⟨s0, s1, s2, s3, s4, s5⟩
              go_simp
              with_reducible rfl
             rotate_left
             ·
              simp only [Act.put, sT, sZ, sS, i64_w, i32_w]
              rfl
             refine pure_ (i := 5) (N := some 81) (v := ?_) (a' := ?_) #[true, false, true, true, true, true, false] rfl rfl (by kernel_rfl) (fun _ _ _ h => h) (Or.inl ⟨by rfl, ?_⟩) ?_ ?_
             rotate_left
             ·
              intro w'
              go_simp
              with_reducible rfl
             rotate_left
             ·
              simp only [Act.put, sT, sZ, sS, i64_w, i32_w]
              rfl
             refine one_ (i := 1) (N := some 77) #[true, true, true, true, true, true, false] rfl rfl (by kernel_rfl) (by decide) (fun K hK => ?_)
             refine goes_ Try.func15 (by kernel_rfl) rfl #[.agg #[.slice Ao87 x297000_3.length co87, .slice Ao88 x297001_3.length co88, .int .i64 x297002_3]] (by rfl) rfl rfl (by first | rfl | (simp only [List.map_toArray, List.map_cons, List.map_nil, List.length_drop, List.length_take]; try rfl)) ?_
             with_reducible refine (feeder_Due.calls k3 _ _ x297000_3 _ _ x297001_3 x297002_3 t297 _ ?side1 ?side2 ?side3 ?side4 A45.out).mono ?_
             (case side1 => exact C_mv (Kd.R_reads' HO_297000.out).2.2)
             (case side2 => exact (Kd.R_reads' HO_297000.out).2.1)
             (case side3 => exact C_mv (Kd.R_reads' HO_297001.out).2.2)
             (case side4 => exact (Kd.R_reads' HO_297001.out).2.1)
             rintro e w89 ⟨rfl, hb⟩
             refine ⟨_, rfl, ?_⟩
             replace HO_9 := aM (Kd.R_below (R_mv HO_9.out) hb)
             replace HO_280000 := aM (Kd.R_below (R_mv HO_280000.out) hb)
             replace HO_280001 := aM (Kd.R_below (R_mv HO_280001.out) hb)
             replace HO_297000 := aM (Kd.R_below (R_mv HO_297000.out) hb)
             replace HO_297001 := aM (Kd.R_below (R_mv HO_297001.out) hb)
             replace BK279 := aM (blk_below (blk_mv BK279.out) hb)
             replace BK296 := aM (blk_below (blk_mv BK296.out) hb)
             replace HB := aM (below_step (by repeat (first | (with_reducible first | exact HB.out | apply bA | apply bN | apply bD | refine below_set ?_ GE279.out | refine below_set ?_ GE296.out) | exact HB.out)) hb)
             (try clear hb)
             (try clear hb2)
             (try clear hge)
             (try clear hk)
             (try clear hi)
             refine hK.out _ _ ⟨(blk_cell BK296.out 0).trans rfl, (blk_cell BK296.out 1).trans rfl, (blk_cell BK296.out 2).trans rfl, (blk_cell BK279.out 0).trans rfl, (blk_cell BK279.out 1).trans rfl, (blk_cell BK279.out 2).trans rfl⟩ (fun hHeld => ?_)
             clear hK K
             refine norm_ (a' := ?_) ?_ ?_
             rotate_left
             ·
              show Act.put _ (some 77) _ = _
              simp only [Act.put, sT, sZ, sS, i64_w, i32_w]
              rfl
             refine pure_ (i := 6) (N := some 82) (v := ?_) (a' := ?_) #[true, true, true, true, true, true, true] rfl rfl (by kernel_rfl) (fun _ _ _ h => h) (Or.inl ⟨by rfl, ?_⟩) ?_ ?_
             rotate_left
             ·
              intro w'
              go_simp
              with_reducible rfl
             rotate_left
             ·
              simp only [Act.put, sT, sZ, sS, i64_w, i32_w]
              rfl
             refine done_ (by kernel_rfl) ?_
             have hnb90 := NB296_279.out
             have hnc90 := NB279_296.out
             obtain ⟨hcz91_0, hcz91_1, hcz91_2, hfz91_0, hfz91_1, hfz91_2⟩ := blk3 BK296.out
             obtain ⟨hcz92_0, hcz92_1, hcz92_2, hfz92_0, hfz92_1, hfz92_2⟩ := blk3 BK279.out
             try go_wp2_with (first | ((with_reducible refine gate_callee (f := 16) rfl ?_); refine goesL_ (some 89) rfl rfl Try.func16 (by kernel_rfl) rfl #[.agg #[.slice Ao87 x297000_3.length co87, .slice Ao88 x297001_3.length co88, .int .i64 x297002_3], .int .i64 (wrap64 (x12_3 * t277))] rfl (by first | rfl | (simp only [List.map_toArray, List.map_cons, List.map_nil, List.length_drop, List.length_take]; try rfl)) ?_; (with_reducible refine (feeder_Tick.calls k3 _ _ x297000_3 _ _ x297001_3 x297002_3 (wrap64 (x12_3 * t277)) t298 t301 t304 t305 t308 t311 _ ?side1 ?side2 ?side3 ?side4 A47.out).mono ?_); (case side1 => exact C_mv (Kd.R_reads' HO_297000.out).2.2); (case side2 => exact (Kd.R_reads' HO_297000.out).2.1); (case side3 => exact C_mv (Kd.R_reads' HO_297001.out).2.2); (case side4 => exact (Kd.R_reads' HO_297001.out).2.1); rintro e w93 ⟨v299, v302, v306, v309, rfl, ho0, ho1, ho2, ho3, hb⟩; refine ⟨_, rfl, ?_⟩; have HO300 := aM (Kd.R_lower (Kd.R_new' (Kd.R_new' ho0 (Kd.R_lt (R_mv HO_280000.out))) (Kd.R_lt (R_mv HO_297000.out))) (below_size (by repeat (first | (with_reducible first | exact HB.out | apply bA | apply bN | apply bD | refine below_set ?_ GE279.out | refine below_set ?_ GE296.out) | exact HB.out)))); replace HO_280000 := aM (Kd.R_elder' (R_mv HO_280000.out) (Kd.R_base ho0) hb); replace HO_297000 := aM (Kd.R_elder' (R_mv HO_297000.out) (Kd.R_base ho0) hb); have HO303 := aM (Kd.R_lower (Kd.R_new' (Kd.R_new' (Kd.R_new' ho1 (Kd.R_lt (R_mv HO_9.out))) (Kd.R_lt (R_mv HO_280001.out))) (Kd.R_lt (R_mv HO_297001.out))) (below_size (by repeat (first | (with_reducible first | exact HB.out | apply bA | apply bN | apply bD | refine below_set ?_ GE279.out | refine below_set ?_ GE296.out) | exact HB.out)))); have HO307 := aM (Kd.R_lower (Kd.R_new' (Kd.R_new' (Kd.R_new' ho2 (Kd.R_lt (R_mv HO_9.out))) (Kd.R_lt (R_mv HO_280001.out))) (Kd.R_lt (R_mv HO_297001.out))) (below_size (by repeat (first | (with_reducible first | exact HB.out | apply bA | apply bN | apply bD | refine below_set ?_ GE279.out | refine below_set ?_ GE296.out) | exact HB.out)))); have HO310 := aM (Kd.R_lower (Kd.R_new' (Kd.R_new' (Kd.R_new' ho3 (Kd.R_lt (R_mv HO_9.out))) (Kd.R_lt (R_mv HO_280001.out))) (Kd.R_lt (R_mv HO_297001.out))) (below_size (by repeat (first | (with_reducible first | exact HB.out | apply bA | apply bN | apply bD | refine below_set ?_ GE279.out | refine below_set ?_ GE296.out) | exact HB.out)))); replace HO_9 := aM (Kd.R_mono (Kd.R_told (Kd.R_told (Kd.R_told (Kd.R_old (R_mv HO_9.out) hb) (Kd.R_base ho1)) (Kd.R_base ho2)) (Kd.R_base ho3)) (fun _ h_ => h_.1)); replace HO_280001 := aM (Kd.R_mono (Kd.R_told (Kd.R_told (Kd.R_told (Kd.R_old (R_mv HO_280001.out) hb) (Kd.R_base ho1)) (Kd.R_base ho2)) (Kd.R_base ho3)) (fun _ h_ => h_.1)); replace HO_297001 := aM (Kd.R_mono (Kd.R_told (Kd.R_told (Kd.R_told (Kd.R_old (R_mv HO_297001.out) hb) (Kd.R_base ho1)) (Kd.R_base ho2)) (Kd.R_base ho3)) (fun _ h_ => h_.1)); replace BK279 := aM (blk_below (blk_mv BK279.out) hb); replace BK296 := aM (blk_below (blk_mv BK296.out) hb); replace HB := aM (below_step (by repeat (first | (with_reducible first | exact HB.out | apply bA | apply bN | apply bD | refine below_set ?_ GE279.out | refine below_set ?_ GE296.out) | exact HB.out)) hb); (try clear hb); (try clear hb2); (try clear hge); (try clear hk); (try clear hi); (try clear ho0); (try clear ho1); (try clear ho2); (try clear ho3)) | ((with_reducible refine gate_dst (N := 13) rfl ?_); (try (refine gate_guard (by rfl) ?_; dsimp only)); refine box_event ?hg (N := 13) ?hd (cs := #[.slice none 0 0, .slice none 0 0, .int .i64 0]) (t := 28) ?hr ?_; (case hd => rfl); (case hg => rfl); (case hr => first | (go_simp; done) | (go_simp; rfl)); intro gb312 hg w94 hbox hb; replace HO_9 := aM (Kd.R_below (R_mv HO_9.out) hb); replace HO_280000 := aM (Kd.R_below (R_mv HO_280000.out) hb); replace HO_280001 := aM (Kd.R_below (R_mv HO_280001.out) hb); replace HO_297000 := aM (Kd.R_below (R_mv HO_297000.out) hb); replace HO_297001 := aM (Kd.R_below (R_mv HO_297001.out) hb); replace HO300 := aM (Kd.R_below (R_mv HO300.out) hb); replace HO303 := aM (Kd.R_below (R_mv HO303.out) hb); replace HO307 := aM (Kd.R_below (R_mv HO307.out) hb); replace HO310 := aM (Kd.R_below (R_mv HO310.out) hb); have BK312 := aM (hbox); have GW312 := aM ((by rw [hg]; exact (below_size (by repeat (first | (with_reducible first | exact HB.out | apply bA | apply bN | apply bD | refine below_set ?_ GE279.out | refine below_set ?_ GE296.out) | exact HB.out))) : w.heap.size ≤ gb312)); have GE312 := aM ((by rw [hg]; exact (below_size (by repeat (first | (with_reducible first | exact HB.out | apply bA | apply bN | apply bD | refine below_set ?_ GE279.out | refine below_set ?_ GE296.out) | exact HB.out))) : w.heap.size ≤ gb312)); replace HB := aM (below_step (by repeat (first | (with_reducible first | exact HB.out | apply bA | apply bN | apply bD | refine below_set ?_ GE279.out | refine below_set ?_ GE296.out) | exact HB.out)) hb); have NB279_312 := aM ((by rw [hg]; exact Nat.ne_of_lt (blk_lt (blk_mv BK279.out)) : gb279 ≠ gb312)); have NB312_279 := aM ((by rw [hg]; exact Nat.ne_of_gt (blk_lt (blk_mv BK279.out)) : gb312 ≠ gb279)); replace BK279 := aM (blk_below (blk_mv BK279.out) hb); have NB296_312 := aM ((by rw [hg]; exact Nat.ne_of_lt (blk_lt (blk_mv BK296.out)) : gb296 ≠ gb312)); have NB312_296 := aM ((by rw [hg]; exact Nat.ne_of_gt (blk_lt (blk_mv BK296.out)) : gb312 ≠ gb296)); replace BK296 := aM (blk_below (blk_mv BK296.out) hb); clear hb hbox hg; obtain ⟨Ao95, co95, eo95⟩ := Kd.R_slice HO300.out; subst eo95; have hnb96 := NB312_279.out; have hnc96 := NB279_312.out; have hnb97 := NB312_296.out; have hnc97 := NB296_312.out; obtain ⟨hcz98_0, hcz98_1, hcz98_2, hfz98_0, hfz98_1, hfz98_2⟩ := blk3 BK312.out; obtain ⟨Ao99, co99, eo99⟩ := Kd.R_slice HO303.out; subst eo99) | ((with_reducible refine gate_store (t := 28) (p := 13) rfl ?_); refine store_event (t := 28) (p := 13) (v := ?vo_w100) (w1 := (((w94.setCell ⟨gb312, 0, none⟩ (.slice Ao95 t298.length co95)).setCell ⟨gb312, 1, none⟩ (.slice Ao99 t301.length co99)).setCell ⟨gb312, 2, none⟩ (.int .i64 t304))) ?hg ?ho ?hn ?hr ?_; (case ho => rfl); (case hg => rfl); (case hn => rfl); (case hr => first | (go_simp; done) | (go_simp; rfl)); intro w100 hw; have n0_ : Aside0 (Kd.R (Kd.int .i64) 3 w100 w.heap.size (fun k_ => some k_ ≠ (.slice (some ad283) t274.length co13 : Value).ownBlock ∧ some k_ ≠ (.slice Ao88 x297001_3.length co88 : Value).ownBlock ∧ some k_ ≠ (.slice Ao99 t301.length co99 : Value).ownBlock ∧ some k_ ≠ (v306 : Value).ownBlock ∧ some k_ ≠ (v309 : Value).ownBlock) (.slice Ao85 t284.length co85) t284) := ⟨(by rw [hw]; exact (by (with_reducible repeat (first | apply Kd.R_alloc | apply Kd.R_drewN | apply Kd.R_drew)); exact Kd.R_mono (f3 HO_9.out BK312.out (by decide)) (fun _ hk => ⟨hk.1.1.1.1.1, ⟨hk.1.1.1.1.2, ⟨hk.1.1.1.2, ⟨hk.1.1.2, hk.1.2⟩⟩⟩⟩)))⟩; have n1_ : Aside0 (Kd.R k32 32 w100 w.heap.size (fun k_ => some k_ ≠ (.slice Ao87 x297000_3.length co87 : Value).ownBlock ∧ some k_ ≠ (.slice Ao95 t298.length co95 : Value).ownBlock) (.slice Ao30 x280000_1.length co30) x280000_1) := ⟨(by rw [hw]; exact (by (with_reducible repeat (first | apply Kd.R_alloc | apply Kd.R_drewN | apply Kd.R_drew)); exact Kd.R_mono (f3 HO_280000.out BK312.out (by decide)) (fun _ hk => ⟨hk.1.1, hk.1.2⟩)))⟩; have n2_ : Aside0 (Kd.R (Kd.int .i64) 3 w100 w.heap.size (fun k_ => some k_ ≠ (.slice Ao85 t284.length co85 : Value).ownBlock ∧ some k_ ≠ (.slice Ao88 x297001_3.length co88 : Value).ownBlock ∧ some k_ ≠ (.slice Ao99 t301.length co99 : Value).ownBlock ∧ some k_ ≠ (v306 : Value).ownBlock ∧ some k_ ≠ (v309 : Value).ownBlock) (.slice (some ad283) t274.length co13) t274) := ⟨(by rw [hw]; exact (by (with_reducible repeat (first | apply Kd.R_alloc | apply Kd.R_drewN | apply Kd.R_drew)); exact Kd.R_mono (f3 HO_280001.out BK312.out (by decide)) (fun _ hk => ⟨hk.1.1.1.1.1, ⟨hk.1.1.1.1.2, ⟨hk.1.1.1.2, ⟨hk.1.1.2, hk.1.2⟩⟩⟩⟩)))⟩; have n3_ : Aside0 (Kd.R k32 32 w100 w.heap.size (fun k_ => some k_ ≠ (.slice Ao30 x280000_1.length co30 : Value).ownBlock ∧ some k_ ≠ (.slice Ao95 t298.length co95 : Value).ownBlock) (.slice Ao87 x297000_3.length co87) x297000_3) := ⟨(by rw [hw]; exact (by (with_reducible repeat (first | apply Kd.R_alloc | apply Kd.R_drewN | apply Kd.R_drew)); exact Kd.R_mono (f3 HO_297000.out BK312.out (by decide)) (fun _ hk => ⟨hk.1.1, hk.1.2⟩)))⟩; have n4_ : Aside0 (Kd.R (Kd.int .i64) 3 w100 w.heap.size (fun k_ => some k_ ≠ (.slice Ao85 t284.length co85 : Value).ownBlock ∧ some k_ ≠ (.slice (some ad283) t274.length co13 : Value).ownBlock ∧ some k_ ≠ (.slice Ao99 t301.length co99 : Value).ownBlock ∧ some k_ ≠ (v306 : Value).ownBlock ∧ some k_ ≠ (v309 : Value).ownBlock) (.slice Ao88 x297001_3.length co88) x297001_3) := ⟨(by rw [hw]; exact (by (with_reducible repeat (first | apply Kd.R_alloc | apply Kd.R_drewN | apply Kd.R_drew)); exact Kd.R_mono (f3 HO_297001.out BK312.out (by decide)) (fun _ hk => ⟨hk.1.1.1.1.1, ⟨hk.1.1.1.1.2, ⟨hk.1.1.1.2, ⟨hk.1.1.2, hk.1.2⟩⟩⟩⟩)))⟩; have n5_ : Aside0 (Kd.R k32 32 w100 w.heap.size (fun k_ => some k_ ≠ (.slice Ao30 x280000_1.length co30 : Value).ownBlock ∧ some k_ ≠ (.slice Ao87 x297000_3.length co87 : Value).ownBlock) (.slice Ao95 t298.length co95) t298) := ⟨(by rw [hw]; exact (by (with_reducible repeat (first | apply Kd.R_alloc | apply Kd.R_drewN | apply Kd.R_drew)); exact Kd.R_mono (f3 HO300.out BK312.out (by decide)) (fun _ hk => ⟨hk.1.1.2, hk.1.2⟩)))⟩; have n6_ : Aside0 (Kd.R (Kd.int .i64) 3 w100 w.heap.size (fun k_ => some k_ ≠ (.slice Ao85 t284.length co85 : Value).ownBlock ∧ some k_ ≠ (.slice (some ad283) t274.length co13 : Value).ownBlock ∧ some k_ ≠ (.slice Ao88 x297001_3.length co88 : Value).ownBlock ∧ some k_ ≠ (v306 : Value).ownBlock ∧ some k_ ≠ (v309 : Value).ownBlock) (.slice Ao99 t301.length co99) t301) := ⟨(by rw [hw]; exact (by (with_reducible repeat (first | apply Kd.R_alloc | apply Kd.R_drewN | apply Kd.R_drew)); exact Kd.R_mono (f3 HO303.out BK312.out (by decide)) (fun _ hk => ⟨hk.1.1.1.2, ⟨hk.1.1.2, ⟨hk.1.2, ⟨hk.1.1.1.1.1, hk.1.1.1.1.2⟩⟩⟩⟩)))⟩; have n7_ : Aside0 (Kd.R (Kd.int .i64) 3 w100 w.heap.size (fun k_ => some k_ ≠ (.slice Ao85 t284.length co85 : Value).ownBlock ∧ some k_ ≠ (.slice (some ad283) t274.length co13 : Value).ownBlock ∧ some k_ ≠ (.slice Ao88 x297001_3.length co88 : Value).ownBlock ∧ some k_ ≠ (.slice Ao99 t301.length co99 : Value).ownBlock ∧ some k_ ≠ (v309 : Value).ownBlock) v306 t305) := ⟨(by rw [hw]; exact (by (with_reducible repeat (first | apply Kd.R_alloc | apply Kd.R_drewN | apply Kd.R_drew)); exact Kd.R_mono (f3 HO307.out BK312.out (by decide)) (fun _ hk => ⟨hk.1.1.1.2, ⟨hk.1.1.2, ⟨hk.1.2, ⟨hk.1.1.1.1.1, hk.1.1.1.1.2⟩⟩⟩⟩)))⟩; have n8_ : Aside0 (Kd.R (Kd.int .i64) 3 w100 w.heap.size (fun k_ => some k_ ≠ (.slice Ao85 t284.length co85 : Value).ownBlock ∧ some k_ ≠ (.slice (some ad283) t274.length co13 : Value).ownBlock ∧ some k_ ≠ (.slice Ao88 x297001_3.length co88 : Value).ownBlock ∧ some k_ ≠ (.slice Ao99 t301.length co99 : Value).ownBlock ∧ some k_ ≠ (v306 : Value).ownBlock) v309 t308) := ⟨(by rw [hw]; exact (by (with_reducible repeat (first | apply Kd.R_alloc | apply Kd.R_drewN | apply Kd.R_drew)); exact Kd.R_mono (f3 HO310.out BK312.out (by decide)) (fun _ hk => ⟨hk.1.1.1.2, ⟨hk.1.1.2, ⟨hk.1.2, ⟨hk.1.1.1.1.1, hk.1.1.1.1.2⟩⟩⟩⟩)))⟩; have n9_ : Aside0 (w100.heap[gb279]? = some (.cells #[.slice Ao30 x280000_1.length co30, .slice (some ad283) t274.length co13, .int .i64 t277] 28 (0, 0))) := ⟨(by rw [hw]; exact (by (with_reducible repeat (first | refine kN ?_ _ | refine kD ?_ | refine kA ?_ _)); refine blk_far ?_ NB279_312.out _; (with_reducible repeat (first | refine kN ?_ _ | refine kD ?_ | refine kA ?_ _)); refine blk_far ?_ NB279_312.out _; (with_reducible repeat (first | refine kN ?_ _ | refine kD ?_ | refine kA ?_ _)); refine blk_far ?_ NB279_312.out _; (with_reducible repeat (first | refine kN ?_ _ | refine kD ?_ | refine kA ?_ _)); exact BK279.out))⟩; have n10_ : Aside0 (w100.heap[gb296]? = some (.cells #[.slice Ao87 x297000_3.length co87, .slice Ao88 x297001_3.length co88, .int .i64 x297002_3] 28 (0, 0))) := ⟨(by rw [hw]; exact (by (with_reducible repeat (first | refine kN ?_ _ | refine kD ?_ | refine kA ?_ _)); refine blk_far ?_ NB296_312.out _; (with_reducible repeat (first | refine kN ?_ _ | refine kD ?_ | refine kA ?_ _)); refine blk_far ?_ NB296_312.out _; (with_reducible repeat (first | refine kN ?_ _ | refine kD ?_ | refine kA ?_ _)); refine blk_far ?_ NB296_312.out _; (with_reducible repeat (first | refine kN ?_ _ | refine kD ?_ | refine kA ?_ _)); exact BK296.out))⟩; have n11_ : Aside0 (w100.heap[gb312]? = some (.cells #[.slice Ao95 t298.length co95, .slice Ao99 t301.length co99, .int .i64 t304] 28 (0, 0))) := ⟨(by rw [hw]; exact (by (with_reducible repeat (first | refine kN ?_ _ | refine kD ?_ | refine kA ?_ _)); refine blk_put (cs := #[.slice Ao95 t298.length co95, .slice Ao99 t301.length co99, .int .i64 0]) ?_ 2 _ rfl; (with_reducible repeat (first | refine kN ?_ _ | refine kD ?_ | refine kA ?_ _)); refine blk_put (cs := #[.slice Ao95 t298.length co95, .slice none 0 0, .int .i64 0]) ?_ 1 _ rfl; (with_reducible repeat (first | refine kN ?_ _ | refine kD ?_ | refine kA ?_ _)); refine blk_put (cs := #[.slice none 0 0, .slice none 0 0, .int .i64 0]) ?_ 0 _ rfl; (with_reducible repeat (first | refine kN ?_ _ | refine kD ?_ | refine kA ?_ _)); exact BK312.out))⟩; have n12_ : Aside0 (Below w.heap.size w w100) := ⟨(by rw [hw]; exact (by repeat (first | (with_reducible first | exact HB.out | apply bA | apply bN | apply bD | refine below_set ?_ GE279.out | refine below_set ?_ GE296.out | refine below_set ?_ GE312.out) | exact HB.out)))⟩; clear hw; clear HO_9; clear HO_280000; clear HO_280001; clear HO_297000; clear HO_297001; clear HO300; clear HO303; clear HO307; clear HO310; clear BK279; clear BK296; clear BK312; clear HB; have HO_9 := n0_; have HO_280000 := n1_; have HO_280001 := n2_; have HO_297000 := n3_; have HO_297001 := n4_; have HO300 := n5_; have HO303 := n6_; have HO307 := n7_; have HO310 := n8_; have BK279 := n9_; have BK296 := n10_; have BK312 := n11_; have HB := n12_; clear n0_ n1_ n2_ n3_ n4_ n5_ n6_ n7_ n8_ n9_ n10_ n11_ n12_; have q101 : (x12_3 : Int) ≤ ((t284.length : Int) : Int) := of_decide_eq_true (by first | (with_reducible assumption) | assumption); obtain ⟨i0101, hi0101, _, hsz101, _⟩ := info_parts info3; have hroom101 : t284.length ≤ co85 := (Kd.R_reads' HO_9.out).2.1; have hC101 : Kd.C (Kd.int .i64) _ Ao85 t284.length t284 := (Kd.R_reads' HO_9.out).2.2; have ql101 : ((ji49) : Int) ≤ (x12_3 : Int) := of_decide_eq_true (by first | (with_reducible assumption) | assumption); have q0101 : (0 : Int) ≤ ((ji49) : Int) := of_decide_eq_true (by first | (with_reducible assumption) | assumption); (try clear hcut79); have hcut101 := cut_mid (P := Try.prog) 26 3 .i64 .i64 Try.underlying26 hi0101 1 hsz101 Ao85 t284.length co85 (ji49) x12_3 q0101 ql101 q101 hroom101; have hr101 := Kd.C_mid (lo := ((ji49) : Int).toNat) (hi := (x12_3 : Int).toNat) (c := co85) hC101 (by omega) (by omega) hroom101; obtain ⟨A101, hA101⟩ : ∃ A1, A1 = (if co85 = ((ji49) : Int).toNat then Ao85 else (Ao85 : Option Addr).map (·.add (((ji49) : Int).toNat * 1))) := ⟨_, rfl⟩; obtain ⟨c101, hc101⟩ : ∃ c1, c1 = co85 - ((ji49) : Int).toNat := ⟨_, rfl⟩; have hy101 : y313.length = (x12_3 : Int).toNat - ((ji49) : Int).toNat := (by rw [Ny313.out, List.length_drop, List.length_take] <;> omega); rw [show ((t284).take (x12_3 : Int).toNat).drop ((ji49) : Int).toNat = y313 from Ny313.out.symm] at hr101; replace hr101 : Kd.C (Kd.int .i64) _ A101 y313.length y313 := (by rw [hA101]; exact hr101); rw [← hy101, ← hA101, ← hc101] at hcut101; have HR316 := aM hr101; have HC316 := aM (show y313.length ≤ c101 from by rw [hy101, hc101]; exact Nat.sub_le_sub_right (Nat.le_trans (by omega) hroom101) _); clear hr101 hC101 hroom101 hi0101 hsz101 hc101; have KY101 := aM hy101; have KA101 := aM hA101; clear hy101 hA101; have KL101 := aM (show (x12_3 : Int).toNat ≤ t284.length from by omega); have KM101 := aM (show ((ji49) : Int).toNat ≤ (x12_3 : Int).toNat from by omega); replace q101 := eq_true q101; obtain ⟨Ao102, co102, eo102⟩ := Kd.R_slice HO307.out; subst eo102) | (go_at_call 17; (with_reducible refine (minecontrolref01_Ints.calls k3 _ _ t305 _ _ y313 true _ ?side1 ?side2 ?side3 ?side4 A53.out).mono ?_); (case side1 => exact C_mv (Kd.R_reads' HO307.out).2.2); (case side2 => exact (Kd.R_reads' HO307.out).2.1); (case side3 => repeat (first | exact (C_mv HR316.out) | (with_reducible refine Kd.C_alloc ?_ _) | (with_reducible refine Kd.C_drewN ?_ _) | (with_reducible refine Kd.C_drew ?_))); (case side4 => exact HC316.out); rintro e w' ⟨rfl, ⟨nd, rfl⟩⟩; (try (rw [drewN_self w100]; generalize hq_ : World.drewN w100 _ = w100; have n0_ : Aside0 (Kd.R k32 32 w100 w.heap.size (fun k_ => some k_ ≠ (.slice Ao30 x280000_1.length co30 : Value).ownBlock ∧ some k_ ≠ (.slice Ao87 x297000_3.length co87 : Value).ownBlock) (.slice Ao95 t298.length co95) t298) := ⟨by rw [← hq_]; exact (R_mv HO300.out)⟩; have n1_ : Aside0 (Kd.R (Kd.int .i64) 3 w100 w.heap.size (fun k_ => (some k_ ≠ (.slice Ao85 t284.length co85 : Value).ownBlock ∧ (some k_ ≠ (.slice (some ad283) t274.length co13 : Value).ownBlock ∧ (some k_ ≠ (.slice Ao88 x297001_3.length co88 : Value).ownBlock ∧ (some k_ ≠ (.slice Ao102 t305.length co102 : Value).ownBlock ∧ some k_ ≠ (v309 : Value).ownBlock))))) (.slice Ao99 t301.length co99) t301) := ⟨by rw [← hq_]; exact (R_mv HO303.out)⟩; have n2_ : Aside0 (Kd.R (Kd.int .i64) 3 w100 w.heap.size (fun k_ => (some k_ ≠ (.slice Ao85 t284.length co85 : Value).ownBlock ∧ (some k_ ≠ (.slice (some ad283) t274.length co13 : Value).ownBlock ∧ (some k_ ≠ (.slice Ao88 x297001_3.length co88 : Value).ownBlock ∧ (some k_ ≠ (.slice Ao99 t301.length co99 : Value).ownBlock ∧ some k_ ≠ (v309 : Value).ownBlock))))) (.slice Ao102 t305.length co102) t305) := ⟨by rw [← hq_]; exact (R_mv HO307.out)⟩; have n3_ : Aside0 (Kd.R (Kd.int .i64) 3 w100 w.heap.size (fun k_ => (some k_ ≠ (.slice Ao85 t284.length co85 : Value).ownBlock ∧ (some k_ ≠ (.slice (some ad283) t274.length co13 : Value).ownBlock ∧ (some k_ ≠ (.slice Ao88 x297001_3.length co88 : Value).ownBlock ∧ (some k_ ≠ (.slice Ao99 t301.length co99 : Value).ownBlock ∧ some k_ ≠ (.slice Ao102 t305.length co102 : Value).ownBlock))))) v309 t308) := ⟨by rw [← hq_]; exact (R_mv HO310.out)⟩; have n4_ : Aside0 (Kd.R k32 32 w100 w.heap.size (fun k_ => (some k_ ≠ (.slice Ao87 x297000_3.length co87 : Value).ownBlock ∧ some k_ ≠ (.slice Ao95 t298.length co95 : Value).ownBlock)) (.slice Ao30 x280000_1.length co30) x280000_1) := ⟨by rw [← hq_]; exact (R_mv HO_280000.out)⟩; have n5_ : Aside0 (Kd.R (Kd.int .i64) 3 w100 w.heap.size (fun k_ => (some k_ ≠ (.slice Ao85 t284.length co85 : Value).ownBlock ∧ (some k_ ≠ (.slice Ao88 x297001_3.length co88 : Value).ownBlock ∧ (some k_ ≠ (.slice Ao99 t301.length co99 : Value).ownBlock ∧ (some k_ ≠ (.slice Ao102 t305.length co102 : Value).ownBlock ∧ some k_ ≠ (v309 : Value).ownBlock))))) (.slice (some ad283) t274.length co13) t274) := ⟨by rw [← hq_]; exact (R_mv HO_280001.out)⟩; have n6_ : Aside0 (Kd.R k32 32 w100 w.heap.size (fun k_ => (some k_ ≠ (.slice Ao30 x280000_1.length co30 : Value).ownBlock ∧ some k_ ≠ (.slice Ao95 t298.length co95 : Value).ownBlock)) (.slice Ao87 x297000_3.length co87) x297000_3) := ⟨by rw [← hq_]; exact (R_mv HO_297000.out)⟩; have n7_ : Aside0 (Kd.R (Kd.int .i64) 3 w100 w.heap.size (fun k_ => (some k_ ≠ (.slice Ao85 t284.length co85 : Value).ownBlock ∧ (some k_ ≠ (.slice (some ad283) t274.length co13 : Value).ownBlock ∧ (some k_ ≠ (.slice Ao99 t301.length co99 : Value).ownBlock ∧ (some k_ ≠ (.slice Ao102 t305.length co102 : Value).ownBlock ∧ some k_ ≠ (v309 : Value).ownBlock))))) (.slice Ao88 x297001_3.length co88) x297001_3) := ⟨by rw [← hq_]; exact (R_mv HO_297001.out)⟩; have n8_ : Aside0 (Kd.R (Kd.int .i64) 3 w100 w.heap.size (fun k_ => (some k_ ≠ (.slice (some ad283) t274.length co13 : Value).ownBlock ∧ (some k_ ≠ (.slice Ao88 x297001_3.length co88 : Value).ownBlock ∧ (some k_ ≠ (.slice Ao99 t301.length co99 : Value).ownBlock ∧ (some k_ ≠ (.slice Ao102 t305.length co102 : Value).ownBlock ∧ some k_ ≠ (v309 : Value).ownBlock))))) (.slice Ao85 t284.length co85) t284) := ⟨by rw [← hq_]; exact (R_mv HO_9.out)⟩; have n9_ : Aside0 (w100.heap[gb279]? = some (.cells #[.slice Ao30 x280000_1.length co30, .slice (some ad283) t274.length co13, .int .i64 t277] 28 (0, 0))) := ⟨by rw [← hq_]; exact (by (with_reducible repeat (first | refine kN ?_ _ | refine kD ?_ | refine kA ?_ _)); exact BK279.out)⟩; have n10_ : Aside0 (w100.heap[gb296]? = some (.cells #[.slice Ao87 x297000_3.length co87, .slice Ao88 x297001_3.length co88, .int .i64 x297002_3] 28 (0, 0))) := ⟨by rw [← hq_]; exact (by (with_reducible repeat (first | refine kN ?_ _ | refine kD ?_ | refine kA ?_ _)); exact BK296.out)⟩; have n11_ : Aside0 (w100.heap[gb312]? = some (.cells #[.slice Ao95 t298.length co95, .slice Ao99 t301.length co99, .int .i64 t304] 28 (0, 0))) := ⟨by rw [← hq_]; exact (by (with_reducible repeat (first | refine kN ?_ _ | refine kD ?_ | refine kA ?_ _)); exact BK312.out)⟩; have n12_ : Aside0 (Below w.heap.size w w100) := ⟨by rw [← hq_]; exact (by repeat (first | (with_reducible first | exact HB.out | apply bA | apply bN | apply bD | refine below_set ?_ GE279.out | refine below_set ?_ GE296.out | refine below_set ?_ GE312.out) | exact HB.out))⟩; have n13_ : Aside0 (Kd.C (Kd.int .i64) w100 A101 y313.length y313) := ⟨by rw [← hq_]; exact (C_mv HR316.out)⟩; clear HO300 HO303 HO307 HO310 HO_280000 HO_280001 HO_297000 HO_297001 HO_9 BK279 BK296 BK312 HB HR316 hq_; have HO300 := n0_; have HO303 := n1_; have HO307 := n2_; have HO310 := n3_; have HO_280000 := n4_; have HO_280001 := n5_; have HO_297000 := n6_; have HO_297001 := n7_; have HO_9 := n8_; have BK279 := n9_; have BK296 := n10_; have BK312 := n11_; have HB := n12_; have HR316 := n13_; clear n0_ n1_ n2_ n3_ n4_ n5_ n6_ n7_ n8_ n9_ n10_ n11_ n12_ n13_)); have q103 : ((wrap64 (x12_3 + 1)) : Int) ≤ ((t284.length : Int) : Int) := of_decide_eq_true (by first | (with_reducible assumption) | assumption); obtain ⟨i0103, hi0103, _, hsz103, _⟩ := info_parts info3; have hroom103 : t284.length ≤ co85 := (Kd.R_reads' HO_9.out).2.1; have hC103 : Kd.C (Kd.int .i64) _ Ao85 t284.length t284 := (Kd.R_reads' HO_9.out).2.2; have ql103 : (x12_3 : Int) ≤ ((wrap64 (x12_3 + 1)) : Int) := of_decide_eq_true (by first | (with_reducible assumption) | assumption); have q0103 : (0 : Int) ≤ (x12_3 : Int) := of_decide_eq_true (by first | (with_reducible assumption) | assumption); (try clear hcut81); have hcut103 := cut_mid (P := Try.prog) 26 3 .i64 .i64 Try.underlying26 hi0103 1 hsz103 Ao85 t284.length co85 x12_3 (wrap64 (x12_3 + 1)) q0103 ql103 q103 hroom103; have hr103 := Kd.C_mid (lo := (x12_3 : Int).toNat) (hi := ((wrap64 (x12_3 + 1)) : Int).toNat) (c := co85) hC103 (by omega) (by omega) hroom103; obtain ⟨A103, hA103⟩ : ∃ A1, A1 = (if co85 = (x12_3 : Int).toNat then Ao85 else (Ao85 : Option Addr).map (·.add ((x12_3 : Int).toNat * 1))) := ⟨_, rfl⟩; obtain ⟨c103, hc103⟩ : ∃ c1, c1 = co85 - (x12_3 : Int).toNat := ⟨_, rfl⟩; have hy103 : y318.length = ((wrap64 (x12_3 + 1)) : Int).toNat - (x12_3 : Int).toNat := (by rw [Ny318.out, List.length_drop, List.length_take] <;> omega); rw [show ((t284).take ((wrap64 (x12_3 + 1)) : Int).toNat).drop (x12_3 : Int).toNat = y318 from Ny318.out.symm] at hr103; replace hr103 : Kd.C (Kd.int .i64) _ A103 y318.length y318 := (by rw [hA103]; exact hr103); rw [← hy103, ← hA103, ← hc103] at hcut103; have HR321 := aM hr103; have HC321 := aM (show y318.length ≤ c103 from by rw [hy103, hc103]; exact Nat.sub_le_sub_right (Nat.le_trans (by omega) hroom103) _); clear hr103 hC103 hroom103 hi0103 hsz103 hc103; have KY103 := aM hy103; have KA103 := aM hA103; clear hy103 hA103; have KL103 := aM (show ((wrap64 (x12_3 + 1)) : Int).toNat ≤ t284.length from by omega); have KM103 := aM (show (x12_3 : Int).toNat ≤ ((wrap64 (x12_3 + 1)) : Int).toNat from by omega); replace q103 := eq_true q103; obtain ⟨Ao104, co104, eo104⟩ := Kd.R_slice HO310.out; subst eo104) | (go_at_call 17; (with_reducible refine (minecontrolref01_Ints.calls k3 _ _ t308 _ _ y318 true _ ?side1 ?side2 ?side3 ?side4 A59.out).mono ?_); (case side1 => exact C_mv (Kd.R_reads' HO310.out).2.2); (case side2 => exact (Kd.R_reads' HO310.out).2.1); (case side3 => repeat (first | exact (C_mv HR321.out) | (with_reducible refine Kd.C_alloc ?_ _) | (with_reducible refine Kd.C_drewN ?_ _) | (with_reducible refine Kd.C_drew ?_))); (case side4 => exact HC321.out); rintro e w' ⟨rfl, ⟨nd, rfl⟩⟩; (try (rw [drewN_self w100]; generalize hq_ : World.drewN w100 _ = w100; have n0_ : Aside0 (Kd.R k32 32 w100 w.heap.size (fun k_ => some k_ ≠ (.slice Ao30 x280000_1.length co30 : Value).ownBlock ∧ some k_ ≠ (.slice Ao87 x297000_3.length co87 : Value).ownBlock) (.slice Ao95 t298.length co95) t298) := ⟨by rw [← hq_]; exact (R_mv HO300.out)⟩; have n1_ : Aside0 (Kd.R (Kd.int .i64) 3 w100 w.heap.size (fun k_ => (some k_ ≠ (.slice Ao85 t284.length co85 : Value).ownBlock ∧ (some k_ ≠ (.slice (some ad283) t274.length co13 : Value).ownBlock ∧ (some k_ ≠ (.slice Ao88 x297001_3.length co88 : Value).ownBlock ∧ (some k_ ≠ (.slice Ao102 t305.length co102 : Value).ownBlock ∧ some k_ ≠ (.slice Ao104 t308.length co104 : Value).ownBlock))))) (.slice Ao99 t301.length co99) t301) := ⟨by rw [← hq_]; exact (R_mv HO303.out)⟩; have n2_ : Aside0 (Kd.R (Kd.int .i64) 3 w100 w.heap.size (fun k_ => (some k_ ≠ (.slice Ao85 t284.length co85 : Value).ownBlock ∧ (some k_ ≠ (.slice (some ad283) t274.length co13 : Value).ownBlock ∧ (some k_ ≠ (.slice Ao88 x297001_3.length co88 : Value).ownBlock ∧ (some k_ ≠ (.slice Ao99 t301.length co99 : Value).ownBlock ∧ some k_ ≠ (.slice Ao104 t308.length co104 : Value).ownBlock))))) (.slice Ao102 t305.length co102) t305) := ⟨by rw [← hq_]; exact (R_mv HO307.out)⟩; have n3_ : Aside0 (Kd.R (Kd.int .i64) 3 w100 w.heap.size (fun k_ => (some k_ ≠ (.slice Ao85 t284.length co85 : Value).ownBlock ∧ (some k_ ≠ (.slice (some ad283) t274.length co13 : Value).ownBlock ∧ (some k_ ≠ (.slice Ao88 x297001_3.length co88 : Value).ownBlock ∧ (some k_ ≠ (.slice Ao99 t301.length co99 : Value).ownBlock ∧ some k_ ≠ (.slice Ao102 t305.length co102 : Value).ownBlock))))) (.slice Ao104 t308.length co104) t308) := ⟨by rw [← hq_]; exact (R_mv HO310.out)⟩; have n4_ : Aside0 (Kd.R k32 32 w100 w.heap.size (fun k_ => (some k_ ≠ (.slice Ao87 x297000_3.length co87 : Value).ownBlock ∧ some k_ ≠ (.slice Ao95 t298.length co95 : Value).ownBlock)) (.slice Ao30 x280000_1.length co30) x280000_1) := ⟨by rw [← hq_]; exact (R_mv HO_280000.out)⟩; have n5_ : Aside0 (Kd.R (Kd.int .i64) 3 w100 w.heap.size (fun k_ => (some k_ ≠ (.slice Ao85 t284.length co85 : Value).ownBlock ∧ (some k_ ≠ (.slice Ao88 x297001_3.length co88 : Value).ownBlock ∧ (some k_ ≠ (.slice Ao99 t301.length co99 : Value).ownBlock ∧ (some k_ ≠ (.slice Ao102 t305.length co102 : Value).ownBlock ∧ some k_ ≠ (.slice Ao104 t308.length co104 : Value).ownBlock))))) (.slice (some ad283) t274.length co13) t274) := ⟨by rw [← hq_]; exact (R_mv HO_280001.out)⟩; have n6_ : Aside0 (Kd.R k32 32 w100 w.heap.size (fun k_ => (some k_ ≠ (.slice Ao30 x280000_1.length co30 : Value).ownBlock ∧ some k_ ≠ (.slice Ao95 t298.length co95 : Value).ownBlock)) (.slice Ao87 x297000_3.length co87) x297000_3) := ⟨by rw [← hq_]; exact (R_mv HO_297000.out)⟩; have n7_ : Aside0 (Kd.R (Kd.int .i64) 3 w100 w.heap.size (fun k_ => (some k_ ≠ (.slice Ao85 t284.length co85 : Value).ownBlock ∧ (some k_ ≠ (.slice (some ad283) t274.length co13 : Value).ownBlock ∧ (some k_ ≠ (.slice Ao99 t301.length co99 : Value).ownBlock ∧ (some k_ ≠ (.slice Ao102 t305.length co102 : Value).ownBlock ∧ some k_ ≠ (.slice Ao104 t308.length co104 : Value).ownBlock))))) (.slice Ao88 x297001_3.length co88) x297001_3) := ⟨by rw [← hq_]; exact (R_mv HO_297001.out)⟩; have n8_ : Aside0 (Kd.R (Kd.int .i64) 3 w100 w.heap.size (fun k_ => (some k_ ≠ (.slice (some ad283) t274.length co13 : Value).ownBlock ∧ (some k_ ≠ (.slice Ao88 x297001_3.length co88 : Value).ownBlock ∧ (some k_ ≠ (.slice Ao99 t301.length co99 : Value).ownBlock ∧ (some k_ ≠ (.slice Ao102 t305.length co102 : Value).ownBlock ∧ some k_ ≠ (.slice Ao104 t308.length co104 : Value).ownBlock))))) (.slice Ao85 t284.length co85) t284) := ⟨by rw [← hq_]; exact (R_mv HO_9.out)⟩; have n9_ : Aside0 (w100.heap[gb279]? = some (.cells #[.slice Ao30 x280000_1.length co30, .slice (some ad283) t274.length co13, .int .i64 t277] 28 (0, 0))) := ⟨by rw [← hq_]; exact (by (with_reducible repeat (first | refine kN ?_ _ | refine kD ?_ | refine kA ?_ _)); exact BK279.out)⟩; have n10_ : Aside0 (w100.heap[gb296]? = some (.cells #[.slice Ao87 x297000_3.length co87, .slice Ao88 x297001_3.length co88, .int .i64 x297002_3] 28 (0, 0))) := ⟨by rw [← hq_]; exact (by (with_reducible repeat (first | refine kN ?_ _ | refine kD ?_ | refine kA ?_ _)); exact BK296.out)⟩; have n11_ : Aside0 (w100.heap[gb312]? = some (.cells #[.slice Ao95 t298.length co95, .slice Ao99 t301.length co99, .int .i64 t304] 28 (0, 0))) := ⟨by rw [← hq_]; exact (by (with_reducible repeat (first | refine kN ?_ _ | refine kD ?_ | refine kA ?_ _)); exact BK312.out)⟩; have n12_ : Aside0 (Below w.heap.size w w100) := ⟨by rw [← hq_]; exact (by repeat (first | (with_reducible first | exact HB.out | apply bA | apply bN | apply bD | refine below_set ?_ GE279.out | refine below_set ?_ GE296.out | refine below_set ?_ GE312.out) | exact HB.out))⟩; have n13_ : Aside0 (Kd.C (Kd.int .i64) w100 A101 y313.length y313) := ⟨by rw [← hq_]; exact (C_mv HR316.out)⟩; have n14_ : Aside0 (Kd.C (Kd.int .i64) w100 A103 y318.length y318) := ⟨by rw [← hq_]; exact (C_mv HR321.out)⟩; clear HO300 HO303 HO307 HO310 HO_280000 HO_280001 HO_297000 HO_297001 HO_9 BK279 BK296 BK312 HB HR316 HR321 hq_; have HO300 := n0_; have HO303 := n1_; have HO307 := n2_; have HO310 := n3_; have HO_280000 := n4_; have HO_280001 := n5_; have HO_297000 := n6_; have HO_297001 := n7_; have HO_9 := n8_; have BK279 := n9_; have BK296 := n10_; have BK312 := n11_; have HB := n12_; have HR316 := n13_; have HR321 := n14_; clear n0_ n1_ n2_ n3_ n4_ n5_ n6_ n7_ n8_ n9_ n10_ n11_ n12_ n13_ n14_)); obtain ⟨hcz105_0, hcz105_1, hcz105_2, hfz105_0, hfz105_1, hfz105_2⟩ := blk3 BK312.out; obtain ⟨hcz106_0, hcz106_1, hcz106_2, hfz106_0, hfz106_1, hfz106_2⟩ := blk3 BK296.out))
             go_roundg k3
             case measure => have := HK1.out; have := HJ26.out; have := HK3.out; omega
             case rel => exact ⟨(wrap64 (x12_3 + 1)), (t298), (t301), (t304), (.slice Ao95 t298.length co95), (.slice Ao99 t301.length co99), (by first | rfl | (simp; done) | (simp [*]; done)), H', ⟨by have := HK1.out; have := HJ26.out; have := HK3.out; omega⟩, ⟨by (with_reducible repeat (first | apply Kd.R_alloc | apply Kd.R_drewN | apply Kd.R_drew)); exact Kd.R_mono (f3 HO_9.out BK296.out (by decide)) (fun _ hk => ⟨hk.1.1, hk.1.2.2.1⟩)⟩, ⟨by (with_reducible repeat (first | apply Kd.R_alloc | apply Kd.R_drewN | apply Kd.R_drew)); exact Kd.R_mono (f3 HO_280000.out BK296.out (by decide)) (fun _ hk => hk.1.2)⟩, ⟨by (with_reducible repeat (first | apply Kd.R_alloc | apply Kd.R_drewN | apply Kd.R_drew)); exact Kd.R_mono (f3 HO_280001.out BK296.out (by decide)) (fun _ hk => ⟨hk.1.1, hk.1.2.2.1⟩)⟩, ⟨by (with_reducible repeat (first | apply Kd.R_alloc | apply Kd.R_drewN | apply Kd.R_drew)); exact Kd.R_mono (f3 HO300.out BK296.out (by decide)) (fun _ hk => hk.1.1)⟩, ⟨by (with_reducible repeat (first | apply Kd.R_alloc | apply Kd.R_drewN | apply Kd.R_drew)); exact Kd.R_mono (f3 HO303.out BK296.out (by decide)) (fun _ hk => ⟨hk.1.1, hk.1.2.1⟩)⟩, ⟨by (with_reducible repeat (first | refine kN ?_ _ | refine kD ?_ | refine kA ?_ _)); refine blk_far ?_ NB279_296.out _; (with_reducible repeat (first | refine kN ?_ _ | refine kD ?_ | refine kA ?_ _)); refine blk_far ?_ NB279_296.out _; (with_reducible repeat (first | refine kN ?_ _ | refine kD ?_ | refine kA ?_ _)); refine blk_far ?_ NB279_296.out _; (with_reducible repeat (first | refine kN ?_ _ | refine kD ?_ | refine kA ?_ _)); exact BK279.out⟩, ⟨by (with_reducible repeat (first | refine kN ?_ _ | refine kD ?_ | refine kA ?_ _)); refine blk_put (cs := #[.slice Ao95 t298.length co95, .slice Ao99 t301.length co99, .int .i64 x297002_3]) ?_ 2 _ rfl; (with_reducible repeat (first | refine kN ?_ _ | refine kD ?_ | refine kA ?_ _)); refine blk_put (cs := #[.slice Ao95 t298.length co95, .slice Ao88 x297001_3.length co88, .int .i64 x297002_3]) ?_ 1 _ rfl; (with_reducible repeat (first | refine kN ?_ _ | refine kD ?_ | refine kA ?_ _)); refine blk_put (cs := #[.slice Ao87 x297000_3.length co87, .slice Ao88 x297001_3.length co88, .int .i64 x297002_3]) ?_ 0 _ rfl; (with_reducible repeat (first | refine kN ?_ _ | refine kD ?_ | refine kA ?_ _)); exact BK296.out⟩, ⟨by repeat (first | (with_reducible first | exact HB.out | apply bA | apply bN | apply bD | refine below_set ?_ GE279.out | refine below_set ?_ GE296.out | refine below_set ?_ GE312.out) | exact HB.out)⟩⟩
            replace c60 := Bool.eq_false_iff.mpr c60
            subst c60
            have H1 : (some false) = some r := by rw [if_neg (show ¬ (false = true) by decide)] at H; exact H
            clear H
            have H := H1
            clear H1
            obtain rfl := Option.some.inj H
            exact absurd hr_.out (by decide)
           rw [if_neg c55] at H
           have c55b0 : decide (x12_3 < (t284.length : Int)) = false := decide_eq_false c55
           clear c55
           by_cases c107 : x12_3 = (t284.length : Int)
           ·
            rw [if_pos c107] at H
            have c107b0 : (x12_3 == (t284.length : Int)) = true := beq_iff_eq.mpr c107
            have c107b1 : (x12_3 != (t284.length : Int)) = false := bne_eq_false_iff_eq.mpr c107
            clear c107
            by_cases c108 : (t308.length : Int) > 0
            ·
             rw [if_pos c108] at H
             have c108b0 : decide (0 < (t308.length : Int)) = true := decide_eq_true c108
             have c108b1 : decide (0 < t308.length) = true := decide_eq_true (by omega)
             clear c108
             obtain rfl := Option.some.inj H
             exact absurd hr_.out (by decide)
            rw [if_neg c108] at H
            have c108b0 : decide (0 < (t308.length : Int)) = false := decide_eq_false c108
            have c108b1 : decide (0 < t308.length) = false := decide_eq_false (by omega)
            clear c108
            have H' := aM H
            clear H
            obtain ⟨Ao109, co109, eo109⟩ := Kd.R_slice HO_9.out
            subst eo109
            try go_wp2
            replace HO_9 := aM (Kd.R_drew HO_9.out)
            replace HO_280000 := aM (Kd.R_drew HO_280000.out)
            replace HO_280001 := aM (Kd.R_drew HO_280001.out)
            replace HO_297000 := aM (Kd.R_drew HO_297000.out)
            replace HO_297001 := aM (Kd.R_drew HO_297001.out)
            replace BK279 := aM (blk_drew BK279.out)
            replace BK296 := aM (blk_drew BK296.out)
            replace HB := aM (below_drew1 HB.out)
            obtain ⟨Ao111, co111, eo111⟩ := Kd.R_slice HO_297000.out
            (first | subst eo111 | (injection eo111 with f1_ f2_ f3_; have f4_ := f1_.symm; have f5_ := f3_.symm; clear f1_ f2_ f3_; subst f4_; subst f5_))
            obtain ⟨Ao112, co112, eo112⟩ := Kd.R_slice HO_297001.out
            (first | subst eo112 | (injection eo112 with f1_ f2_ f3_; have f4_ := f1_.symm; have f5_ := f3_.symm; clear f1_ f2_ f3_; subst f4_; subst f5_))
            refine start_ (n := 7) (S := fun w' => w'.cell? ⟨gb296, 0, none⟩ = some (.slice Ao111 x297000_3.length co111) ∧ w'.cell? ⟨gb296, 1, none⟩ = some (.slice Ao112 x297001_3.length co112) ∧ w'.cell? ⟨gb296, 2, none⟩ = some (.int .i64 x297002_3) ∧ w'.cell? ⟨gb279, 0, none⟩ = some (.slice Ao30 x280000_1.length co30) ∧ w'.cell? ⟨gb279, 1, none⟩ = some (.slice (some ad283) t274.length co13) ∧ w'.cell? ⟨gb279, 2, none⟩ = some (.int .i64 t277)) (ds := []) #[false, false, false, false, false, false, false] (by kernel_rfl) rfl rfl ⟨(blk_cell BK296.out 0).trans rfl, (blk_cell BK296.out 1).trans rfl, (blk_cell BK296.out 2).trans rfl, (blk_cell BK279.out 0).trans rfl, (blk_cell BK279.out 1).trans rfl, (blk_cell BK279.out 2).trans rfl⟩ (fun hHeld => ?_)
            generalize wr.drew = w110 at HO_9 HO_280000 HO_280001 HO_297000 HO_297001 BK279 BK296 HB hHeld ⊢
            refine pure_ (i := 2) (N := some 78) (v := ?_) (a' := ?_) #[false, false, true, false, false, false, false] rfl rfl (by kernel_rfl) (fun _ _ _ h => h) (Or.inl ⟨by rfl, ?_⟩) ?_ ?_
            rotate_left
            ·
             intro w'
             go_simp
             with_reducible rfl
            rotate_left
            ·
             simp only [Act.put, sT, sZ, sS, i64_w, i32_w]
             rfl
            refine pure_ (i := 3) (N := some 79) (v := ?_) (a' := ?_) #[false, false, true, true, false, false, false] rfl rfl (by kernel_rfl) (fun _ _ _ h => h) (Or.inl ⟨by rfl, ?_⟩) ?_ ?_
            rotate_left
            ·
             intro w'
             go_simp
             with_reducible rfl
            rotate_left
            ·
             simp only [Act.put, sT, sZ, sS, i64_w, i32_w]
             rfl
            refine take_ (i := 0) (N := some 76) (v := ?_) (a' := ?_) #[true, false, true, true, false, false, false] rfl rfl (by kernel_rfl) (fun _ _ _ h => h) (Or.inl ⟨by rfl, ?_⟩) hHeld ?_ ?_
            rotate_left
            ·
             rintro w' ⟨s0, s1, s2, s3, s4, s5⟩
             go_simp
             with_reducible rfl
            rotate_left
            ·
             simp only [Act.put, sT, sZ, sS, i64_w, i32_w]
             rfl
            refine take_ (i := 4) (N := some 80) (v := ?_) (a' := ?_) #[true, false, true, true, true, false, false] rfl rfl (by kernel_rfl) (fun _ _ _ h => h) (Or.inl ⟨by rfl, ?_⟩) hHeld ?_ ?_
            rotate_left
            ·
             rintro w' ⟨s0, s1, s2, s3, s4, s5⟩
             go_simp
             with_reducible rfl
            rotate_left
            ·
             simp only [Act.put, sT, sZ, sS, i64_w, i32_w]
             rfl
            refine pure_ (i := 5) (N := some 81) (v := ?_) (a' := ?_) #[true, false, true, true, true, true, false] rfl rfl (by kernel_rfl) (fun _ _ _ h => h) (Or.inl ⟨by rfl, ?_⟩) ?_ ?_
            rotate_left
            ·
             intro w'
             go_simp
             with_reducible rfl
            rotate_left
            ·
             simp only [Act.put, sT, sZ, sS, i64_w, i32_w]
             rfl
            refine one_ (i := 1) (N := some 77) #[true, true, true, true, true, true, false] rfl rfl (by kernel_rfl) (by decide) (fun K hK => ?_)
            refine goes_ Try.func15 (by kernel_rfl) rfl #[.agg #[.slice Ao111 x297000_3.length co111, .slice Ao112 x297001_3.length co112, .int .i64 x297002_3]] (by rfl) rfl rfl (by first | rfl | (simp only [List.map_toArray, List.map_cons, List.map_nil, List.length_drop, List.length_take]; try rfl)) ?_
            with_reducible refine (feeder_Due.calls k3 _ _ x297000_3 _ _ x297001_3 x297002_3 t297 _ ?side1 ?side2 ?side3 ?side4 A45.out).mono ?_
            (case side1 => exact C_mv (Kd.R_reads' HO_297000.out).2.2)
            (case side2 => exact (Kd.R_reads' HO_297000.out).2.1)
            (case side3 => exact C_mv (Kd.R_reads' HO_297001.out).2.2)
            (case side4 => exact (Kd.R_reads' HO_297001.out).2.1)
            rintro e w113 ⟨rfl, hb⟩
            refine ⟨_, rfl, ?_⟩
            replace HO_9 := aM (Kd.R_below (R_mv HO_9.out) hb)
            replace HO_280000 := aM (Kd.R_below (R_mv HO_280000.out) hb)
            replace HO_280001 := aM (Kd.R_below (R_mv HO_280001.out) hb)
            replace HO_297000 := aM (Kd.R_below (R_mv HO_297000.out) hb)
            replace HO_297001 := aM (Kd.R_below (R_mv HO_297001.out) hb)
            replace BK279 := aM (blk_below (blk_mv BK279.out) hb)
            replace BK296 := aM (blk_below (blk_mv BK296.out) hb)
            replace HB := aM (below_step (by repeat (first | (with_reducible first | exact HB.out | apply bA | apply bN | apply bD | refine below_set ?_ GE279.out | refine below_set ?_ GE296.out) | exact HB.out)) hb)
            (try clear hb)
            (try clear hb2)
            (try clear hge)
            (try clear hk)
            (try clear hi)
            refine hK.out _ _ ⟨(blk_cell BK296.out 0).trans rfl, (blk_cell BK296.out 1).trans rfl, (blk_cell BK296.out 2).trans rfl, (blk_cell BK279.out 0).trans rfl, (blk_cell BK279.out 1).trans rfl, (blk_cell BK279.out 2).trans rfl⟩ (fun hHeld => ?_)
            clear hK K
            refine norm_ (a' := ?_) ?_ ?_
            rotate_left
            ·
             show Act.put _ (some 77) _ = _
             simp only [Act.put, sT, sZ, sS, i64_w, i32_w]
             rfl
            refine pure_ (i := 6) (N := some 82) (v := ?_) (a' := ?_) #[true, true, true, true, true, true, true] rfl rfl (by kernel_rfl) (fun _ _ _ h => h) (Or.inl ⟨by rfl, ?_⟩) ?_ ?_
            rotate_left
            ·
             intro w'
             go_simp
             with_reducible rfl
            rotate_left
            ·
             simp only [Act.put, sT, sZ, sS, i64_w, i32_w]
             rfl
            refine done_ (by kernel_rfl) ?_
            have hnb114 := NB296_279.out
            have hnc114 := NB279_296.out
            obtain ⟨hcz115_0, hcz115_1, hcz115_2, hfz115_0, hfz115_1, hfz115_2⟩ := blk3 BK296.out
            obtain ⟨hcz116_0, hcz116_1, hcz116_2, hfz116_0, hfz116_1, hfz116_2⟩ := blk3 BK279.out
            try go_wp2_with (first | ((with_reducible refine gate_callee (f := 16) rfl ?_); refine goesL_ (some 89) rfl rfl Try.func16 (by kernel_rfl) rfl #[.agg #[.slice Ao111 x297000_3.length co111, .slice Ao112 x297001_3.length co112, .int .i64 x297002_3], .int .i64 (wrap64 (x12_3 * t277))] rfl (by first | rfl | (simp only [List.map_toArray, List.map_cons, List.map_nil, List.length_drop, List.length_take]; try rfl)) ?_; (with_reducible refine (feeder_Tick.calls k3 _ _ x297000_3 _ _ x297001_3 x297002_3 (wrap64 (x12_3 * t277)) t298 t301 t304 t305 t308 t311 _ ?side1 ?side2 ?side3 ?side4 A47.out).mono ?_); (case side1 => exact C_mv (Kd.R_reads' HO_297000.out).2.2); (case side2 => exact (Kd.R_reads' HO_297000.out).2.1); (case side3 => exact C_mv (Kd.R_reads' HO_297001.out).2.2); (case side4 => exact (Kd.R_reads' HO_297001.out).2.1); rintro e w117 ⟨v299, v302, v306, v309, rfl, ho0, ho1, ho2, ho3, hb⟩; refine ⟨_, rfl, ?_⟩; have HO300 := aM (Kd.R_lower (Kd.R_new' (Kd.R_new' ho0 (Kd.R_lt (R_mv HO_280000.out))) (Kd.R_lt (R_mv HO_297000.out))) (below_size (by repeat (first | (with_reducible first | exact HB.out | apply bA | apply bN | apply bD | refine below_set ?_ GE279.out | refine below_set ?_ GE296.out) | exact HB.out)))); replace HO_280000 := aM (Kd.R_elder' (R_mv HO_280000.out) (Kd.R_base ho0) hb); replace HO_297000 := aM (Kd.R_elder' (R_mv HO_297000.out) (Kd.R_base ho0) hb); have HO303 := aM (Kd.R_lower (Kd.R_new' (Kd.R_new' (Kd.R_new' ho1 (Kd.R_lt (R_mv HO_9.out))) (Kd.R_lt (R_mv HO_280001.out))) (Kd.R_lt (R_mv HO_297001.out))) (below_size (by repeat (first | (with_reducible first | exact HB.out | apply bA | apply bN | apply bD | refine below_set ?_ GE279.out | refine below_set ?_ GE296.out) | exact HB.out)))); have HO307 := aM (Kd.R_lower (Kd.R_new' (Kd.R_new' (Kd.R_new' ho2 (Kd.R_lt (R_mv HO_9.out))) (Kd.R_lt (R_mv HO_280001.out))) (Kd.R_lt (R_mv HO_297001.out))) (below_size (by repeat (first | (with_reducible first | exact HB.out | apply bA | apply bN | apply bD | refine below_set ?_ GE279.out | refine below_set ?_ GE296.out) | exact HB.out)))); have HO310 := aM (Kd.R_lower (Kd.R_new' (Kd.R_new' (Kd.R_new' ho3 (Kd.R_lt (R_mv HO_9.out))) (Kd.R_lt (R_mv HO_280001.out))) (Kd.R_lt (R_mv HO_297001.out))) (below_size (by repeat (first | (with_reducible first | exact HB.out | apply bA | apply bN | apply bD | refine below_set ?_ GE279.out | refine below_set ?_ GE296.out) | exact HB.out)))); replace HO_9 := aM (Kd.R_mono (Kd.R_told (Kd.R_told (Kd.R_told (Kd.R_old (R_mv HO_9.out) hb) (Kd.R_base ho1)) (Kd.R_base ho2)) (Kd.R_base ho3)) (fun _ h_ => h_.1)); replace HO_280001 := aM (Kd.R_mono (Kd.R_told (Kd.R_told (Kd.R_told (Kd.R_old (R_mv HO_280001.out) hb) (Kd.R_base ho1)) (Kd.R_base ho2)) (Kd.R_base ho3)) (fun _ h_ => h_.1)); replace HO_297001 := aM (Kd.R_mono (Kd.R_told (Kd.R_told (Kd.R_told (Kd.R_old (R_mv HO_297001.out) hb) (Kd.R_base ho1)) (Kd.R_base ho2)) (Kd.R_base ho3)) (fun _ h_ => h_.1)); replace BK279 := aM (blk_below (blk_mv BK279.out) hb); replace BK296 := aM (blk_below (blk_mv BK296.out) hb); replace HB := aM (below_step (by repeat (first | (with_reducible first | exact HB.out | apply bA | apply bN | apply bD | refine below_set ?_ GE279.out | refine below_set ?_ GE296.out) | exact HB.out)) hb); (try clear hb); (try clear hb2); (try clear hge); (try clear hk); (try clear hi); (try clear ho0); (try clear ho1); (try clear ho2); (try clear ho3)) | ((with_reducible refine gate_dst (N := 13) rfl ?_); (try (refine gate_guard (by rfl) ?_; dsimp only)); refine box_event ?hg (N := 13) ?hd (cs := #[.slice none 0 0, .slice none 0 0, .int .i64 0]) (t := 28) ?hr ?_; (case hd => rfl); (case hg => rfl); (case hr => first | (go_simp; done) | (go_simp; rfl)); intro gb312 hg w118 hbox hb; replace HO_9 := aM (Kd.R_below (R_mv HO_9.out) hb); replace HO_280000 := aM (Kd.R_below (R_mv HO_280000.out) hb); replace HO_280001 := aM (Kd.R_below (R_mv HO_280001.out) hb); replace HO_297000 := aM (Kd.R_below (R_mv HO_297000.out) hb); replace HO_297001 := aM (Kd.R_below (R_mv HO_297001.out) hb); replace HO300 := aM (Kd.R_below (R_mv HO300.out) hb); replace HO303 := aM (Kd.R_below (R_mv HO303.out) hb); replace HO307 := aM (Kd.R_below (R_mv HO307.out) hb); replace HO310 := aM (Kd.R_below (R_mv HO310.out) hb); have BK312 := aM (hbox); have GW312 := aM ((by rw [hg]; exact (below_size (by repeat (first | (with_reducible first | exact HB.out | apply bA | apply bN | apply bD | refine below_set ?_ GE279.out | refine below_set ?_ GE296.out) | exact HB.out))) : w.heap.size ≤ gb312)); have GE312 := aM ((by rw [hg]; exact (below_size (by repeat (first | (with_reducible first | exact HB.out | apply bA | apply bN | apply bD | refine below_set ?_ GE279.out | refine below_set ?_ GE296.out) | exact HB.out))) : w.heap.size ≤ gb312)); replace HB := aM (below_step (by repeat (first | (with_reducible first | exact HB.out | apply bA | apply bN | apply bD | refine below_set ?_ GE279.out | refine below_set ?_ GE296.out) | exact HB.out)) hb); have NB279_312 := aM ((by rw [hg]; exact Nat.ne_of_lt (blk_lt (blk_mv BK279.out)) : gb279 ≠ gb312)); have NB312_279 := aM ((by rw [hg]; exact Nat.ne_of_gt (blk_lt (blk_mv BK279.out)) : gb312 ≠ gb279)); replace BK279 := aM (blk_below (blk_mv BK279.out) hb); have NB296_312 := aM ((by rw [hg]; exact Nat.ne_of_lt (blk_lt (blk_mv BK296.out)) : gb296 ≠ gb312)); have NB312_296 := aM ((by rw [hg]; exact Nat.ne_of_gt (blk_lt (blk_mv BK296.out)) : gb312 ≠ gb296)); replace BK296 := aM (blk_below (blk_mv BK296.out) hb); clear hb hbox hg; obtain ⟨Ao119, co119, eo119⟩ := Kd.R_slice HO300.out; subst eo119; have hnb120 := NB312_279.out; have hnc120 := NB279_312.out; have hnb121 := NB312_296.out; have hnc121 := NB296_312.out; obtain ⟨hcz122_0, hcz122_1, hcz122_2, hfz122_0, hfz122_1, hfz122_2⟩ := blk3 BK312.out; obtain ⟨Ao123, co123, eo123⟩ := Kd.R_slice HO303.out; subst eo123) | ((with_reducible refine gate_store (t := 28) (p := 13) rfl ?_); refine store_event (t := 28) (p := 13) (v := ?vo_w124) (w1 := (((w118.setCell ⟨gb312, 0, none⟩ (.slice Ao119 t298.length co119)).setCell ⟨gb312, 1, none⟩ (.slice Ao123 t301.length co123)).setCell ⟨gb312, 2, none⟩ (.int .i64 t304))) ?hg ?ho ?hn ?hr ?_; (case ho => rfl); (case hg => rfl); (case hn => rfl); (case hr => first | (go_simp; done) | (go_simp; rfl)); intro w124 hw; have n0_ : Aside0 (Kd.R (Kd.int .i64) 3 w124 w.heap.size (fun k_ => some k_ ≠ (.slice (some ad283) t274.length co13 : Value).ownBlock ∧ some k_ ≠ (.slice Ao112 x297001_3.length co112 : Value).ownBlock ∧ some k_ ≠ (.slice Ao123 t301.length co123 : Value).ownBlock ∧ some k_ ≠ (v306 : Value).ownBlock ∧ some k_ ≠ (v309 : Value).ownBlock) (.slice Ao109 t284.length co109) t284) := ⟨(by rw [hw]; exact (by (with_reducible repeat (first | apply Kd.R_alloc | apply Kd.R_drewN | apply Kd.R_drew)); exact Kd.R_mono (f3 HO_9.out BK312.out (by decide)) (fun _ hk => ⟨hk.1.1.1.1.1, ⟨hk.1.1.1.1.2, ⟨hk.1.1.1.2, ⟨hk.1.1.2, hk.1.2⟩⟩⟩⟩)))⟩; have n1_ : Aside0 (Kd.R k32 32 w124 w.heap.size (fun k_ => some k_ ≠ (.slice Ao111 x297000_3.length co111 : Value).ownBlock ∧ some k_ ≠ (.slice Ao119 t298.length co119 : Value).ownBlock) (.slice Ao30 x280000_1.length co30) x280000_1) := ⟨(by rw [hw]; exact (by (with_reducible repeat (first | apply Kd.R_alloc | apply Kd.R_drewN | apply Kd.R_drew)); exact Kd.R_mono (f3 HO_280000.out BK312.out (by decide)) (fun _ hk => ⟨hk.1.1, hk.1.2⟩)))⟩; have n2_ : Aside0 (Kd.R (Kd.int .i64) 3 w124 w.heap.size (fun k_ => some k_ ≠ (.slice Ao109 t284.length co109 : Value).ownBlock ∧ some k_ ≠ (.slice Ao112 x297001_3.length co112 : Value).ownBlock ∧ some k_ ≠ (.slice Ao123 t301.length co123 : Value).ownBlock ∧ some k_ ≠ (v306 : Value).ownBlock ∧ some k_ ≠ (v309 : Value).ownBlock) (.slice (some ad283) t274.length co13) t274) := ⟨(by rw [hw]; exact (by (with_reducible repeat (first | apply Kd.R_alloc | apply Kd.R_drewN | apply Kd.R_drew)); exact Kd.R_mono (f3 HO_280001.out BK312.out (by decide)) (fun _ hk => ⟨hk.1.1.1.1.1, ⟨hk.1.1.1.1.2, ⟨hk.1.1.1.2, ⟨hk.1.1.2, hk.1.2⟩⟩⟩⟩)))⟩; have n3_ : Aside0 (Kd.R k32 32 w124 w.heap.size (fun k_ => some k_ ≠ (.slice Ao30 x280000_1.length co30 : Value).ownBlock ∧ some k_ ≠ (.slice Ao119 t298.length co119 : Value).ownBlock) (.slice Ao111 x297000_3.length co111) x297000_3) := ⟨(by rw [hw]; exact (by (with_reducible repeat (first | apply Kd.R_alloc | apply Kd.R_drewN | apply Kd.R_drew)); exact Kd.R_mono (f3 HO_297000.out BK312.out (by decide)) (fun _ hk => ⟨hk.1.1, hk.1.2⟩)))⟩; have n4_ : Aside0 (Kd.R (Kd.int .i64) 3 w124 w.heap.size (fun k_ => some k_ ≠ (.slice Ao109 t284.length co109 : Value).ownBlock ∧ some k_ ≠ (.slice (some ad283) t274.length co13 : Value).ownBlock ∧ some k_ ≠ (.slice Ao123 t301.length co123 : Value).ownBlock ∧ some k_ ≠ (v306 : Value).ownBlock ∧ some k_ ≠ (v309 : Value).ownBlock) (.slice Ao112 x297001_3.length co112) x297001_3) := ⟨(by rw [hw]; exact (by (with_reducible repeat (first | apply Kd.R_alloc | apply Kd.R_drewN | apply Kd.R_drew)); exact Kd.R_mono (f3 HO_297001.out BK312.out (by decide)) (fun _ hk => ⟨hk.1.1.1.1.1, ⟨hk.1.1.1.1.2, ⟨hk.1.1.1.2, ⟨hk.1.1.2, hk.1.2⟩⟩⟩⟩)))⟩; have n5_ : Aside0 (Kd.R k32 32 w124 w.heap.size (fun k_ => some k_ ≠ (.slice Ao30 x280000_1.length co30 : Value).ownBlock ∧ some k_ ≠ (.slice Ao111 x297000_3.length co111 : Value).ownBlock) (.slice Ao119 t298.length co119) t298) := ⟨(by rw [hw]; exact (by (with_reducible repeat (first | apply Kd.R_alloc | apply Kd.R_drewN | apply Kd.R_drew)); exact Kd.R_mono (f3 HO300.out BK312.out (by decide)) (fun _ hk => ⟨hk.1.1.2, hk.1.2⟩)))⟩; have n6_ : Aside0 (Kd.R (Kd.int .i64) 3 w124 w.heap.size (fun k_ => some k_ ≠ (.slice Ao109 t284.length co109 : Value).ownBlock ∧ some k_ ≠ (.slice (some ad283) t274.length co13 : Value).ownBlock ∧ some k_ ≠ (.slice Ao112 x297001_3.length co112 : Value).ownBlock ∧ some k_ ≠ (v306 : Value).ownBlock ∧ some k_ ≠ (v309 : Value).ownBlock) (.slice Ao123 t301.length co123) t301) := ⟨(by rw [hw]; exact (by (with_reducible repeat (first | apply Kd.R_alloc | apply Kd.R_drewN | apply Kd.R_drew)); exact Kd.R_mono (f3 HO303.out BK312.out (by decide)) (fun _ hk => ⟨hk.1.1.1.2, ⟨hk.1.1.2, ⟨hk.1.2, ⟨hk.1.1.1.1.1, hk.1.1.1.1.2⟩⟩⟩⟩)))⟩; have n7_ : Aside0 (Kd.R (Kd.int .i64) 3 w124 w.heap.size (fun k_ => some k_ ≠ (.slice Ao109 t284.length co109 : Value).ownBlock ∧ some k_ ≠ (.slice (some ad283) t274.length co13 : Value).ownBlock ∧ some k_ ≠ (.slice Ao112 x297001_3.length co112 : Value).ownBlock ∧ some k_ ≠ (.slice Ao123 t301.length co123 : Value).ownBlock ∧ some k_ ≠ (v309 : Value).ownBlock) v306 t305) := ⟨(by rw [hw]; exact (by (with_reducible repeat (first | apply Kd.R_alloc | apply Kd.R_drewN | apply Kd.R_drew)); exact Kd.R_mono (f3 HO307.out BK312.out (by decide)) (fun _ hk => ⟨hk.1.1.1.2, ⟨hk.1.1.2, ⟨hk.1.2, ⟨hk.1.1.1.1.1, hk.1.1.1.1.2⟩⟩⟩⟩)))⟩; have n8_ : Aside0 (Kd.R (Kd.int .i64) 3 w124 w.heap.size (fun k_ => some k_ ≠ (.slice Ao109 t284.length co109 : Value).ownBlock ∧ some k_ ≠ (.slice (some ad283) t274.length co13 : Value).ownBlock ∧ some k_ ≠ (.slice Ao112 x297001_3.length co112 : Value).ownBlock ∧ some k_ ≠ (.slice Ao123 t301.length co123 : Value).ownBlock ∧ some k_ ≠ (v306 : Value).ownBlock) v309 t308) := ⟨(by rw [hw]; exact (by (with_reducible repeat (first | apply Kd.R_alloc | apply Kd.R_drewN | apply Kd.R_drew)); exact Kd.R_mono (f3 HO310.out BK312.out (by decide)) (fun _ hk => ⟨hk.1.1.1.2, ⟨hk.1.1.2, ⟨hk.1.2, ⟨hk.1.1.1.1.1, hk.1.1.1.1.2⟩⟩⟩⟩)))⟩; have n9_ : Aside0 (w124.heap[gb279]? = some (.cells #[.slice Ao30 x280000_1.length co30, .slice (some ad283) t274.length co13, .int .i64 t277] 28 (0, 0))) := ⟨(by rw [hw]; exact (by (with_reducible repeat (first | refine kN ?_ _ | refine kD ?_ | refine kA ?_ _)); refine blk_far ?_ NB279_312.out _; (with_reducible repeat (first | refine kN ?_ _ | refine kD ?_ | refine kA ?_ _)); refine blk_far ?_ NB279_312.out _; (with_reducible repeat (first | refine kN ?_ _ | refine kD ?_ | refine kA ?_ _)); refine blk_far ?_ NB279_312.out _; (with_reducible repeat (first | refine kN ?_ _ | refine kD ?_ | refine kA ?_ _)); exact BK279.out))⟩; have n10_ : Aside0 (w124.heap[gb296]? = some (.cells #[.slice Ao111 x297000_3.length co111, .slice Ao112 x297001_3.length co112, .int .i64 x297002_3] 28 (0, 0))) := ⟨(by rw [hw]; exact (by (with_reducible repeat (first | refine kN ?_ _ | refine kD ?_ | refine kA ?_ _)); refine blk_far ?_ NB296_312.out _; (with_reducible repeat (first | refine kN ?_ _ | refine kD ?_ | refine kA ?_ _)); refine blk_far ?_ NB296_312.out _; (with_reducible repeat (first | refine kN ?_ _ | refine kD ?_ | refine kA ?_ _)); refine blk_far ?_ NB296_312.out _; (with_reducible repeat (first | refine kN ?_ _ | refine kD ?_ | refine kA ?_ _)); exact BK296.out))⟩; have n11_ : Aside0 (w124.heap[gb312]? = some (.cells #[.slice Ao119 t298.length co119, .slice Ao123 t301.length co123, .int .i64 t304] 28 (0, 0))) := ⟨(by rw [hw]; exact (by (with_reducible repeat (first | refine kN ?_ _ | refine kD ?_ | refine kA ?_ _)); refine blk_put (cs := #[.slice Ao119 t298.length co119, .slice Ao123 t301.length co123, .int .i64 0]) ?_ 2 _ rfl; (with_reducible repeat (first | refine kN ?_ _ | refine kD ?_ | refine kA ?_ _)); refine blk_put (cs := #[.slice Ao119 t298.length co119, .slice none 0 0, .int .i64 0]) ?_ 1 _ rfl; (with_reducible repeat (first | refine kN ?_ _ | refine kD ?_ | refine kA ?_ _)); refine blk_put (cs := #[.slice none 0 0, .slice none 0 0, .int .i64 0]) ?_ 0 _ rfl; (with_reducible repeat (first | refine kN ?_ _ | refine kD ?_ | refine kA ?_ _)); exact BK312.out))⟩; have n12_ : Aside0 (Below w.heap.size w w124) := ⟨(by rw [hw]; exact (by repeat (first | (with_reducible first | exact HB.out | apply bA | apply bN | apply bD | refine below_set ?_ GE279.out | refine below_set ?_ GE296.out | refine below_set ?_ GE312.out) | exact HB.out)))⟩; clear hw; clear HO_9; clear HO_280000; clear HO_280001; clear HO_297000; clear HO_297001; clear HO300; clear HO303; clear HO307; clear HO310; clear BK279; clear BK296; clear BK312; clear HB; have HO_9 := n0_; have HO_280000 := n1_; have HO_280001 := n2_; have HO_297000 := n3_; have HO_297001 := n4_; have HO300 := n5_; have HO303 := n6_; have HO307 := n7_; have HO310 := n8_; have BK279 := n9_; have BK296 := n10_; have BK312 := n11_; have HB := n12_; clear n0_ n1_ n2_ n3_ n4_ n5_ n6_ n7_ n8_ n9_ n10_ n11_ n12_; have q125 : (x12_3 : Int) ≤ ((t284.length : Int) : Int) := of_decide_eq_true (by first | (with_reducible assumption) | assumption); obtain ⟨i0125, hi0125, _, hsz125, _⟩ := info_parts info3; have hroom125 : t284.length ≤ co109 := (Kd.R_reads' HO_9.out).2.1; have hC125 : Kd.C (Kd.int .i64) _ Ao109 t284.length t284 := (Kd.R_reads' HO_9.out).2.2; have ql125 : ((ji49) : Int) ≤ (x12_3 : Int) := of_decide_eq_true (by first | (with_reducible assumption) | assumption); have q0125 : (0 : Int) ≤ ((ji49) : Int) := of_decide_eq_true (by first | (with_reducible assumption) | assumption); (try clear hcut79); (try clear hcut101); have hcut125 := cut_mid (P := Try.prog) 26 3 .i64 .i64 Try.underlying26 hi0125 1 hsz125 Ao109 t284.length co109 (ji49) x12_3 q0125 ql125 q125 hroom125; have hr125 := Kd.C_mid (lo := ((ji49) : Int).toNat) (hi := (x12_3 : Int).toNat) (c := co109) hC125 (by omega) (by omega) hroom125; obtain ⟨A125, hA125⟩ : ∃ A1, A1 = (if co109 = ((ji49) : Int).toNat then Ao109 else (Ao109 : Option Addr).map (·.add (((ji49) : Int).toNat * 1))) := ⟨_, rfl⟩; obtain ⟨c125, hc125⟩ : ∃ c1, c1 = co109 - ((ji49) : Int).toNat := ⟨_, rfl⟩; have hy125 : y313.length = (x12_3 : Int).toNat - ((ji49) : Int).toNat := (by rw [Ny313.out, List.length_drop, List.length_take] <;> omega); rw [show ((t284).take (x12_3 : Int).toNat).drop ((ji49) : Int).toNat = y313 from Ny313.out.symm] at hr125; replace hr125 : Kd.C (Kd.int .i64) _ A125 y313.length y313 := (by rw [hA125]; exact hr125); rw [← hy125, ← hA125, ← hc125] at hcut125; have HR316 := aM hr125; have HC316 := aM (show y313.length ≤ c125 from by rw [hy125, hc125]; exact Nat.sub_le_sub_right (Nat.le_trans (by omega) hroom125) _); clear hr125 hC125 hroom125 hi0125 hsz125 hc125; have KY125 := aM hy125; have KA125 := aM hA125; clear hy125 hA125; have KL125 := aM (show (x12_3 : Int).toNat ≤ t284.length from by omega); have KM125 := aM (show ((ji49) : Int).toNat ≤ (x12_3 : Int).toNat from by omega); replace q125 := eq_true q125; obtain ⟨Ao126, co126, eo126⟩ := Kd.R_slice HO307.out; subst eo126) | (go_at_call 17; (with_reducible refine (minecontrolref01_Ints.calls k3 _ _ t305 _ _ y313 true _ ?side1 ?side2 ?side3 ?side4 A53.out).mono ?_); (case side1 => exact C_mv (Kd.R_reads' HO307.out).2.2); (case side2 => exact (Kd.R_reads' HO307.out).2.1); (case side3 => repeat (first | exact (C_mv HR316.out) | (with_reducible refine Kd.C_alloc ?_ _) | (with_reducible refine Kd.C_drewN ?_ _) | (with_reducible refine Kd.C_drew ?_))); (case side4 => exact HC316.out); rintro e w' ⟨rfl, ⟨nd, rfl⟩⟩; (try (rw [drewN_self w124]; generalize hq_ : World.drewN w124 _ = w124; have n0_ : Aside0 (Kd.R k32 32 w124 w.heap.size (fun k_ => some k_ ≠ (.slice Ao30 x280000_1.length co30 : Value).ownBlock ∧ some k_ ≠ (.slice Ao111 x297000_3.length co111 : Value).ownBlock) (.slice Ao119 t298.length co119) t298) := ⟨by rw [← hq_]; exact (R_mv HO300.out)⟩; have n1_ : Aside0 (Kd.R (Kd.int .i64) 3 w124 w.heap.size (fun k_ => (some k_ ≠ (.slice Ao109 t284.length co109 : Value).ownBlock ∧ (some k_ ≠ (.slice (some ad283) t274.length co13 : Value).ownBlock ∧ (some k_ ≠ (.slice Ao112 x297001_3.length co112 : Value).ownBlock ∧ (some k_ ≠ (.slice Ao126 t305.length co126 : Value).ownBlock ∧ some k_ ≠ (v309 : Value).ownBlock))))) (.slice Ao123 t301.length co123) t301) := ⟨by rw [← hq_]; exact (R_mv HO303.out)⟩; have n2_ : Aside0 (Kd.R (Kd.int .i64) 3 w124 w.heap.size (fun k_ => (some k_ ≠ (.slice Ao109 t284.length co109 : Value).ownBlock ∧ (some k_ ≠ (.slice (some ad283) t274.length co13 : Value).ownBlock ∧ (some k_ ≠ (.slice Ao112 x297001_3.length co112 : Value).ownBlock ∧ (some k_ ≠ (.slice Ao123 t301.length co123 : Value).ownBlock ∧ some k_ ≠ (v309 : Value).ownBlock))))) (.slice Ao126 t305.length co126) t305) := ⟨by rw [← hq_]; exact (R_mv HO307.out)⟩; have n3_ : Aside0 (Kd.R (Kd.int .i64) 3 w124 w.heap.size (fun k_ => (some k_ ≠ (.slice Ao109 t284.length co109 : Value).ownBlock ∧ (some k_ ≠ (.slice (some ad283) t274.length co13 : Value).ownBlock ∧ (some k_ ≠ (.slice Ao112 x297001_3.length co112 : Value).ownBlock ∧ (some k_ ≠ (.slice Ao123 t301.length co123 : Value).ownBlock ∧ some k_ ≠ (.slice Ao126 t305.length co126 : Value).ownBlock))))) v309 t308) := ⟨by rw [← hq_]; exact (R_mv HO310.out)⟩; have n4_ : Aside0 (Kd.R k32 32 w124 w.heap.size (fun k_ => (some k_ ≠ (.slice Ao111 x297000_3.length co111 : Value).ownBlock ∧ some k_ ≠ (.slice Ao119 t298.length co119 : Value).ownBlock)) (.slice Ao30 x280000_1.length co30) x280000_1) := ⟨by rw [← hq_]; exact (R_mv HO_280000.out)⟩; have n5_ : Aside0 (Kd.R (Kd.int .i64) 3 w124 w.heap.size (fun k_ => (some k_ ≠ (.slice Ao109 t284.length co109 : Value).ownBlock ∧ (some k_ ≠ (.slice Ao112 x297001_3.length co112 : Value).ownBlock ∧ (some k_ ≠ (.slice Ao123 t301.length co123 : Value).ownBlock ∧ (some k_ ≠ (.slice Ao126 t305.length co126 : Value).ownBlock ∧ some k_ ≠ (v309 : Value).ownBlock))))) (.slice (some ad283) t274.length co13) t274) := ⟨by rw [← hq_]; exact (R_mv HO_280001.out)⟩; have n6_ : Aside0 (Kd.R k32 32 w124 w.heap.size (fun k_ => (some k_ ≠ (.slice Ao30 x280000_1.length co30 : Value).ownBlock ∧ some k_ ≠ (.slice Ao119 t298.length co119 : Value).ownBlock)) (.slice Ao111 x297000_3.length co111) x297000_3) := ⟨by rw [← hq_]; exact (R_mv HO_297000.out)⟩; have n7_ : Aside0 (Kd.R (Kd.int .i64) 3 w124 w.heap.size (fun k_ => (some k_ ≠ (.slice Ao109 t284.length co109 : Value).ownBlock ∧ (some k_ ≠ (.slice (some ad283) t274.length co13 : Value).ownBlock ∧ (some k_ ≠ (.slice Ao123 t301.length co123 : Value).ownBlock ∧ (some k_ ≠ (.slice Ao126 t305.length co126 : Value).ownBlock ∧ some k_ ≠ (v309 : Value).ownBlock))))) (.slice Ao112 x297001_3.length co112) x297001_3) := ⟨by rw [← hq_]; exact (R_mv HO_297001.out)⟩; have n8_ : Aside0 (Kd.R (Kd.int .i64) 3 w124 w.heap.size (fun k_ => (some k_ ≠ (.slice (some ad283) t274.length co13 : Value).ownBlock ∧ (some k_ ≠ (.slice Ao112 x297001_3.length co112 : Value).ownBlock ∧ (some k_ ≠ (.slice Ao123 t301.length co123 : Value).ownBlock ∧ (some k_ ≠ (.slice Ao126 t305.length co126 : Value).ownBlock ∧ some k_ ≠ (v309 : Value).ownBlock))))) (.slice Ao109 t284.length co109) t284) := ⟨by rw [← hq_]; exact (R_mv HO_9.out)⟩; have n9_ : Aside0 (w124.heap[gb279]? = some (.cells #[.slice Ao30 x280000_1.length co30, .slice (some ad283) t274.length co13, .int .i64 t277] 28 (0, 0))) := ⟨by rw [← hq_]; exact (by (with_reducible repeat (first | refine kN ?_ _ | refine kD ?_ | refine kA ?_ _)); exact BK279.out)⟩; have n10_ : Aside0 (w124.heap[gb296]? = some (.cells #[.slice Ao111 x297000_3.length co111, .slice Ao112 x297001_3.length co112, .int .i64 x297002_3] 28 (0, 0))) := ⟨by rw [← hq_]; exact (by (with_reducible repeat (first | refine kN ?_ _ | refine kD ?_ | refine kA ?_ _)); exact BK296.out)⟩; have n11_ : Aside0 (w124.heap[gb312]? = some (.cells #[.slice Ao119 t298.length co119, .slice Ao123 t301.length co123, .int .i64 t304] 28 (0, 0))) := ⟨by rw [← hq_]; exact (by (with_reducible repeat (first | refine kN ?_ _ | refine kD ?_ | refine kA ?_ _)); exact BK312.out)⟩; have n12_ : Aside0 (Below w.heap.size w w124) := ⟨by rw [← hq_]; exact (by repeat (first | (with_reducible first | exact HB.out | apply bA | apply bN | apply bD | refine below_set ?_ GE279.out | refine below_set ?_ GE296.out | refine below_set ?_ GE312.out) | exact HB.out))⟩; have n13_ : Aside0 (Kd.C (Kd.int .i64) w124 A125 y313.length y313) := ⟨by rw [← hq_]; exact (C_mv HR316.out)⟩; clear HO300 HO303 HO307 HO310 HO_280000 HO_280001 HO_297000 HO_297001 HO_9 BK279 BK296 BK312 HB HR316 hq_; have HO300 := n0_; have HO303 := n1_; have HO307 := n2_; have HO310 := n3_; have HO_280000 := n4_; have HO_280001 := n5_; have HO_297000 := n6_; have HO_297001 := n7_; have HO_9 := n8_; have BK279 := n9_; have BK296 := n10_; have BK312 := n11_; have HB := n12_; have HR316 := n13_; clear n0_ n1_ n2_ n3_ n4_ n5_ n6_ n7_ n8_ n9_ n10_ n11_ n12_ n13_)); obtain ⟨Ao127, co127, eo127⟩ := Kd.R_slice HO310.out; subst eo127; obtain ⟨hcz128_0, hcz128_1, hcz128_2, hfz128_0, hfz128_1, hfz128_2⟩ := blk3 BK312.out; obtain ⟨hcz129_0, hcz129_1, hcz129_2, hfz129_0, hfz129_1, hfz129_2⟩ := blk3 BK296.out))
            go_roundg k3
            case measure => have := HK1.out; have := HJ26.out; have := HK3.out; omega
            case rel => exact ⟨(wrap64 (x12_3 + 1)), (t298), (t301), (t304), (.slice Ao119 t298.length co119), (.slice Ao123 t301.length co123), (by first | rfl | (simp; done) | (simp [*]; done)), H', ⟨by have := HK1.out; have := HJ26.out; have := HK3.out; omega⟩, ⟨by (with_reducible repeat (first | apply Kd.R_alloc | apply Kd.R_drewN | apply Kd.R_drew)); exact Kd.R_mono (f3 HO_9.out BK296.out (by decide)) (fun _ hk => ⟨hk.1.1, hk.1.2.2.1⟩)⟩, ⟨by (with_reducible repeat (first | apply Kd.R_alloc | apply Kd.R_drewN | apply Kd.R_drew)); exact Kd.R_mono (f3 HO_280000.out BK296.out (by decide)) (fun _ hk => hk.1.2)⟩, ⟨by (with_reducible repeat (first | apply Kd.R_alloc | apply Kd.R_drewN | apply Kd.R_drew)); exact Kd.R_mono (f3 HO_280001.out BK296.out (by decide)) (fun _ hk => ⟨hk.1.1, hk.1.2.2.1⟩)⟩, ⟨by (with_reducible repeat (first | apply Kd.R_alloc | apply Kd.R_drewN | apply Kd.R_drew)); exact Kd.R_mono (f3 HO300.out BK296.out (by decide)) (fun _ hk => hk.1.1)⟩, ⟨by (with_reducible repeat (first | apply Kd.R_alloc | apply Kd.R_drewN | apply Kd.R_drew)); exact Kd.R_mono (f3 HO303.out BK296.out (by decide)) (fun _ hk => ⟨hk.1.1, hk.1.2.1⟩)⟩, ⟨by (with_reducible repeat (first | refine kN ?_ _ | refine kD ?_ | refine kA ?_ _)); refine blk_far ?_ NB279_296.out _; (with_reducible repeat (first | refine kN ?_ _ | refine kD ?_ | refine kA ?_ _)); refine blk_far ?_ NB279_296.out _; (with_reducible repeat (first | refine kN ?_ _ | refine kD ?_ | refine kA ?_ _)); refine blk_far ?_ NB279_296.out _; (with_reducible repeat (first | refine kN ?_ _ | refine kD ?_ | refine kA ?_ _)); exact BK279.out⟩, ⟨by (with_reducible repeat (first | refine kN ?_ _ | refine kD ?_ | refine kA ?_ _)); refine blk_put (cs := #[.slice Ao119 t298.length co119, .slice Ao123 t301.length co123, .int .i64 x297002_3]) ?_ 2 _ rfl; (with_reducible repeat (first | refine kN ?_ _ | refine kD ?_ | refine kA ?_ _)); refine blk_put (cs := #[.slice Ao119 t298.length co119, .slice Ao112 x297001_3.length co112, .int .i64 x297002_3]) ?_ 1 _ rfl; (with_reducible repeat (first | refine kN ?_ _ | refine kD ?_ | refine kA ?_ _)); refine blk_put (cs := #[.slice Ao111 x297000_3.length co111, .slice Ao112 x297001_3.length co112, .int .i64 x297002_3]) ?_ 0 _ rfl; (with_reducible repeat (first | refine kN ?_ _ | refine kD ?_ | refine kA ?_ _)); exact BK296.out⟩, ⟨by repeat (first | (with_reducible first | exact HB.out | apply bA | apply bN | apply bD | refine below_set ?_ GE279.out | refine below_set ?_ GE296.out | refine below_set ?_ GE312.out) | exact HB.out)⟩⟩
           rw [if_neg c107] at H
           have c107b0 : (x12_3 == (t284.length : Int)) = false := beq_eq_false_iff_ne.mpr c107
           have c107b1 : (x12_3 != (t284.length : Int)) = true := bne_iff_ne.mpr c107
           have H' := aM H
           clear H
           obtain ⟨Ao130, co130, eo130⟩ := Kd.R_slice HO_9.out
           subst eo130
           try go_wp2
           replace HO_9 := aM (Kd.R_drew HO_9.out)
           replace HO_280000 := aM (Kd.R_drew HO_280000.out)
           replace HO_280001 := aM (Kd.R_drew HO_280001.out)
           replace HO_297000 := aM (Kd.R_drew HO_297000.out)
           replace HO_297001 := aM (Kd.R_drew HO_297001.out)
           replace BK279 := aM (blk_drew BK279.out)
           replace BK296 := aM (blk_drew BK296.out)
           replace HB := aM (below_drew1 HB.out)
           obtain ⟨Ao132, co132, eo132⟩ := Kd.R_slice HO_297000.out
           (first | subst eo132 | (injection eo132 with f1_ f2_ f3_; have f4_ := f1_.symm; have f5_ := f3_.symm; clear f1_ f2_ f3_; subst f4_; subst f5_))
           obtain ⟨Ao133, co133, eo133⟩ := Kd.R_slice HO_297001.out
           (first | subst eo133 | (injection eo133 with f1_ f2_ f3_; have f4_ := f1_.symm; have f5_ := f3_.symm; clear f1_ f2_ f3_; subst f4_; subst f5_))
           refine start_ (n := 7) (S := fun w' => w'.cell? ⟨gb296, 0, none⟩ = some (.slice Ao132 x297000_3.length co132) ∧ w'.cell? ⟨gb296, 1, none⟩ = some (.slice Ao133 x297001_3.length co133) ∧ w'.cell? ⟨gb296, 2, none⟩ = some (.int .i64 x297002_3) ∧ w'.cell? ⟨gb279, 0, none⟩ = some (.slice Ao30 x280000_1.length co30) ∧ w'.cell? ⟨gb279, 1, none⟩ = some (.slice (some ad283) t274.length co13) ∧ w'.cell? ⟨gb279, 2, none⟩ = some (.int .i64 t277)) (ds := []) #[false, false, false, false, false, false, false] (by kernel_rfl) rfl rfl ⟨(blk_cell BK296.out 0).trans rfl, (blk_cell BK296.out 1).trans rfl, (blk_cell BK296.out 2).trans rfl, (blk_cell BK279.out 0).trans rfl, (blk_cell BK279.out 1).trans rfl, (blk_cell BK279.out 2).trans rfl⟩ (fun hHeld => ?_)
           generalize wr.drew = w131 at HO_9 HO_280000 HO_280001 HO_297000 HO_297001 BK279 BK296 HB hHeld ⊢
           refine pure_ (i := 2) (N := some 78) (v := ?_) (a' := ?_) #[false, false, true, false, false, false, false] rfl rfl (by kernel_rfl) (fun _ _ _ h => h) (Or.inl ⟨by rfl, ?_⟩) ?_ ?_
           rotate_left
           ·
            intro w'
            go_simp
            with_reducible rfl
           rotate_left
           ·
            simp only [Act.put, sT, sZ, sS, i64_w, i32_w]
            rfl
           refine pure_ (i := 3) (N := some 79) (v := ?_) (a' := ?_) #[false, false, true, true, false, false, false] rfl rfl (by kernel_rfl) (fun _ _ _ h => h) (Or.inl ⟨by rfl, ?_⟩) ?_ ?_
           rotate_left
           ·
            intro w'
            go_simp
            with_reducible rfl
           rotate_left
           ·
            simp only [Act.put, sT, sZ, sS, i64_w, i32_w]
            rfl
           refine take_ (i := 0) (N := some 76) (v := ?_) (a' := ?_) #[true, false, true, true, false, false, false] rfl rfl (by kernel_rfl) (fun _ _ _ h => h) (Or.inl ⟨by rfl, ?_⟩) hHeld ?_ ?_
           rotate_left
           ·
            rintro w' ⟨s0, s1, s2, s3, s4, s5⟩
            go_simp
            with_reducible rfl
           rotate_left
           ·
            simp only [Act.put, sT, sZ, sS, i64_w, i32_w]
            rfl
           refine take_ (i := 4) (N := some 80) (v := ?_) (a' := ?_) #[true, false, true, true, true, false, false] rfl rfl (by kernel_rfl) (fun _ _ _ h => h) (Or.inl ⟨by rfl, ?_⟩) hHeld ?_ ?_
           rotate_left
           ·
            rintro w' ⟨s0, s1, s2, s3, s4, s5⟩
            go_simp
            with_reducible rfl
           rotate_left
           ·
            simp only [Act.put, sT, sZ, sS, i64_w, i32_w]
            rfl
           refine pure_ (i := 5) (N := some 81) (v := ?_) (a' := ?_) #[true, false, true, true, true, true, false] rfl rfl (by kernel_rfl) (fun _ _ _ h => h) (Or.inl ⟨by rfl, ?_⟩) ?_ ?_
           rotate_left
           ·
            intro w'
            go_simp
            with_reducible rfl
           rotate_left
           ·
            simp only [Act.put, sT, sZ, sS, i64_w, i32_w]
            rfl
           refine one_ (i := 1) (N := some 77) #[true, true, true, true, true, true, false] rfl rfl (by kernel_rfl) (by decide) (fun K hK => ?_)
           refine goes_ Try.func15 (by kernel_rfl) rfl #[.agg #[.slice Ao132 x297000_3.length co132, .slice Ao133 x297001_3.length co133, .int .i64 x297002_3]] (by rfl) rfl rfl (by first | rfl | (simp only [List.map_toArray, List.map_cons, List.map_nil, List.length_drop, List.length_take]; try rfl)) ?_
           with_reducible refine (feeder_Due.calls k3 _ _ x297000_3 _ _ x297001_3 x297002_3 t297 _ ?side1 ?side2 ?side3 ?side4 A45.out).mono ?_
           (case side1 => exact C_mv (Kd.R_reads' HO_297000.out).2.2)
           (case side2 => exact (Kd.R_reads' HO_297000.out).2.1)
           (case side3 => exact C_mv (Kd.R_reads' HO_297001.out).2.2)
           (case side4 => exact (Kd.R_reads' HO_297001.out).2.1)
           rintro e w134 ⟨rfl, hb⟩
           refine ⟨_, rfl, ?_⟩
           replace HO_9 := aM (Kd.R_below (R_mv HO_9.out) hb)
           replace HO_280000 := aM (Kd.R_below (R_mv HO_280000.out) hb)
           replace HO_280001 := aM (Kd.R_below (R_mv HO_280001.out) hb)
           replace HO_297000 := aM (Kd.R_below (R_mv HO_297000.out) hb)
           replace HO_297001 := aM (Kd.R_below (R_mv HO_297001.out) hb)
           replace BK279 := aM (blk_below (blk_mv BK279.out) hb)
           replace BK296 := aM (blk_below (blk_mv BK296.out) hb)
           replace HB := aM (below_step (by repeat (first | (with_reducible first | exact HB.out | apply bA | apply bN | apply bD | refine below_set ?_ GE279.out | refine below_set ?_ GE296.out) | exact HB.out)) hb)
           (try clear hb)
           (try clear hb2)
           (try clear hge)
           (try clear hk)
           (try clear hi)
           refine hK.out _ _ ⟨(blk_cell BK296.out 0).trans rfl, (blk_cell BK296.out 1).trans rfl, (blk_cell BK296.out 2).trans rfl, (blk_cell BK279.out 0).trans rfl, (blk_cell BK279.out 1).trans rfl, (blk_cell BK279.out 2).trans rfl⟩ (fun hHeld => ?_)
           clear hK K
           refine norm_ (a' := ?_) ?_ ?_
           rotate_left
           ·
            show Act.put _ (some 77) _ = _
            simp only [Act.put, sT, sZ, sS, i64_w, i32_w]
            rfl
           refine pure_ (i := 6) (N := some 82) (v := ?_) (a' := ?_) #[true, true, true, true, true, true, true] rfl rfl (by kernel_rfl) (fun _ _ _ h => h) (Or.inl ⟨by rfl, ?_⟩) ?_ ?_
           rotate_left
           ·
            intro w'
            go_simp
            with_reducible rfl
           rotate_left
           ·
            simp only [Act.put, sT, sZ, sS, i64_w, i32_w]
            rfl
           refine done_ (by kernel_rfl) ?_
           have hnb135 := NB296_279.out
           have hnc135 := NB279_296.out
           obtain ⟨hcz136_0, hcz136_1, hcz136_2, hfz136_0, hfz136_1, hfz136_2⟩ := blk3 BK296.out
           obtain ⟨hcz137_0, hcz137_1, hcz137_2, hfz137_0, hfz137_1, hfz137_2⟩ := blk3 BK279.out
           try go_wp2_with (first | ((with_reducible refine gate_callee (f := 16) rfl ?_); refine goesL_ (some 89) rfl rfl Try.func16 (by kernel_rfl) rfl #[.agg #[.slice Ao132 x297000_3.length co132, .slice Ao133 x297001_3.length co133, .int .i64 x297002_3], .int .i64 (wrap64 (x12_3 * t277))] rfl (by first | rfl | (simp only [List.map_toArray, List.map_cons, List.map_nil, List.length_drop, List.length_take]; try rfl)) ?_; (with_reducible refine (feeder_Tick.calls k3 _ _ x297000_3 _ _ x297001_3 x297002_3 (wrap64 (x12_3 * t277)) t298 t301 t304 t305 t308 t311 _ ?side1 ?side2 ?side3 ?side4 A47.out).mono ?_); (case side1 => exact C_mv (Kd.R_reads' HO_297000.out).2.2); (case side2 => exact (Kd.R_reads' HO_297000.out).2.1); (case side3 => exact C_mv (Kd.R_reads' HO_297001.out).2.2); (case side4 => exact (Kd.R_reads' HO_297001.out).2.1); rintro e w138 ⟨v299, v302, v306, v309, rfl, ho0, ho1, ho2, ho3, hb⟩; refine ⟨_, rfl, ?_⟩; have HO300 := aM (Kd.R_lower (Kd.R_new' (Kd.R_new' ho0 (Kd.R_lt (R_mv HO_280000.out))) (Kd.R_lt (R_mv HO_297000.out))) (below_size (by repeat (first | (with_reducible first | exact HB.out | apply bA | apply bN | apply bD | refine below_set ?_ GE279.out | refine below_set ?_ GE296.out) | exact HB.out)))); replace HO_280000 := aM (Kd.R_elder' (R_mv HO_280000.out) (Kd.R_base ho0) hb); replace HO_297000 := aM (Kd.R_elder' (R_mv HO_297000.out) (Kd.R_base ho0) hb); have HO303 := aM (Kd.R_lower (Kd.R_new' (Kd.R_new' (Kd.R_new' ho1 (Kd.R_lt (R_mv HO_9.out))) (Kd.R_lt (R_mv HO_280001.out))) (Kd.R_lt (R_mv HO_297001.out))) (below_size (by repeat (first | (with_reducible first | exact HB.out | apply bA | apply bN | apply bD | refine below_set ?_ GE279.out | refine below_set ?_ GE296.out) | exact HB.out)))); have HO307 := aM (Kd.R_lower (Kd.R_new' (Kd.R_new' (Kd.R_new' ho2 (Kd.R_lt (R_mv HO_9.out))) (Kd.R_lt (R_mv HO_280001.out))) (Kd.R_lt (R_mv HO_297001.out))) (below_size (by repeat (first | (with_reducible first | exact HB.out | apply bA | apply bN | apply bD | refine below_set ?_ GE279.out | refine below_set ?_ GE296.out) | exact HB.out)))); have HO310 := aM (Kd.R_lower (Kd.R_new' (Kd.R_new' (Kd.R_new' ho3 (Kd.R_lt (R_mv HO_9.out))) (Kd.R_lt (R_mv HO_280001.out))) (Kd.R_lt (R_mv HO_297001.out))) (below_size (by repeat (first | (with_reducible first | exact HB.out | apply bA | apply bN | apply bD | refine below_set ?_ GE279.out | refine below_set ?_ GE296.out) | exact HB.out)))); replace HO_9 := aM (Kd.R_mono (Kd.R_told (Kd.R_told (Kd.R_told (Kd.R_old (R_mv HO_9.out) hb) (Kd.R_base ho1)) (Kd.R_base ho2)) (Kd.R_base ho3)) (fun _ h_ => h_.1)); replace HO_280001 := aM (Kd.R_mono (Kd.R_told (Kd.R_told (Kd.R_told (Kd.R_old (R_mv HO_280001.out) hb) (Kd.R_base ho1)) (Kd.R_base ho2)) (Kd.R_base ho3)) (fun _ h_ => h_.1)); replace HO_297001 := aM (Kd.R_mono (Kd.R_told (Kd.R_told (Kd.R_told (Kd.R_old (R_mv HO_297001.out) hb) (Kd.R_base ho1)) (Kd.R_base ho2)) (Kd.R_base ho3)) (fun _ h_ => h_.1)); replace BK279 := aM (blk_below (blk_mv BK279.out) hb); replace BK296 := aM (blk_below (blk_mv BK296.out) hb); replace HB := aM (below_step (by repeat (first | (with_reducible first | exact HB.out | apply bA | apply bN | apply bD | refine below_set ?_ GE279.out | refine below_set ?_ GE296.out) | exact HB.out)) hb); (try clear hb); (try clear hb2); (try clear hge); (try clear hk); (try clear hi); (try clear ho0); (try clear ho1); (try clear ho2); (try clear ho3)) | ((with_reducible refine gate_dst (N := 13) rfl ?_); (try (refine gate_guard (by rfl) ?_; dsimp only)); refine box_event ?hg (N := 13) ?hd (cs := #[.slice none 0 0, .slice none 0 0, .int .i64 0]) (t := 28) ?hr ?_; (case hd => rfl); (case hg => rfl); (case hr => first | (go_simp; done) | (go_simp; rfl)); intro gb312 hg w139 hbox hb; replace HO_9 := aM (Kd.R_below (R_mv HO_9.out) hb); replace HO_280000 := aM (Kd.R_below (R_mv HO_280000.out) hb); replace HO_280001 := aM (Kd.R_below (R_mv HO_280001.out) hb); replace HO_297000 := aM (Kd.R_below (R_mv HO_297000.out) hb); replace HO_297001 := aM (Kd.R_below (R_mv HO_297001.out) hb); replace HO300 := aM (Kd.R_below (R_mv HO300.out) hb); replace HO303 := aM (Kd.R_below (R_mv HO303.out) hb); replace HO307 := aM (Kd.R_below (R_mv HO307.out) hb); replace HO310 := aM (Kd.R_below (R_mv HO310.out) hb); have BK312 := aM (hbox); have GW312 := aM ((by rw [hg]; exact (below_size (by repeat (first | (with_reducible first | exact HB.out | apply bA | apply bN | apply bD | refine below_set ?_ GE279.out | refine below_set ?_ GE296.out) | exact HB.out))) : w.heap.size ≤ gb312)); have GE312 := aM ((by rw [hg]; exact (below_size (by repeat (first | (with_reducible first | exact HB.out | apply bA | apply bN | apply bD | refine below_set ?_ GE279.out | refine below_set ?_ GE296.out) | exact HB.out))) : w.heap.size ≤ gb312)); replace HB := aM (below_step (by repeat (first | (with_reducible first | exact HB.out | apply bA | apply bN | apply bD | refine below_set ?_ GE279.out | refine below_set ?_ GE296.out) | exact HB.out)) hb); have NB279_312 := aM ((by rw [hg]; exact Nat.ne_of_lt (blk_lt (blk_mv BK279.out)) : gb279 ≠ gb312)); have NB312_279 := aM ((by rw [hg]; exact Nat.ne_of_gt (blk_lt (blk_mv BK279.out)) : gb312 ≠ gb279)); replace BK279 := aM (blk_below (blk_mv BK279.out) hb); have NB296_312 := aM ((by rw [hg]; exact Nat.ne_of_lt (blk_lt (blk_mv BK296.out)) : gb296 ≠ gb312)); have NB312_296 := aM ((by rw [hg]; exact Nat.ne_of_gt (blk_lt (blk_mv BK296.out)) : gb312 ≠ gb296)); replace BK296 := aM (blk_below (blk_mv BK296.out) hb); clear hb hbox hg; obtain ⟨Ao140, co140, eo140⟩ := Kd.R_slice HO300.out; subst eo140; have hnb141 := NB312_279.out; have hnc141 := NB279_312.out; have hnb142 := NB312_296.out; have hnc142 := NB296_312.out; obtain ⟨hcz143_0, hcz143_1, hcz143_2, hfz143_0, hfz143_1, hfz143_2⟩ := blk3 BK312.out; obtain ⟨Ao144, co144, eo144⟩ := Kd.R_slice HO303.out; subst eo144) | ((with_reducible refine gate_store (t := 28) (p := 13) rfl ?_); refine store_event (t := 28) (p := 13) (v := ?vo_w145) (w1 := (((w139.setCell ⟨gb312, 0, none⟩ (.slice Ao140 t298.length co140)).setCell ⟨gb312, 1, none⟩ (.slice Ao144 t301.length co144)).setCell ⟨gb312, 2, none⟩ (.int .i64 t304))) ?hg ?ho ?hn ?hr ?_; (case ho => rfl); (case hg => rfl); (case hn => rfl); (case hr => first | (go_simp; done) | (go_simp; rfl)); intro w145 hw; have n0_ : Aside0 (Kd.R (Kd.int .i64) 3 w145 w.heap.size (fun k_ => some k_ ≠ (.slice (some ad283) t274.length co13 : Value).ownBlock ∧ some k_ ≠ (.slice Ao133 x297001_3.length co133 : Value).ownBlock ∧ some k_ ≠ (.slice Ao144 t301.length co144 : Value).ownBlock ∧ some k_ ≠ (v306 : Value).ownBlock ∧ some k_ ≠ (v309 : Value).ownBlock) (.slice Ao130 t284.length co130) t284) := ⟨(by rw [hw]; exact (by (with_reducible repeat (first | apply Kd.R_alloc | apply Kd.R_drewN | apply Kd.R_drew)); exact Kd.R_mono (f3 HO_9.out BK312.out (by decide)) (fun _ hk => ⟨hk.1.1.1.1.1, ⟨hk.1.1.1.1.2, ⟨hk.1.1.1.2, ⟨hk.1.1.2, hk.1.2⟩⟩⟩⟩)))⟩; have n1_ : Aside0 (Kd.R k32 32 w145 w.heap.size (fun k_ => some k_ ≠ (.slice Ao132 x297000_3.length co132 : Value).ownBlock ∧ some k_ ≠ (.slice Ao140 t298.length co140 : Value).ownBlock) (.slice Ao30 x280000_1.length co30) x280000_1) := ⟨(by rw [hw]; exact (by (with_reducible repeat (first | apply Kd.R_alloc | apply Kd.R_drewN | apply Kd.R_drew)); exact Kd.R_mono (f3 HO_280000.out BK312.out (by decide)) (fun _ hk => ⟨hk.1.1, hk.1.2⟩)))⟩; have n2_ : Aside0 (Kd.R (Kd.int .i64) 3 w145 w.heap.size (fun k_ => some k_ ≠ (.slice Ao130 t284.length co130 : Value).ownBlock ∧ some k_ ≠ (.slice Ao133 x297001_3.length co133 : Value).ownBlock ∧ some k_ ≠ (.slice Ao144 t301.length co144 : Value).ownBlock ∧ some k_ ≠ (v306 : Value).ownBlock ∧ some k_ ≠ (v309 : Value).ownBlock) (.slice (some ad283) t274.length co13) t274) := ⟨(by rw [hw]; exact (by (with_reducible repeat (first | apply Kd.R_alloc | apply Kd.R_drewN | apply Kd.R_drew)); exact Kd.R_mono (f3 HO_280001.out BK312.out (by decide)) (fun _ hk => ⟨hk.1.1.1.1.1, ⟨hk.1.1.1.1.2, ⟨hk.1.1.1.2, ⟨hk.1.1.2, hk.1.2⟩⟩⟩⟩)))⟩; have n3_ : Aside0 (Kd.R k32 32 w145 w.heap.size (fun k_ => some k_ ≠ (.slice Ao30 x280000_1.length co30 : Value).ownBlock ∧ some k_ ≠ (.slice Ao140 t298.length co140 : Value).ownBlock) (.slice Ao132 x297000_3.length co132) x297000_3) := ⟨(by rw [hw]; exact (by (with_reducible repeat (first | apply Kd.R_alloc | apply Kd.R_drewN | apply Kd.R_drew)); exact Kd.R_mono (f3 HO_297000.out BK312.out (by decide)) (fun _ hk => ⟨hk.1.1, hk.1.2⟩)))⟩; have n4_ : Aside0 (Kd.R (Kd.int .i64) 3 w145 w.heap.size (fun k_ => some k_ ≠ (.slice Ao130 t284.length co130 : Value).ownBlock ∧ some k_ ≠ (.slice (some ad283) t274.length co13 : Value).ownBlock ∧ some k_ ≠ (.slice Ao144 t301.length co144 : Value).ownBlock ∧ some k_ ≠ (v306 : Value).ownBlock ∧ some k_ ≠ (v309 : Value).ownBlock) (.slice Ao133 x297001_3.length co133) x297001_3) := ⟨(by rw [hw]; exact (by (with_reducible repeat (first | apply Kd.R_alloc | apply Kd.R_drewN | apply Kd.R_drew)); exact Kd.R_mono (f3 HO_297001.out BK312.out (by decide)) (fun _ hk => ⟨hk.1.1.1.1.1, ⟨hk.1.1.1.1.2, ⟨hk.1.1.1.2, ⟨hk.1.1.2, hk.1.2⟩⟩⟩⟩)))⟩; have n5_ : Aside0 (Kd.R k32 32 w145 w.heap.size (fun k_ => some k_ ≠ (.slice Ao30 x280000_1.length co30 : Value).ownBlock ∧ some k_ ≠ (.slice Ao132 x297000_3.length co132 : Value).ownBlock) (.slice Ao140 t298.length co140) t298) := ⟨(by rw [hw]; exact (by (with_reducible repeat (first | apply Kd.R_alloc | apply Kd.R_drewN | apply Kd.R_drew)); exact Kd.R_mono (f3 HO300.out BK312.out (by decide)) (fun _ hk => ⟨hk.1.1.2, hk.1.2⟩)))⟩; have n6_ : Aside0 (Kd.R (Kd.int .i64) 3 w145 w.heap.size (fun k_ => some k_ ≠ (.slice Ao130 t284.length co130 : Value).ownBlock ∧ some k_ ≠ (.slice (some ad283) t274.length co13 : Value).ownBlock ∧ some k_ ≠ (.slice Ao133 x297001_3.length co133 : Value).ownBlock ∧ some k_ ≠ (v306 : Value).ownBlock ∧ some k_ ≠ (v309 : Value).ownBlock) (.slice Ao144 t301.length co144) t301) := ⟨(by rw [hw]; exact (by (with_reducible repeat (first | apply Kd.R_alloc | apply Kd.R_drewN | apply Kd.R_drew)); exact Kd.R_mono (f3 HO303.out BK312.out (by decide)) (fun _ hk => ⟨hk.1.1.1.2, ⟨hk.1.1.2, ⟨hk.1.2, ⟨hk.1.1.1.1.1, hk.1.1.1.1.2⟩⟩⟩⟩)))⟩; have n7_ : Aside0 (Kd.R (Kd.int .i64) 3 w145 w.heap.size (fun k_ => some k_ ≠ (.slice Ao130 t284.length co130 : Value).ownBlock ∧ some k_ ≠ (.slice (some ad283) t274.length co13 : Value).ownBlock ∧ some k_ ≠ (.slice Ao133 x297001_3.length co133 : Value).ownBlock ∧ some k_ ≠ (.slice Ao144 t301.length co144 : Value).ownBlock ∧ some k_ ≠ (v309 : Value).ownBlock) v306 t305) := ⟨(by rw [hw]; exact (by (with_reducible repeat (first | apply Kd.R_alloc | apply Kd.R_drewN | apply Kd.R_drew)); exact Kd.R_mono (f3 HO307.out BK312.out (by decide)) (fun _ hk => ⟨hk.1.1.1.2, ⟨hk.1.1.2, ⟨hk.1.2, ⟨hk.1.1.1.1.1, hk.1.1.1.1.2⟩⟩⟩⟩)))⟩; have n8_ : Aside0 (Kd.R (Kd.int .i64) 3 w145 w.heap.size (fun k_ => some k_ ≠ (.slice Ao130 t284.length co130 : Value).ownBlock ∧ some k_ ≠ (.slice (some ad283) t274.length co13 : Value).ownBlock ∧ some k_ ≠ (.slice Ao133 x297001_3.length co133 : Value).ownBlock ∧ some k_ ≠ (.slice Ao144 t301.length co144 : Value).ownBlock ∧ some k_ ≠ (v306 : Value).ownBlock) v309 t308) := ⟨(by rw [hw]; exact (by (with_reducible repeat (first | apply Kd.R_alloc | apply Kd.R_drewN | apply Kd.R_drew)); exact Kd.R_mono (f3 HO310.out BK312.out (by decide)) (fun _ hk => ⟨hk.1.1.1.2, ⟨hk.1.1.2, ⟨hk.1.2, ⟨hk.1.1.1.1.1, hk.1.1.1.1.2⟩⟩⟩⟩)))⟩; have n9_ : Aside0 (w145.heap[gb279]? = some (.cells #[.slice Ao30 x280000_1.length co30, .slice (some ad283) t274.length co13, .int .i64 t277] 28 (0, 0))) := ⟨(by rw [hw]; exact (by (with_reducible repeat (first | refine kN ?_ _ | refine kD ?_ | refine kA ?_ _)); refine blk_far ?_ NB279_312.out _; (with_reducible repeat (first | refine kN ?_ _ | refine kD ?_ | refine kA ?_ _)); refine blk_far ?_ NB279_312.out _; (with_reducible repeat (first | refine kN ?_ _ | refine kD ?_ | refine kA ?_ _)); refine blk_far ?_ NB279_312.out _; (with_reducible repeat (first | refine kN ?_ _ | refine kD ?_ | refine kA ?_ _)); exact BK279.out))⟩; have n10_ : Aside0 (w145.heap[gb296]? = some (.cells #[.slice Ao132 x297000_3.length co132, .slice Ao133 x297001_3.length co133, .int .i64 x297002_3] 28 (0, 0))) := ⟨(by rw [hw]; exact (by (with_reducible repeat (first | refine kN ?_ _ | refine kD ?_ | refine kA ?_ _)); refine blk_far ?_ NB296_312.out _; (with_reducible repeat (first | refine kN ?_ _ | refine kD ?_ | refine kA ?_ _)); refine blk_far ?_ NB296_312.out _; (with_reducible repeat (first | refine kN ?_ _ | refine kD ?_ | refine kA ?_ _)); refine blk_far ?_ NB296_312.out _; (with_reducible repeat (first | refine kN ?_ _ | refine kD ?_ | refine kA ?_ _)); exact BK296.out))⟩; have n11_ : Aside0 (w145.heap[gb312]? = some (.cells #[.slice Ao140 t298.length co140, .slice Ao144 t301.length co144, .int .i64 t304] 28 (0, 0))) := ⟨(by rw [hw]; exact (by (with_reducible repeat (first | refine kN ?_ _ | refine kD ?_ | refine kA ?_ _)); refine blk_put (cs := #[.slice Ao140 t298.length co140, .slice Ao144 t301.length co144, .int .i64 0]) ?_ 2 _ rfl; (with_reducible repeat (first | refine kN ?_ _ | refine kD ?_ | refine kA ?_ _)); refine blk_put (cs := #[.slice Ao140 t298.length co140, .slice none 0 0, .int .i64 0]) ?_ 1 _ rfl; (with_reducible repeat (first | refine kN ?_ _ | refine kD ?_ | refine kA ?_ _)); refine blk_put (cs := #[.slice none 0 0, .slice none 0 0, .int .i64 0]) ?_ 0 _ rfl; (with_reducible repeat (first | refine kN ?_ _ | refine kD ?_ | refine kA ?_ _)); exact BK312.out))⟩; have n12_ : Aside0 (Below w.heap.size w w145) := ⟨(by rw [hw]; exact (by repeat (first | (with_reducible first | exact HB.out | apply bA | apply bN | apply bD | refine below_set ?_ GE279.out | refine below_set ?_ GE296.out | refine below_set ?_ GE312.out) | exact HB.out)))⟩; clear hw; clear HO_9; clear HO_280000; clear HO_280001; clear HO_297000; clear HO_297001; clear HO300; clear HO303; clear HO307; clear HO310; clear BK279; clear BK296; clear BK312; clear HB; have HO_9 := n0_; have HO_280000 := n1_; have HO_280001 := n2_; have HO_297000 := n3_; have HO_297001 := n4_; have HO300 := n5_; have HO303 := n6_; have HO307 := n7_; have HO310 := n8_; have BK279 := n9_; have BK296 := n10_; have BK312 := n11_; have HB := n12_; clear n0_ n1_ n2_ n3_ n4_ n5_ n6_ n7_ n8_ n9_ n10_ n11_ n12_; have q146 : (x12_3 : Int) ≤ ((t284.length : Int) : Int) := of_decide_eq_true (by first | (with_reducible assumption) | assumption); obtain ⟨i0146, hi0146, _, hsz146, _⟩ := info_parts info3; have hroom146 : t284.length ≤ co130 := (Kd.R_reads' HO_9.out).2.1; have hC146 : Kd.C (Kd.int .i64) _ Ao130 t284.length t284 := (Kd.R_reads' HO_9.out).2.2; have ql146 : ((ji49) : Int) ≤ (x12_3 : Int) := of_decide_eq_true (by first | (with_reducible assumption) | assumption); have q0146 : (0 : Int) ≤ ((ji49) : Int) := of_decide_eq_true (by first | (with_reducible assumption) | assumption); (try clear hcut79); (try clear hcut101); (try clear hcut125); have hcut146 := cut_mid (P := Try.prog) 26 3 .i64 .i64 Try.underlying26 hi0146 1 hsz146 Ao130 t284.length co130 (ji49) x12_3 q0146 ql146 q146 hroom146; have hr146 := Kd.C_mid (lo := ((ji49) : Int).toNat) (hi := (x12_3 : Int).toNat) (c := co130) hC146 (by omega) (by omega) hroom146; obtain ⟨A146, hA146⟩ : ∃ A1, A1 = (if co130 = ((ji49) : Int).toNat then Ao130 else (Ao130 : Option Addr).map (·.add (((ji49) : Int).toNat * 1))) := ⟨_, rfl⟩; obtain ⟨c146, hc146⟩ : ∃ c1, c1 = co130 - ((ji49) : Int).toNat := ⟨_, rfl⟩; have hy146 : y313.length = (x12_3 : Int).toNat - ((ji49) : Int).toNat := (by rw [Ny313.out, List.length_drop, List.length_take] <;> omega); rw [show ((t284).take (x12_3 : Int).toNat).drop ((ji49) : Int).toNat = y313 from Ny313.out.symm] at hr146; replace hr146 : Kd.C (Kd.int .i64) _ A146 y313.length y313 := (by rw [hA146]; exact hr146); rw [← hy146, ← hA146, ← hc146] at hcut146; have HR316 := aM hr146; have HC316 := aM (show y313.length ≤ c146 from by rw [hy146, hc146]; exact Nat.sub_le_sub_right (Nat.le_trans (by omega) hroom146) _); clear hr146 hC146 hroom146 hi0146 hsz146 hc146; have KY146 := aM hy146; have KA146 := aM hA146; clear hy146 hA146; have KL146 := aM (show (x12_3 : Int).toNat ≤ t284.length from by omega); have KM146 := aM (show ((ji49) : Int).toNat ≤ (x12_3 : Int).toNat from by omega); replace q146 := eq_true q146; obtain ⟨Ao147, co147, eo147⟩ := Kd.R_slice HO307.out; subst eo147) | (go_at_call 17; (with_reducible refine (minecontrolref01_Ints.calls k3 _ _ t305 _ _ y313 true _ ?side1 ?side2 ?side3 ?side4 A53.out).mono ?_); (case side1 => exact C_mv (Kd.R_reads' HO307.out).2.2); (case side2 => exact (Kd.R_reads' HO307.out).2.1); (case side3 => repeat (first | exact (C_mv HR316.out) | (with_reducible refine Kd.C_alloc ?_ _) | (with_reducible refine Kd.C_drewN ?_ _) | (with_reducible refine Kd.C_drew ?_))); (case side4 => exact HC316.out); rintro e w' ⟨rfl, ⟨nd, rfl⟩⟩; (try (rw [drewN_self w145]; generalize hq_ : World.drewN w145 _ = w145; have n0_ : Aside0 (Kd.R k32 32 w145 w.heap.size (fun k_ => some k_ ≠ (.slice Ao30 x280000_1.length co30 : Value).ownBlock ∧ some k_ ≠ (.slice Ao132 x297000_3.length co132 : Value).ownBlock) (.slice Ao140 t298.length co140) t298) := ⟨by rw [← hq_]; exact (R_mv HO300.out)⟩; have n1_ : Aside0 (Kd.R (Kd.int .i64) 3 w145 w.heap.size (fun k_ => (some k_ ≠ (.slice Ao130 t284.length co130 : Value).ownBlock ∧ (some k_ ≠ (.slice (some ad283) t274.length co13 : Value).ownBlock ∧ (some k_ ≠ (.slice Ao133 x297001_3.length co133 : Value).ownBlock ∧ (some k_ ≠ (.slice Ao147 t305.length co147 : Value).ownBlock ∧ some k_ ≠ (v309 : Value).ownBlock))))) (.slice Ao144 t301.length co144) t301) := ⟨by rw [← hq_]; exact (R_mv HO303.out)⟩; have n2_ : Aside0 (Kd.R (Kd.int .i64) 3 w145 w.heap.size (fun k_ => (some k_ ≠ (.slice Ao130 t284.length co130 : Value).ownBlock ∧ (some k_ ≠ (.slice (some ad283) t274.length co13 : Value).ownBlock ∧ (some k_ ≠ (.slice Ao133 x297001_3.length co133 : Value).ownBlock ∧ (some k_ ≠ (.slice Ao144 t301.length co144 : Value).ownBlock ∧ some k_ ≠ (v309 : Value).ownBlock))))) (.slice Ao147 t305.length co147) t305) := ⟨by rw [← hq_]; exact (R_mv HO307.out)⟩; have n3_ : Aside0 (Kd.R (Kd.int .i64) 3 w145 w.heap.size (fun k_ => (some k_ ≠ (.slice Ao130 t284.length co130 : Value).ownBlock ∧ (some k_ ≠ (.slice (some ad283) t274.length co13 : Value).ownBlock ∧ (some k_ ≠ (.slice Ao133 x297001_3.length co133 : Value).ownBlock ∧ (some k_ ≠ (.slice Ao144 t301.length co144 : Value).ownBlock ∧ some k_ ≠ (.slice Ao147 t305.length co147 : Value).ownBlock))))) v309 t308) := ⟨by rw [← hq_]; exact (R_mv HO310.out)⟩; have n4_ : Aside0 (Kd.R k32 32 w145 w.heap.size (fun k_ => (some k_ ≠ (.slice Ao132 x297000_3.length co132 : Value).ownBlock ∧ some k_ ≠ (.slice Ao140 t298.length co140 : Value).ownBlock)) (.slice Ao30 x280000_1.length co30) x280000_1) := ⟨by rw [← hq_]; exact (R_mv HO_280000.out)⟩; have n5_ : Aside0 (Kd.R (Kd.int .i64) 3 w145 w.heap.size (fun k_ => (some k_ ≠ (.slice Ao130 t284.length co130 : Value).ownBlock ∧ (some k_ ≠ (.slice Ao133 x297001_3.length co133 : Value).ownBlock ∧ (some k_ ≠ (.slice Ao144 t301.length co144 : Value).ownBlock ∧ (some k_ ≠ (.slice Ao147 t305.length co147 : Value).ownBlock ∧ some k_ ≠ (v309 : Value).ownBlock))))) (.slice (some ad283) t274.length co13) t274) := ⟨by rw [← hq_]; exact (R_mv HO_280001.out)⟩; have n6_ : Aside0 (Kd.R k32 32 w145 w.heap.size (fun k_ => (some k_ ≠ (.slice Ao30 x280000_1.length co30 : Value).ownBlock ∧ some k_ ≠ (.slice Ao140 t298.length co140 : Value).ownBlock)) (.slice Ao132 x297000_3.length co132) x297000_3) := ⟨by rw [← hq_]; exact (R_mv HO_297000.out)⟩; have n7_ : Aside0 (Kd.R (Kd.int .i64) 3 w145 w.heap.size (fun k_ => (some k_ ≠ (.slice Ao130 t284.length co130 : Value).ownBlock ∧ (some k_ ≠ (.slice (some ad283) t274.length co13 : Value).ownBlock ∧ (some k_ ≠ (.slice Ao144 t301.length co144 : Value).ownBlock ∧ (some k_ ≠ (.slice Ao147 t305.length co147 : Value).ownBlock ∧ some k_ ≠ (v309 : Value).ownBlock))))) (.slice Ao133 x297001_3.length co133) x297001_3) := ⟨by rw [← hq_]; exact (R_mv HO_297001.out)⟩; have n8_ : Aside0 (Kd.R (Kd.int .i64) 3 w145 w.heap.size (fun k_ => (some k_ ≠ (.slice (some ad283) t274.length co13 : Value).ownBlock ∧ (some k_ ≠ (.slice Ao133 x297001_3.length co133 : Value).ownBlock ∧ (some k_ ≠ (.slice Ao144 t301.length co144 : Value).ownBlock ∧ (some k_ ≠ (.slice Ao147 t305.length co147 : Value).ownBlock ∧ some k_ ≠ (v309 : Value).ownBlock))))) (.slice Ao130 t284.length co130) t284) := ⟨by rw [← hq_]; exact (R_mv HO_9.out)⟩; have n9_ : Aside0 (w145.heap[gb279]? = some (.cells #[.slice Ao30 x280000_1.length co30, .slice (some ad283) t274.length co13, .int .i64 t277] 28 (0, 0))) := ⟨by rw [← hq_]; exact (by (with_reducible repeat (first | refine kN ?_ _ | refine kD ?_ | refine kA ?_ _)); exact BK279.out)⟩; have n10_ : Aside0 (w145.heap[gb296]? = some (.cells #[.slice Ao132 x297000_3.length co132, .slice Ao133 x297001_3.length co133, .int .i64 x297002_3] 28 (0, 0))) := ⟨by rw [← hq_]; exact (by (with_reducible repeat (first | refine kN ?_ _ | refine kD ?_ | refine kA ?_ _)); exact BK296.out)⟩; have n11_ : Aside0 (w145.heap[gb312]? = some (.cells #[.slice Ao140 t298.length co140, .slice Ao144 t301.length co144, .int .i64 t304] 28 (0, 0))) := ⟨by rw [← hq_]; exact (by (with_reducible repeat (first | refine kN ?_ _ | refine kD ?_ | refine kA ?_ _)); exact BK312.out)⟩; have n12_ : Aside0 (Below w.heap.size w w145) := ⟨by rw [← hq_]; exact (by repeat (first | (with_reducible first | exact HB.out | apply bA | apply bN | apply bD | refine below_set ?_ GE279.out | refine below_set ?_ GE296.out | refine below_set ?_ GE312.out) | exact HB.out))⟩; have n13_ : Aside0 (Kd.C (Kd.int .i64) w145 A146 y313.length y313) := ⟨by rw [← hq_]; exact (C_mv HR316.out)⟩; clear HO300 HO303 HO307 HO310 HO_280000 HO_280001 HO_297000 HO_297001 HO_9 BK279 BK296 BK312 HB HR316 hq_; have HO300 := n0_; have HO303 := n1_; have HO307 := n2_; have HO310 := n3_; have HO_280000 := n4_; have HO_280001 := n5_; have HO_297000 := n6_; have HO_297001 := n7_; have HO_9 := n8_; have BK279 := n9_; have BK296 := n10_; have BK312 := n11_; have HB := n12_; have HR316 := n13_; clear n0_ n1_ n2_ n3_ n4_ n5_ n6_ n7_ n8_ n9_ n10_ n11_ n12_ n13_)); obtain ⟨hcz148_0, hcz148_1, hcz148_2, hfz148_0, hfz148_1, hfz148_2⟩ := blk3 BK312.out; obtain ⟨hcz149_0, hcz149_1, hcz149_2, hfz149_0, hfz149_1, hfz149_2⟩ := blk3 BK296.out))
           go_roundg k3
           case measure => have := HK1.out; have := HJ26.out; have := HK3.out; omega
           case rel => exact ⟨(wrap64 (x12_3 + 1)), (t298), (t301), (t304), (.slice Ao140 t298.length co140), (.slice Ao144 t301.length co144), (by first | rfl | (simp; done) | (simp [*]; done)), H', ⟨by have := HK1.out; have := HJ26.out; have := HK3.out; omega⟩, ⟨by (with_reducible repeat (first | apply Kd.R_alloc | apply Kd.R_drewN | apply Kd.R_drew)); exact Kd.R_mono (f3 HO_9.out BK296.out (by decide)) (fun _ hk => ⟨hk.1.1, hk.1.2.2.1⟩)⟩, ⟨by (with_reducible repeat (first | apply Kd.R_alloc | apply Kd.R_drewN | apply Kd.R_drew)); exact Kd.R_mono (f3 HO_280000.out BK296.out (by decide)) (fun _ hk => hk.1.2)⟩, ⟨by (with_reducible repeat (first | apply Kd.R_alloc | apply Kd.R_drewN | apply Kd.R_drew)); exact Kd.R_mono (f3 HO_280001.out BK296.out (by decide)) (fun _ hk => ⟨hk.1.1, hk.1.2.2.1⟩)⟩, ⟨by (with_reducible repeat (first | apply Kd.R_alloc | apply Kd.R_drewN | apply Kd.R_drew)); exact Kd.R_mono (f3 HO300.out BK296.out (by decide)) (fun _ hk => hk.1.1)⟩, ⟨by (with_reducible repeat (first | apply Kd.R_alloc | apply Kd.R_drewN | apply Kd.R_drew)); exact Kd.R_mono (f3 HO303.out BK296.out (by decide)) (fun _ hk => ⟨hk.1.1, hk.1.2.1⟩)⟩, ⟨by (with_reducible repeat (first | refine kN ?_ _ | refine kD ?_ | refine kA ?_ _)); refine blk_far ?_ NB279_296.out _; (with_reducible repeat (first | refine kN ?_ _ | refine kD ?_ | refine kA ?_ _)); refine blk_far ?_ NB279_296.out _; (with_reducible repeat (first | refine kN ?_ _ | refine kD ?_ | refine kA ?_ _)); refine blk_far ?_ NB279_296.out _; (with_reducible repeat (first | refine kN ?_ _ | refine kD ?_ | refine kA ?_ _)); exact BK279.out⟩, ⟨by (with_reducible repeat (first | refine kN ?_ _ | refine kD ?_ | refine kA ?_ _)); refine blk_put (cs := #[.slice Ao140 t298.length co140, .slice Ao144 t301.length co144, .int .i64 x297002_3]) ?_ 2 _ rfl; (with_reducible repeat (first | refine kN ?_ _ | refine kD ?_ | refine kA ?_ _)); refine blk_put (cs := #[.slice Ao140 t298.length co140, .slice Ao133 x297001_3.length co133, .int .i64 x297002_3]) ?_ 1 _ rfl; (with_reducible repeat (first | refine kN ?_ _ | refine kD ?_ | refine kA ?_ _)); refine blk_put (cs := #[.slice Ao132 x297000_3.length co132, .slice Ao133 x297001_3.length co133, .int .i64 x297002_3]) ?_ 0 _ rfl; (with_reducible repeat (first | refine kN ?_ _ | refine kD ?_ | refine kA ?_ _)); exact BK296.out⟩, ⟨by repeat (first | (with_reducible first | exact HB.out | apply bA | apply bN | apply bD | refine below_set ?_ GE279.out | refine below_set ?_ GE296.out | refine below_set ?_ GE312.out) | exact HB.out)⟩⟩
          replace c54 := Bool.eq_false_iff.mpr c54
          subst c54
          have H1 : (some false) = some r := by rw [if_neg (show ¬ (false = true) by decide)] at H; exact H
          clear H
          have H := H1
          clear H1
          obtain rfl := Option.some.inj H
          exact absurd hr_.out (by decide)
         rw [if_neg c48] at H
         have c48b0 : (t311 == 0) = false := beq_eq_false_iff_ne.mpr c48
         have c48b1 : (t311 != 0) = true := bne_iff_ne.mpr c48
         obtain rfl := Option.some.inj H
         exact absurd hr_.out (by decide)
        rw [if_neg c46] at H
        have c46b0 : (t297 == (wrap64 (x12_3 * t277))) = false := beq_eq_false_iff_ne.mpr c46
        have c46b1 : (t297 != (wrap64 (x12_3 * t277))) = true := bne_iff_ne.mpr c46
        obtain rfl := Option.some.inj H
        exact absurd hr_.out (by decide)
       rw [if_neg c44] at H
       have c44b0 : decide (x12_3 ≤ (t284.length : Int)) = false := decide_eq_false c44
       clear c44
       replace H := Option.bind_eq_some_iff.mp H
       obtain ⟨t323, A1500, H⟩ := H
       replace H : (if t323 = 1099511627776 then ((feeder_Failed.f k3 x297000_3 x297001_3 x297002_3).bind fun t324 => (if 0 ≤ (wrap64 ((t284.length : Int) - 1)) then (if (wrap64 ((t284.length : Int) - 1)) ≤ (t284.length : Int) then ((minecontrolref01_Ints.f k3 t324 (t284.drop ((wrap64 ((t284.length : Int) - 1)) : Int).toNat)).bind fun t331 => (if t331 = true then ((feeder_Live.f k3 x297000_3 x297001_3 x297002_3 t282).bind fun t332 => (if t332 = 0 then ((minecontrollaw18_awake.f k3).bind fun t333 => (some t333)) else (some false))) else (some false))) else (none)) else (none))) else (some false)) = some r := H
       have A150 := aM A1500
       clear A1500
       by_cases c151 : t323 = 1099511627776
       ·
        rw [if_pos c151] at H
        have c151b0 : (t323 == 1099511627776) = true := beq_iff_eq.mpr c151
        have c151b1 : (t323 != 1099511627776) = false := bne_eq_false_iff_eq.mpr c151
        clear c151
        replace H := Option.bind_eq_some_iff.mp H
        obtain ⟨t324, A1520, H⟩ := H
        replace H : (if 0 ≤ (wrap64 ((t284.length : Int) - 1)) then (if (wrap64 ((t284.length : Int) - 1)) ≤ (t284.length : Int) then ((minecontrolref01_Ints.f k3 t324 (t284.drop ((wrap64 ((t284.length : Int) - 1)) : Int).toNat)).bind fun t331 => (if t331 = true then ((feeder_Live.f k3 x297000_3 x297001_3 x297002_3 t282).bind fun t332 => (if t332 = 0 then ((minecontrollaw18_awake.f k3).bind fun t333 => (some t333)) else (some false))) else (some false))) else (none)) else (none)) = some r := H
        have A152 := aM A1520
        clear A1520
        obtain ⟨ji153, hji153⟩ : ∃ j_ : Int, (wrap64 ((t284.length : Int) - 1)) = j_ := ⟨_, rfl⟩
        replace H : (if 0 ≤ (ji153) then (if (ji153) ≤ (t284.length : Int) then ((minecontrolref01_Ints.f k3 t324 (t284.drop ((ji153) : Int).toNat)).bind fun t331 => (if t331 = true then ((feeder_Live.f k3 x297000_3 x297001_3 x297002_3 t282).bind fun t332 => (if t332 = 0 then ((minecontrollaw18_awake.f k3).bind fun t333 => (some t333)) else (some false))) else (some false))) else (none)) else (none)) = some r := by first | (rw [hji153] at H; exact H) | (simp only [hji153] at H ⊢; exact H)
        (try rw [hji153] at A150)
        (try rw [hji153] at A152)
        have hji153w : (IntKind.i64.wrap ((t284.length : Int) - 1)) = ji153 := (i64_w _).trans hji153
        by_cases c154 : 0 ≤ (ji153)
        rotate_left
        ·
         rw [if_neg c154] at H
         exact absurd H (by simp)
        rw [if_pos c154] at H
        have c154b0 := eq_true c154
        have c154b1 : decide (0 ≤ (ji153)) = true := decide_eq_true c154
        clear c154
        by_cases c155 : (ji153) ≤ (t284.length : Int)
        rotate_left
        ·
         rw [if_neg c155] at H
         exact absurd H (by simp)
        rw [if_pos c155] at H
        have c155b0 := eq_true c155
        have c155b1 : decide ((ji153) ≤ (t284.length : Int)) = true := decide_eq_true c155
        clear c155
        obtain ⟨y327, hy327⟩ : ∃ y_ : List Int, y_ = (t284.drop ((ji153) : Int).toNat) := ⟨_, rfl⟩
        replace H : ((minecontrolref01_Ints.f k3 t324 y327).bind fun t331 => (if t331 = true then ((feeder_Live.f k3 x297000_3 x297001_3 x297002_3 t282).bind fun t332 => (if t332 = 0 then ((minecontrollaw18_awake.f k3).bind fun t333 => (some t333)) else (some false))) else (some false))) = some r := by first | (rw [hy327]; with_reducible exact H) | (have H2_ := (Option.bind_some _ _).symm.trans H; rw [hy327]; with_reducible exact H2_) | (have H2_ := (Option.bind_some _ _).symm.trans H; with_reducible exact H2_) | with_reducible exact H | (rw [hy327]; exact H) | exact H
        have Ny327 := aM hy327
        clear hy327
        replace H := Option.bind_eq_some_iff.mp H
        obtain ⟨t331, A1560, H⟩ := H
        replace H : (if t331 = true then ((feeder_Live.f k3 x297000_3 x297001_3 x297002_3 t282).bind fun t332 => (if t332 = 0 then ((minecontrollaw18_awake.f k3).bind fun t333 => (some t333)) else (some false))) else (some false)) = some r := H
        have A156 := aM A1560
        clear A1560
        by_cases c157 : t331 = true
        ·
         subst c157
         have H1 : ((feeder_Live.f k3 x297000_3 x297001_3 x297002_3 t282).bind fun t332 => (if t332 = 0 then ((minecontrollaw18_awake.f k3).bind fun t333 => (some t333)) else (some false))) = some r := by rw [if_pos rfl] at H; exact H
         clear H
         have H := H1
         clear H1
         replace H := Option.bind_eq_some_iff.mp H
         obtain ⟨t332, A1580, H⟩ := H
         replace H : (if t332 = 0 then ((minecontrollaw18_awake.f k3).bind fun t333 => (some t333)) else (some false)) = some r := H
         have A158 := aM A1580
         clear A1580
         by_cases c159 : t332 = 0
         ·
          rw [if_pos c159] at H
          have c159b0 : (t332 == 0) = true := beq_iff_eq.mpr c159
          have c159b1 : (t332 != 0) = false := bne_eq_false_iff_eq.mpr c159
          clear c159
          replace H := Option.bind_eq_some_iff.mp H
          obtain ⟨t333, A1600, H⟩ := H
          replace H : (some t333) = some r := H
          have A160 := aM A1600
          clear A1600
          obtain rfl := Option.some.inj H
          obtain ⟨Ao161, co161, eo161⟩ := Kd.R_slice HO_9.out
          subst eo161
          try go_wp2
          replace HO_9 := aM (Kd.R_drew HO_9.out)
          replace HO_280000 := aM (Kd.R_drew HO_280000.out)
          replace HO_280001 := aM (Kd.R_drew HO_280001.out)
          replace HO_297000 := aM (Kd.R_drew HO_297000.out)
          replace HO_297001 := aM (Kd.R_drew HO_297001.out)
          replace BK279 := aM (blk_drew BK279.out)
          replace BK296 := aM (blk_drew BK296.out)
          replace HB := aM (below_drew1 HB.out)
          obtain ⟨Ao163, co163, eo163⟩ := Kd.R_slice HO_297000.out
          (first | subst eo163 | (injection eo163 with f1_ f2_ f3_; have f4_ := f1_.symm; have f5_ := f3_.symm; clear f1_ f2_ f3_; subst f4_; subst f5_))
          obtain ⟨Ao164, co164, eo164⟩ := Kd.R_slice HO_297001.out
          (first | subst eo164 | (injection eo164 with f1_ f2_ f3_; have f4_ := f1_.symm; have f5_ := f3_.symm; clear f1_ f2_ f3_; subst f4_; subst f5_))
          refine start_ (n := 23) (S := fun w' => w'.cell? ⟨gb296, 0, none⟩ = some (.slice Ao163 x297000_3.length co163) ∧ w'.cell? ⟨gb296, 1, none⟩ = some (.slice Ao164 x297001_3.length co164) ∧ w'.cell? ⟨gb296, 2, none⟩ = some (.int .i64 x297002_3)) (ds := []) #[false, false, false, false, false, false, false, false, false, false, false, false, false, false, false, false, false, false, false, false, false, false, false] (by kernel_rfl) rfl rfl ⟨(blk_cell BK296.out 0).trans rfl, (blk_cell BK296.out 1).trans rfl, (blk_cell BK296.out 2).trans rfl⟩ (fun hHeld => ?_); refine with_tabW minecontrollaw18_FeederChain.tab22 minecontrollaw18_FeederChain.bits22 (fun HT_ HW_ => ?_)
          generalize wr.drew = w162 at HO_9 HO_280000 HO_280001 HO_297000 HO_297001 BK279 BK296 HB hHeld ⊢
          have q167 : ((ji153) : Int) ≤ ((t284.length : Int) : Int) := of_decide_eq_true (by first | (with_reducible assumption) | assumption)
          obtain ⟨i0167, hi0167, _, hsz167, _⟩ := info_parts info3
          have q0167 : (0 : Int) ≤ ((ji153) : Int) := of_decide_eq_true (by first | (with_reducible assumption) | assumption)
          have hcut167 := cut_from (P := Try.prog) 26 3 .i64 Try.underlying26 hi0167 1 hsz167 Ao161 t284.length co161 (ji153) q0167 q167
          obtain ⟨A167, hA167⟩ : ∃ A1, A1 = (if co161 = ((ji153) : Int).toNat then Ao161 else (Ao161 : Option Addr).map (·.add (((ji153) : Int).toNat * 1))) := ⟨_, rfl⟩
          obtain ⟨c167, hc167⟩ : ∃ c1, c1 = co161 - ((ji153) : Int).toNat := ⟨_, rfl⟩
          have hy167 : y327.length = t284.length - ((ji153) : Int).toNat := (by rw [Ny327.out, List.length_drop] <;> omega)
          rw [← hy167, ← hA167, ← hc167] at hcut167
          refine take_ (i := 0) (N := some 134) (v := ?_) (a' := ?_) #[true, false, false, false, false, false, false, false, false, false, false, false, false, false, false, false, false, false, false, false, false, false, false] rfl rfl (take_ofW HT_.out HW_.out (by kernel_rfl)) (fun _ _ _ h => h) (Or.inl ⟨by rfl, ?_⟩) hHeld ?_ ?_
          rotate_left
          ·
           rintro w' ⟨s0, s1, s2⟩
           go_simp
           with_reducible rfl
          rotate_left
          ·
           simp only [Act.put, sT, sZ, sS, i64_w, i32_w]
           rfl
          refine one_ (i := 1) (N := some 135) #[true, true, false, false, false, false, false, false, false, false, false, false, false, false, false, false, false, false, false, false, false, false, false] rfl rfl (one_of HT_.out (by kernel_rfl)) (by decide) (fun K hK => ?_)
          refine goes_ Try.func15 (by kernel_rfl) rfl #[.agg #[.slice Ao163 x297000_3.length co163, .slice Ao164 x297001_3.length co164, .int .i64 x297002_3]] (by rfl) rfl rfl (by first | rfl | (simp only [List.map_toArray, List.map_cons, List.map_nil, List.length_drop, List.length_take]; try rfl)) ?_
          with_reducible refine (feeder_Due.calls k3 _ _ x297000_3 _ _ x297001_3 x297002_3 t323 _ ?side1 ?side2 ?side3 ?side4 A150.out).mono ?_
          (case side1 => exact C_mv (Kd.R_reads' HO_297000.out).2.2)
          (case side2 => exact (Kd.R_reads' HO_297000.out).2.1)
          (case side3 => exact C_mv (Kd.R_reads' HO_297001.out).2.2)
          (case side4 => exact (Kd.R_reads' HO_297001.out).2.1)
          rintro e w165 ⟨rfl, hb⟩
          refine ⟨_, rfl, ?_⟩
          replace HO_9 := aM (Kd.R_below (R_mv HO_9.out) hb)
          replace HO_280000 := aM (Kd.R_below (R_mv HO_280000.out) hb)
          replace HO_280001 := aM (Kd.R_below (R_mv HO_280001.out) hb)
          replace HO_297000 := aM (Kd.R_below (R_mv HO_297000.out) hb)
          replace HO_297001 := aM (Kd.R_below (R_mv HO_297001.out) hb)
          replace BK279 := aM (blk_below (blk_mv BK279.out) hb)
          replace BK296 := aM (blk_below (blk_mv BK296.out) hb)
          replace HB := aM (below_step (by repeat (first | (with_reducible first | exact HB.out | apply bA | apply bN | apply bD | refine below_set ?_ GE279.out | refine below_set ?_ GE296.out) | exact HB.out)) hb)
          (try clear hb)
          (try clear hb2)
          (try clear hge)
          (try clear hk)
          (try clear hi)
          refine hK.out _ _ ⟨(blk_cell BK296.out 0).trans rfl, (blk_cell BK296.out 1).trans rfl, (blk_cell BK296.out 2).trans rfl⟩ (fun hHeld => ?_)
          clear hK K
          refine norm_ (a' := ?_) ?_ ?_
          rotate_left
          ·
           show Act.put _ (some 135) _ = _
           simp only [Act.put, sT, sZ, sS, i64_w, i32_w]
           rfl
          refine pure_ (i := 2) (N := some 136) (v := ?_) (a' := ?_) #[true, true, true, false, false, false, false, false, false, false, false, false, false, false, false, false, false, false, false, false, false, false, false] rfl rfl (any_of HT_.out (by kernel_rfl)) (fun _ _ _ h => h) (Or.inl ⟨by rfl, ?_⟩) ?_ ?_
          rotate_left
          ·
           intro w'
           go_simp
           first | (rw [show (if co161 = ((ji153) : Int).toNat then Ao161 else Option.map (fun x => x.add ((ji153) : Int).toNat) Ao161) = A167 from by rw [hA167]; simp only [Nat.mul_one], ← hy167, ← hc167]) | with_reducible rfl
          rotate_left
          ·
           simp only [Act.put, sT, sZ, sS, i64_w, i32_w]
           rfl
          refine pure_ (i := 3) (N := some 137) (v := ?_) (a' := ?_) #[true, true, true, true, false, false, false, false, false, false, false, false, false, false, false, false, false, false, false, false, false, false, false] rfl rfl (any_of HT_.out (by kernel_rfl)) (fun _ _ _ h => h) (Or.inl ⟨by rfl, ?_⟩) ?_ ?_
          rotate_left
          ·
           intro w'
           go_simp
           first | (rw [show (if co161 = ((ji153) : Int).toNat then Ao161 else Option.map (fun x => x.add ((ji153) : Int).toNat) Ao161) = A167 from by rw [hA167]; simp only [Nat.mul_one], ← hy167, ← hc167]) | with_reducible rfl
          rotate_left
          ·
           simp only [Act.put, sT, sZ, sS, i64_w, i32_w]
           rfl
          refine pure_ (i := 6) (N := some 140) (v := ?_) (a' := ?_) #[true, true, true, true, false, false, true, false, false, false, false, false, false, false, false, false, false, false, false, false, false, false, false] rfl rfl (any_of HT_.out (by kernel_rfl)) (fun _ _ _ h => h) (Or.inl ⟨by rfl, ?_⟩) ?_ ?_
          rotate_left
          ·
           intro w'
           go_simp
           first | (rw [show (if co161 = ((ji153) : Int).toNat then Ao161 else Option.map (fun x => x.add ((ji153) : Int).toNat) Ao161) = A167 from by rw [hA167]; simp only [Nat.mul_one], ← hy167, ← hc167]) | with_reducible rfl
          rotate_left
          ·
           simp only [Act.put, sT, sZ, sS, i64_w, i32_w]
           rfl
          refine pure_ (i := 7) (N := some 141) (v := ?_) (a' := ?_) #[true, true, true, true, false, false, true, true, false, false, false, false, false, false, false, false, false, false, false, false, false, false, false] rfl rfl (any_of HT_.out (by kernel_rfl)) (fun _ _ _ h => h) (Or.inl ⟨by rfl, ?_⟩) ?_ ?_
          rotate_left
          ·
           intro w'
           go_simp
           first | (rw [show (if co161 = ((ji153) : Int).toNat then Ao161 else Option.map (fun x => x.add ((ji153) : Int).toNat) Ao161) = A167 from by rw [hA167]; simp only [Nat.mul_one], ← hy167, ← hc167]) | with_reducible rfl
          rotate_left
          ·
           simp only [Act.put, sT, sZ, sS, i64_w, i32_w]
           rfl
          refine pure_ (i := 8) (N := some 142) (v := ?_) (a' := ?_) #[true, true, true, true, false, false, true, true, true, false, false, false, false, false, false, false, false, false, false, false, false, false, false] rfl rfl (any_of HT_.out (by kernel_rfl)) (fun _ _ _ h => h) (Or.inl ⟨by rfl, ?_⟩) ?_ ?_
          rotate_left
          ·
           intro w'
           go_simp
           first | (rw [show (if co161 = ((ji153) : Int).toNat then Ao161 else Option.map (fun x => x.add ((ji153) : Int).toNat) Ao161) = A167 from by rw [hA167]; simp only [Nat.mul_one], ← hy167, ← hc167]) | with_reducible rfl
          rotate_left
          ·
           simp only [Act.put, sT, sZ, sS, i64_w, i32_w]
           rfl
          refine pure_ (i := 9) (N := some 143) (v := ?_) (a' := ?_) #[true, true, true, true, false, false, true, true, true, true, false, false, false, false, false, false, false, false, false, false, false, false, false] rfl rfl (any_of HT_.out (by kernel_rfl)) (fun _ _ _ h => h) (Or.inl ⟨by rfl, ?_⟩) ?_ ?_
          rotate_left
          ·
           intro w'
           go_simp
           first | (rw [show (if co161 = ((ji153) : Int).toNat then Ao161 else Option.map (fun x => x.add ((ji153) : Int).toNat) Ao161) = A167 from by rw [hA167]; simp only [Nat.mul_one], ← hy167, ← hc167]) | with_reducible rfl
          rotate_left
          ·
           simp only [Act.put, sT, sZ, sS, i64_w, i32_w]
           rfl
          refine pure_ (i := 10) (N := some 144) (v := ?_) (a' := ?_) #[true, true, true, true, false, false, true, true, true, true, true, false, false, false, false, false, false, false, false, false, false, false, false] rfl rfl (any_of HT_.out (by kernel_rfl)) (fun _ _ _ h => h) (Or.inl ⟨by rfl, ?_⟩) ?_ ?_
          rotate_left
          ·
           intro w'
           go_simp
           first | (rw [show (if co161 = ((ji153) : Int).toNat then Ao161 else Option.map (fun x => x.add ((ji153) : Int).toNat) Ao161) = A167 from by rw [hA167]; simp only [Nat.mul_one], ← hy167, ← hc167]) | with_reducible rfl
          rotate_left
          ·
           simp only [Act.put, sT, sZ, sS, i64_w, i32_w]
           rfl
          refine take_ (i := 4) (N := some 138) (v := ?_) (a' := ?_) #[true, true, true, true, true, false, true, true, true, true, true, false, false, false, false, false, false, false, false, false, false, false, false] rfl rfl (take_ofW HT_.out HW_.out (by kernel_rfl)) (fun _ _ _ h => h) (Or.inl ⟨by rfl, ?_⟩) hHeld ?_ ?_
          rotate_left
          ·
           rintro w' ⟨s0, s1, s2⟩
           go_simp
           with_reducible rfl
          rotate_left
          ·
           simp only [Act.put, sT, sZ, sS, i64_w, i32_w]
           rfl
          refine one_ (i := 5) (N := some 139) #[true, true, true, true, true, true, true, true, true, true, true, false, false, false, false, false, false, false, false, false, false, false, false] rfl rfl (one_of HT_.out (by kernel_rfl)) (by decide) (fun K hK => ?_)
          refine goes_ Try.func18 (by kernel_rfl) rfl #[.agg #[.slice Ao163 x297000_3.length co163, .slice Ao164 x297001_3.length co164, .int .i64 x297002_3]] (by rfl) rfl rfl (by first | rfl | (simp only [List.map_toArray, List.map_cons, List.map_nil, List.length_drop, List.length_take]; try rfl)) ?_
          with_reducible refine (feeder_Failed.calls k3 _ _ x297000_3 _ _ x297001_3 x297002_3 t324 _ ?side1 ?side2 ?side3 ?side4 A152.out).mono ?_
          (case side1 => exact C_mv (Kd.R_reads' HO_297000.out).2.2)
          (case side2 => exact (Kd.R_reads' HO_297000.out).2.1)
          (case side3 => exact C_mv (Kd.R_reads' HO_297001.out).2.2)
          (case side4 => exact (Kd.R_reads' HO_297001.out).2.1)
          rintro e w166 ⟨v325, rfl, ho0, hb⟩
          refine ⟨_, rfl, ?_⟩
          replace HO_280000 := aM (Kd.R_below (R_mv HO_280000.out) hb)
          replace HO_297000 := aM (Kd.R_below (R_mv HO_297000.out) hb)
          have HO326 := aM (Kd.R_lower (Kd.R_new' (Kd.R_new' (Kd.R_new' ho0 (Kd.R_lt (R_mv HO_9.out))) (Kd.R_lt (R_mv HO_280001.out))) (Kd.R_lt (R_mv HO_297001.out))) (below_size (by repeat (first | (with_reducible first | exact HB.out | apply bA | apply bN | apply bD | refine below_set ?_ GE279.out | refine below_set ?_ GE296.out) | exact HB.out))))
          replace HO_9 := aM (Kd.R_elder' (R_mv HO_9.out) (Kd.R_base ho0) hb)
          replace HO_280001 := aM (Kd.R_elder' (R_mv HO_280001.out) (Kd.R_base ho0) hb)
          replace HO_297001 := aM (Kd.R_elder' (R_mv HO_297001.out) (Kd.R_base ho0) hb)
          replace BK279 := aM (blk_below (blk_mv BK279.out) hb)
          replace BK296 := aM (blk_below (blk_mv BK296.out) hb)
          replace HB := aM (below_step (by repeat (first | (with_reducible first | exact HB.out | apply bA | apply bN | apply bD | refine below_set ?_ GE279.out | refine below_set ?_ GE296.out) | exact HB.out)) hb)
          (try clear hb)
          (try clear hb2)
          (try clear hge)
          (try clear hk)
          (try clear hi)
          (try clear ho0)
          have hroom167 : t284.length ≤ co161 := (Kd.R_reads' HO_9.out).2.1
          have hC167 : Kd.C (Kd.int .i64) _ Ao161 t284.length t284 := (Kd.R_reads' HO_9.out).2.2
          have hr167 := Kd.C_drop (m := ((ji153) : Int).toNat) (c := co161) hC167 (by omega) hroom167
          rw [show (t284).drop ((ji153) : Int).toNat = y327 from Ny327.out.symm] at hr167
          replace hr167 : Kd.C (Kd.int .i64) _ A167 y327.length y327 := (by rw [hA167]; exact hr167)
          have HR330 := aM hr167
          have HC330 := aM (show y327.length ≤ c167 from by rw [hy167, hc167]; exact Nat.sub_le_sub_right hroom167 _)
          clear hr167 hC167 hroom167 hi0167 hsz167 hc167
          have KY167 := aM hy167
          have KA167 := aM hA167
          clear hy167 hA167
          have KL167 := aM (show ((ji153) : Int).toNat ≤ t284.length from by omega)
          replace q167 := eq_true q167
          obtain ⟨Ao168, co168, eo168⟩ := Kd.R_slice HO326.out
          (first | subst eo168 | (injection eo168 with f1_ f2_ f3_; have f4_ := f1_.symm; have f5_ := f3_.symm; clear f1_ f2_ f3_; subst f4_; subst f5_))
          refine hK.out _ _ ⟨(blk_cell BK296.out 0).trans rfl, (blk_cell BK296.out 1).trans rfl, (blk_cell BK296.out 2).trans rfl⟩ (fun hHeld => ?_)
          clear hK K
          refine norm_ (a' := ?_) ?_ ?_
          rotate_left
          ·
           show Act.put _ (some 139) _ = _
           simp only [Act.put, sT, sZ, sS, i64_w, i32_w]
           rfl
          refine one_ (i := 11) (N := some 145) #[true, true, true, true, true, true, true, true, true, true, true, true, false, false, false, false, false, false, false, false, false, false, false] rfl rfl (one_of HT_.out (by kernel_rfl)) (by decide) (fun K hK => ?_)
          refine goes_ Try.func17 (by kernel_rfl) rfl #[.slice Ao168 t324.length co168, .slice A167 y327.length c167] (by rfl) rfl rfl (by first | rfl | (simp only [List.map_toArray, List.map_cons, List.map_nil, List.length_drop, List.length_take]; try rfl)) ?_
          with_reducible refine (minecontrolref01_Ints.calls k3 _ _ t324 _ _ y327 true _ ?side1 ?side2 ?side3 ?side4 A156.out).mono ?_
          (case side1 => exact C_mv (Kd.R_reads' HO326.out).2.2)
          (case side2 => exact (Kd.R_reads' HO326.out).2.1)
          (case side3 => repeat (first | exact (C_mv HR330.out) | (with_reducible refine Kd.C_alloc ?_ _) | (with_reducible refine Kd.C_drewN ?_ _) | (with_reducible refine Kd.C_drew ?_)))
          (case side4 => exact HC330.out)
          rintro e w' ⟨rfl, ⟨nd, rfl⟩⟩
          refine ⟨_, rfl, ?_⟩
          refine hK.out _ _ ⟨(blk_cell BK296.out 0).trans rfl, (blk_cell BK296.out 1).trans rfl, (blk_cell BK296.out 2).trans rfl⟩ (fun hHeld => ?_)
          clear hK K
          refine norm_ (a' := ?_) ?_ ?_
          rotate_left
          ·
           show Act.put _ (some 145) _ = _
           simp only [Act.put, sT, sZ, sS, i64_w, i32_w]
           rfl
          refine pure_ (i := 12) (N := some 146) (v := ?_) (a' := ?_) #[true, true, true, true, true, true, true, true, true, true, true, true, true, false, false, false, false, false, false, false, false, false, false] rfl rfl (any_of HT_.out (by kernel_rfl)) (fun _ _ _ h => h) (Or.inl ⟨by rfl, ?_⟩) ?_ ?_
          rotate_left
          ·
           intro w'
           go_simp
           with_reducible rfl
          rotate_left
          ·
           simp only [Act.put, sT, sZ, sS, i64_w, i32_w]
           rfl
          refine pure_ (i := 13) (N := some 147) (v := ?_) (a' := ?_) #[true, true, true, true, true, true, true, true, true, true, true, true, true, true, false, false, false, false, false, false, false, false, false] rfl rfl (any_of HT_.out (by kernel_rfl)) (fun _ _ _ h => h) (Or.inl ⟨by rfl, ?_⟩) ?_ ?_
          rotate_left
          ·
           intro w'
           go_simp
           with_reducible rfl
          rotate_left
          ·
           simp only [Act.put, sT, sZ, sS, i64_w, i32_w]
           rfl
          refine pure_ (i := 15) (N := some 149) (v := ?_) (a' := ?_) #[true, true, true, true, true, true, true, true, true, true, true, true, true, true, false, true, false, false, false, false, false, false, false] rfl rfl (any_of HT_.out (by kernel_rfl)) (fun _ _ _ h => h) (Or.inl ⟨by rfl, ?_⟩) ?_ ?_
          rotate_left
          ·
           intro w'
           go_simp
           with_reducible rfl
          rotate_left
          ·
           simp only [Act.put, sT, sZ, sS, i64_w, i32_w]
           rfl
          refine take_ (i := 14) (N := some 148) (v := ?_) (a' := ?_) #[true, true, true, true, true, true, true, true, true, true, true, true, true, true, true, true, false, false, false, false, false, false, false] rfl rfl (take_ofW HT_.out HW_.out (by kernel_rfl)) (fun _ _ _ h => h) (Or.inl ⟨by rfl, ?_⟩) hHeld ?_ ?_
          rotate_left
          ·
           rintro w' ⟨s0, s1, s2⟩
           go_simp
           with_reducible rfl
          rotate_left
          ·
           simp only [Act.put, sT, sZ, sS, i64_w, i32_w]
           rfl
          refine one_ (i := 16) (N := some 150) #[true, true, true, true, true, true, true, true, true, true, true, true, true, true, true, true, true, false, false, false, false, false, false] rfl rfl (one_of HT_.out (by kernel_rfl)) (by decide) (fun K hK => ?_)
          refine goes_ Try.func19 (by kernel_rfl) rfl #[.agg #[.slice Ao163 x297000_3.length co163, .slice Ao164 x297001_3.length co164, .int .i64 x297002_3], .int .i64 t282] (by rfl) rfl rfl (by first | rfl | (simp only [List.map_toArray, List.map_cons, List.map_nil, List.length_drop, List.length_take]; try rfl)) ?_
          with_reducible refine (feeder_Live.calls k3 _ _ x297000_3 _ _ x297001_3 x297002_3 t282 t332 _ ?side1 ?side2 ?side3 ?side4 A158.out).mono ?_
          (case side1 => exact C_mv (Kd.R_reads' HO_297000.out).2.2)
          (case side2 => exact (Kd.R_reads' HO_297000.out).2.1)
          (case side3 => exact C_mv (Kd.R_reads' HO_297001.out).2.2)
          (case side4 => exact (Kd.R_reads' HO_297001.out).2.1)
          rintro e w169 ⟨rfl, hb⟩
          refine ⟨_, rfl, ?_⟩
          replace HO_9 := aM (Kd.R_below (R_mv HO_9.out) hb)
          replace HO_280000 := aM (Kd.R_below (R_mv HO_280000.out) hb)
          replace HO_280001 := aM (Kd.R_below (R_mv HO_280001.out) hb)
          replace HO_297000 := aM (Kd.R_below (R_mv HO_297000.out) hb)
          replace HO_297001 := aM (Kd.R_below (R_mv HO_297001.out) hb)
          replace HO326 := aM (Kd.R_below (R_mv HO326.out) hb)
          replace BK279 := aM (blk_below (blk_mv BK279.out) hb)
          replace BK296 := aM (blk_below (blk_mv BK296.out) hb)
          replace HR330 := aM (Kd.C_below (C_mv HR330.out) hb)
          replace HB := aM (below_step (by repeat (first | (with_reducible first | exact HB.out | apply bA | apply bN | apply bD | refine below_set ?_ GE279.out | refine below_set ?_ GE296.out) | exact HB.out)) hb)
          (try clear hb)
          (try clear hb2)
          (try clear hge)
          (try clear hk)
          (try clear hi)
          refine hK.out _ _ ⟨(blk_cell BK296.out 0).trans rfl, (blk_cell BK296.out 1).trans rfl, (blk_cell BK296.out 2).trans rfl⟩ (fun hHeld => ?_)
          clear hK K
          refine norm_ (a' := ?_) ?_ ?_
          rotate_left
          ·
           show Act.put _ (some 150) _ = _
           simp only [Act.put, sT, sZ, sS, i64_w, i32_w]
           rfl
          refine pure_ (i := 17) (N := some 151) (v := ?_) (a' := ?_) #[true, true, true, true, true, true, true, true, true, true, true, true, true, true, true, true, true, true, false, false, false, false, false] rfl rfl (any_of HT_.out (by kernel_rfl)) (fun _ _ _ h => h) (Or.inl ⟨by rfl, ?_⟩) ?_ ?_
          rotate_left
          ·
           intro w'
           go_simp
           with_reducible rfl
          rotate_left
          ·
           simp only [Act.put, sT, sZ, sS, i64_w, i32_w]
           rfl
          refine pure_ (i := 18) (N := some 152) (v := ?_) (a' := ?_) #[true, true, true, true, true, true, true, true, true, true, true, true, true, true, true, true, true, true, true, false, false, false, false] rfl rfl (any_of HT_.out (by kernel_rfl)) (fun _ _ _ h => h) (Or.inl ⟨by rfl, ?_⟩) ?_ ?_
          rotate_left
          ·
           intro w'
           go_simp
           with_reducible rfl
          rotate_left
          ·
           simp only [Act.put, sT, sZ, sS, i64_w, i32_w]
           rfl
          refine pure_ (i := 19) (N := some 153) (v := ?_) (a' := ?_) #[true, true, true, true, true, true, true, true, true, true, true, true, true, true, true, true, true, true, true, true, false, false, false] rfl rfl (any_of HT_.out (by kernel_rfl)) (fun _ _ _ h => h) (Or.inl ⟨by rfl, ?_⟩) ?_ ?_
          rotate_left
          ·
           intro w'
           go_simp
           with_reducible rfl
          rotate_left
          ·
           simp only [Act.put, sT, sZ, sS, i64_w, i32_w]
           rfl
          refine one_ (i := 20) (N := some 154) #[true, true, true, true, true, true, true, true, true, true, true, true, true, true, true, true, true, true, true, true, true, false, false] rfl rfl (one_of HT_.out (by kernel_rfl)) (by decide) (fun K hK => ?_)
          refine goes_ Try.func20 (by kernel_rfl) rfl #[] (by rfl) rfl rfl (by first | rfl | (simp only [List.map_toArray, List.map_cons, List.map_nil, List.length_drop, List.length_take]; try rfl)) ?_
          with_reducible refine (minecontrollaw18_awake.calls k3  t333 _ A160.out).mono ?_
          rintro e w170 ⟨rfl, hb⟩
          refine ⟨_, rfl, ?_⟩
          replace HO_9 := aM (Kd.R_below (R_mv HO_9.out) hb)
          replace HO_280000 := aM (Kd.R_below (R_mv HO_280000.out) hb)
          replace HO_280001 := aM (Kd.R_below (R_mv HO_280001.out) hb)
          replace HO_297000 := aM (Kd.R_below (R_mv HO_297000.out) hb)
          replace HO_297001 := aM (Kd.R_below (R_mv HO_297001.out) hb)
          replace HO326 := aM (Kd.R_below (R_mv HO326.out) hb)
          replace BK279 := aM (blk_below (blk_mv BK279.out) hb)
          replace BK296 := aM (blk_below (blk_mv BK296.out) hb)
          replace HR330 := aM (Kd.C_below (C_mv HR330.out) hb)
          replace HB := aM (below_step (by repeat (first | (with_reducible first | exact HB.out | apply bA | apply bN | apply bD | refine below_set ?_ GE279.out | refine below_set ?_ GE296.out) | exact HB.out)) hb)
          (try clear hb)
          (try clear hb2)
          (try clear hge)
          (try clear hk)
          (try clear hi)
          refine hK.out _ _ ⟨(blk_cell BK296.out 0).trans rfl, (blk_cell BK296.out 1).trans rfl, (blk_cell BK296.out 2).trans rfl⟩ (fun hHeld => ?_)
          clear hK K
          refine norm_ (a' := ?_) ?_ ?_
          rotate_left
          ·
           show Act.put _ (some 154) _ = _
           simp only [Act.put, sT, sZ, sS, i64_w, i32_w]
           rfl
          refine pure_ (i := 21) (N := some 155) (v := ?_) (a' := ?_) #[true, true, true, true, true, true, true, true, true, true, true, true, true, true, true, true, true, true, true, true, true, true, false] rfl rfl (any_of HT_.out (by kernel_rfl)) (fun _ _ _ h => h) (Or.inl ⟨by rfl, ?_⟩) ?_ ?_
          rotate_left
          ·
           intro w'
           go_simp
           with_reducible rfl
          rotate_left
          ·
           simp only [Act.put, sT, sZ, sS, i64_w, i32_w]
           rfl
          refine pure_ (i := 22) (N := some 4) (v := ?_) (a' := ?_) #[true, true, true, true, true, true, true, true, true, true, true, true, true, true, true, true, true, true, true, true, true, true, true] rfl rfl (any_of HT_.out (by kernel_rfl)) (fun _ _ _ h => h) (Or.inl ⟨by rfl, ?_⟩) ?_ ?_
          rotate_left
          ·
           intro w'
           go_simp
           with_reducible rfl
          rotate_left
          ·
           simp only [Act.put, sT, sZ, sS, i64_w, i32_w]
           rfl
          refine done_ (done_of HT_.out (by kernel_rfl)) ?_
          try go_wp2
          go_ret
          exact ⟨by first | rfl | (simp [errW_none, errW_some] <;> rfl) | (simp only [← hji153]; first | rfl | (simp [errW_none, errW_some] <;> rfl)) | (simp [*, errW_none, errW_some] <;> rfl), by repeat (first | (with_reducible first | exact HB.out | apply bA | apply bN | apply bD | refine below_set ?_ GE279.out | refine below_set ?_ GE296.out) | exact HB.out)⟩
         rw [if_neg c159] at H
         have c159b0 : (t332 == 0) = false := beq_eq_false_iff_ne.mpr c159
         have c159b1 : (t332 != 0) = true := bne_iff_ne.mpr c159
         obtain rfl := Option.some.inj H
         exact absurd hr_.out (by decide)
        replace c157 := Bool.eq_false_iff.mpr c157
        subst c157
        have H1 : (some false) = some r := by rw [if_neg (show ¬ (false = true) by decide)] at H; exact H
        clear H
        have H := H1
        clear H1
        obtain rfl := Option.some.inj H
        exact absurd hr_.out (by decide)
       rw [if_neg c151] at H
       have c151b0 : (t323 == 1099511627776) = false := beq_eq_false_iff_ne.mpr c151
       have c151b1 : (t323 != 1099511627776) = true := bne_iff_ne.mpr c151
       obtain rfl := Option.some.inj H
       exact absurd hr_.out (by decide)

/-- THE ONE PURE STATEMENT of minecontrollaw18_FeederChain: yours. -/
def minecontrollaw18_FeederChain.Pure : Prop := ∀ (l0 : List Int) (a1 : Int), l0.length ≤ maxLen → l0.length * 1 ≤ 140737488351232 → (∀ x ∈ l0, (Lit.int .u8 x).wf = true) → (Lit.int .i64 a1).wf = true → ∃ k, minecontrollaw18_FeederChain.f k l0 a1 = some true
theorem minecontrollaw18_FeederChain.walk (P : minecontrollaw18_FeederChain.Pure) (a0 : Option Addr) (len0 cap0 : Nat) (z0 : List Int) (a1 : Int) (w : World) (w0 : (a0 = none ∧ len0 = 0 ∧ cap0 = 0 ∧ z0 = []) ∨ ∃ x, a0 = some x ∧ len0 ≤ cap0 ∧ cap0 ≤ maxLen ∧ z0.length = cap0 ∧ (∀ i, i < z0.length → w.cell? (x.add i) = some (.int .u8 (z0.getD i 0))) ∧ ∀ n ∈ z0, (Lit.int .u8 n).wf = true) (y0 : len0 * 1 ≤ 140737488351232) (w1 : (Lit.int .i64 a1).wf = true) :
  Calls Try.prog 3 #[.slice a0 len0 cap0, .int .i64 a1] w fun e w' => e = .returned (.bool true) ∧ Below w.heap.size w w' := by
 obtain ⟨l0, rfl, hr0, hm0, hw0, hc0⟩ := ReadsInt.ofRowC w0
 obtain ⟨k, h⟩ := P l0 a1 hm0 y0 hw0 w1
 refine (minecontrollaw18_FeederChain.calls1 k _ _ l0 a1 true w (Kd.C_of_reads (d := (0 : Int)) (h1 := fun _ => rfl) hr0) hc0 (.mk rfl) h).mono ?_
 rintro e w' ⟨rfl, hd⟩
 exact ⟨rfl, hd⟩

end Go.Proofs.Ytcgeflbifbaecaa.PFeh
