/- Functions of the given program as Lean functions, and proofs that its calls come to what these say. Written by a program of this seat (wip/mkprint.py); Lean checks it all. -/
import Derived.Test.YtcgeflbifbaecaaPFesx0
import Derived.Test.YtcgeflbifbaecaaPFesx2
import Derived.Test.YtcgeflbifbaecaaPFesx3
import Derived.Test.YtcgeflbifbaecaaPFesx4
import Derived.Test.YtcgeflbifbaecaaPFesx5
import Derived.Test.YtcgeflbifbaecaaPFesx6
import Derived.Test.YtcgeflbifbaecaaPFesx7
import Derived.Test.YtcgeflbifbaecaaPFesx8
import Derived.Test.YtcgeflbifbaecaaPFesx10
import Derived.Test.YtcgeflbifbaecaaPFesx11
namespace Go.Proofs.Ytcgeflbifbaecaa.PFes
open Go.RowKit Go.Proofs.YtcgeflbifbaecaaW.PrintWords Go.Proofs.YtcgeflbifbaecaaW.PrintLast Go.Proofs.YtcgeflbifbaecaaW.PrintMore
attribute [local go_sem] max2_int min2_int max_two min_two max_three min_three max_four min_four   -- for this text's walks alone
set_option linter.unusedVariables false
set_option linter.unusedSimpArgs false

/-! ### minecontrollaw18_FeederStories: function 4 -/
mutual
def minecontrollaw18_FeederStories.l0 : Nat → Int → List (S49) → Int → Int → List (S32) → List Int → Int → Option (Bool)
 | 0, _, _, _, _, _, _, _ => none
 | k + 1, x5, x34, x35, x36, x391000, x391001, x391002 => if x36 < x35 then (if 0 ≤ x36 then (if x36 < (x34.length : Int) then ((minecontrollaw18_done.f k x391000 x391001 x391002 ((rd_T49 x34 x36).f0) ((rd_T49 x34 x36).f1) ((rd_T49 x34 x36).f2) (wrap64 (x5 + ((rd_T49 x34 x36).f2)))).bind fun bt398 => (if bt398.2.2.2 = 0 then (minecontrollaw18_FeederStories.j1 k (wrap64 (x5 + ((rd_T49 x34 x36).f2))) x34 x35 x36 bt398.1 bt398.2.1 bt398.2.2.1) else (minecontrollaw18_FeederStories.j1 k (wrap64 (x5 + ((rd_T49 x34 x36).f2))) x34 x35 x36 x391000 x391001 x391002))) else (none)) else (none)) else ((minecontrollaw18_awake.f k).bind fun t395 => (some t395))
def minecontrollaw18_FeederStories.j1 : Nat → Int → List (S49) → Int → Int → List (S32) → List Int → Int → Option (Bool)
 | 0, _, _, _, _, _, _, _ => none
 | k + 1, x5, x34, x35, x36, x391000, x391001, x391002 => (feeder_Check.f k x391000 x391001 x391002).bind fun t407 => (if t407 = 0 then ((feeder_Due.f k x391000 x391001 x391002).bind fun t408 => (if t408 < 1099511627776 then (if t408 < x5 then (minecontrollaw18_FeederStories.j2 k x5 t408 x5 x34 x35 x36 x391000 x391001 x391002) else (minecontrollaw18_FeederStories.j2 k x5 t408 t408 x34 x35 x36 x391000 x391001 x391002)) else (minecontrollaw18_FeederStories.j4 k x5 x34 x35 x36 x391000 x391001 x391002))) else (some false))
def minecontrollaw18_FeederStories.j4 : Nat → Int → List (S49) → Int → Int → List (S32) → List Int → Int → Option (Bool)
 | 0, _, _, _, _, _, _, _ => none
 | k + 1, x5, x34, x35, x36, x391000, x391001, x391002 => minecontrollaw18_FeederStories.l1 k x5 x34 x35 x36 x391001 (x391001.length : Int) 0 x391000 x391001 x391002
def minecontrollaw18_FeederStories.l1 : Nat → Int → List (S49) → Int → Int → List Int → Int → Int → List (S32) → List Int → Int → Option (Bool)
 | 0, _, _, _, _, _, _, _, _, _, _ => none
 | k + 1, x5, x34, x35, x36, x102, x103, x104, x391000, x391001, x391002 => if x104 < x103 then (if 0 ≤ x104 then (if x104 < (x102.length : Int) then ((feeder_Path.f k x391000 x391001 x391002 (rd x102 x104)).bind fun t442 => (minecontrollaw18_FeederStories.l2 k x5 x104 false true x34 x35 x36 x102 x103 x104 t442 (t442.length : Int) 0 x391000 x391001 x391002)) else (none)) else (none)) else (minecontrollaw18_FeederStories.l0 k x5 x34 x35 (wrap64 (x36 + 1)) x391000 x391001 x391002)
def minecontrollaw18_FeederStories.l2 : Nat → Int → Int → Bool → Bool → List (S49) → Int → Int → List Int → Int → Int → List Int → Int → Int → List (S32) → List Int → Int → Option (Bool)
 | 0, _, _, _, _, _, _, _, _, _, _, _, _, _, _, _, _ => none
 | k + 1, x5, x20, x22, x23, x34, x35, x36, x102, x103, x104, x111, x112, x113, x391000, x391001, x391002 => if x113 < x112 then (if 0 ≤ x113 then (if x113 < (x111.length : Int) then (if x22 = true then (if x23 = true then (if 0 ≤ (rd x111 x113) then (if (rd x111 x113) < (x391000.length : Int) then (minecontrollaw18_FeederStories.l2 k x5 x20 true (((rd_T32 x391000 (rd x111 x113)).f2) == 1) x34 x35 x36 x102 x103 x104 x111 x112 (wrap64 (x113 + 1)) x391000 x391001 x391002) else (none)) else (none)) else (minecontrollaw18_FeederStories.l2 k x5 x20 true false x34 x35 x36 x102 x103 x104 x111 x112 (wrap64 (x113 + 1)) x391000 x391001 x391002)) else (if 0 ≤ (rd x111 x113) then (if (rd x111 x113) < (x391000.length : Int) then (if x23 = true then (minecontrollaw18_FeederStories.l2 k x5 x20 (((rd_T32 x391000 (rd x111 x113)).f2) == (-1)) (((rd_T32 x391000 (rd x111 x113)).f2) == 1) x34 x35 x36 x102 x103 x104 x111 x112 (wrap64 (x113 + 1)) x391000 x391001 x391002) else (minecontrollaw18_FeederStories.l2 k x5 x20 (((rd_T32 x391000 (rd x111 x113)).f2) == (-1)) false x34 x35 x36 x102 x103 x104 x111 x112 (wrap64 (x113 + 1)) x391000 x391001 x391002)) else (none)) else (none))) else (none)) else (none)) else ((feeder_Live.f k x391000 x391001 x391002 x20).bind fun t449 => (if ((t449 == (-1)) != x22) = true then (some false) else (if ((t449 == 1) != x23) = true then (some false) else (minecontrollaw18_FeederStories.l1 k x5 x34 x35 x36 x102 x103 (wrap64 (x104 + 1)) x391000 x391001 x391002))))
def minecontrollaw18_FeederStories.j2 : Nat → Int → Int → Int → List (S49) → Int → Int → List (S32) → List Int → Int → Option (Bool)
 | 0, _, _, _, _, _, _, _, _, _ => none
 | k + 1, x5, x10, x11, x34, x35, x36, x391000, x391001, x391002 => (feeder_Tick.f k x391000 x391001 x391002 x11).bind fun bt409 => (if bt409.2.2.2.2.2 = 0 then ((minecontrolref18_Same.f k bt409.1 bt409.2.1 bt409.2.2.1 x391000 x391001 x391002).bind fun t424 => (minecontrollaw18_FeederStories.j3 k x5 x10 x34 x35 x36 t424 x391000 x391001 x391002)) else (minecontrollaw18_FeederStories.j3 k x5 x10 x34 x35 x36 true x391000 x391001 x391002))
def minecontrollaw18_FeederStories.j3 : Nat → Int → Int → List (S49) → Int → Int → Bool → List (S32) → List Int → Int → Option (Bool)
 | 0, _, _, _, _, _, _, _, _, _ => none
 | k + 1, x5, x10, x34, x35, x36, x80, x391000, x391001, x391002 => if x80 = true then (some false) else (if x10 > x5 then ((feeder_Tick.f k x391000 x391001 x391002 (wrap64 (x10 - 1))).bind fun bt425 => (if bt425.2.2.2.2.2 = 0 then ((minecontrolref18_Same.f k bt425.1 bt425.2.1 bt425.2.2.1 x391000 x391001 x391002).bind fun t440 => (if t440 = true then (minecontrollaw18_FeederStories.j4 k x5 x34 x35 x36 x391000 x391001 x391002) else (some false))) else (some false))) else (minecontrollaw18_FeederStories.j4 k x5 x34 x35 x36 x391000 x391001 x391002))
end
def minecontrollaw18_FeederStories.f (k : Nat) (l0 : List Int) : Option (Bool) := (minecontroldraw_New.f l0).bind fun bt377 => ((minecontroldraw_Codes_Next.f k bt377.1 bt377.2 4).bind fun bt380 => ((minecontroldraw_Codes_Feeder.f k bt377.1 bt380.2 bt380.1).bind fun bt382 => ((minecontrollaw18_acts.f k bt377.1 bt382.2.2.2).bind fun bt391 => (minecontrollaw18_FeederStories.l0 k 0 bt391.1 (bt391.1.length : Int) 0 bt382.1 bt382.2.1 bt382.2.2.1))))
theorem minecontrollaw18_FeederStories.mono_l : ∀ k, (∀ y0 y1 y2 y3 y4 y5 y6, LeO (minecontrollaw18_FeederStories.l0 k y0 y1 y2 y3 y4 y5 y6) (minecontrollaw18_FeederStories.l0 (k + 1) y0 y1 y2 y3 y4 y5 y6)) ∧ (∀ y0 y1 y2 y3 y4 y5 y6, LeO (minecontrollaw18_FeederStories.j1 k y0 y1 y2 y3 y4 y5 y6) (minecontrollaw18_FeederStories.j1 (k + 1) y0 y1 y2 y3 y4 y5 y6)) ∧ (∀ y0 y1 y2 y3 y4 y5 y6, LeO (minecontrollaw18_FeederStories.j4 k y0 y1 y2 y3 y4 y5 y6) (minecontrollaw18_FeederStories.j4 (k + 1) y0 y1 y2 y3 y4 y5 y6)) ∧ (∀ y0 y1 y2 y3 y4 y5 y6 y7 y8 y9, LeO (minecontrollaw18_FeederStories.l1 k y0 y1 y2 y3 y4 y5 y6 y7 y8 y9) (minecontrollaw18_FeederStories.l1 (k + 1) y0 y1 y2 y3 y4 y5 y6 y7 y8 y9)) ∧ (∀ y0 y1 y2 y3 y4 y5 y6 y7 y8 y9 y10 y11 y12 y13 y14 y15, LeO (minecontrollaw18_FeederStories.l2 k y0 y1 y2 y3 y4 y5 y6 y7 y8 y9 y10 y11 y12 y13 y14 y15) (minecontrollaw18_FeederStories.l2 (k + 1) y0 y1 y2 y3 y4 y5 y6 y7 y8 y9 y10 y11 y12 y13 y14 y15)) ∧ (∀ y0 y1 y2 y3 y4 y5 y6 y7 y8, LeO (minecontrollaw18_FeederStories.j2 k y0 y1 y2 y3 y4 y5 y6 y7 y8) (minecontrollaw18_FeederStories.j2 (k + 1) y0 y1 y2 y3 y4 y5 y6 y7 y8)) ∧ (∀ y0 y1 y2 y3 y4 y5 y6 y7 y8, LeO (minecontrollaw18_FeederStories.j3 k y0 y1 y2 y3 y4 y5 y6 y7 y8) (minecontrollaw18_FeederStories.j3 (k + 1) y0 y1 y2 y3 y4 y5 y6 y7 y8))
 | 0 => ⟨fun _ _ _ _ _ _ _ r h => by simp [minecontrollaw18_FeederStories.l0] at h, fun _ _ _ _ _ _ _ r h => by simp [minecontrollaw18_FeederStories.j1] at h, fun _ _ _ _ _ _ _ r h => by simp [minecontrollaw18_FeederStories.j4] at h, fun _ _ _ _ _ _ _ _ _ _ r h => by simp [minecontrollaw18_FeederStories.l1] at h, fun _ _ _ _ _ _ _ _ _ _ _ _ _ _ _ _ r h => by simp [minecontrollaw18_FeederStories.l2] at h, fun _ _ _ _ _ _ _ _ _ r h => by simp [minecontrollaw18_FeederStories.j2] at h, fun _ _ _ _ _ _ _ _ _ r h => by simp [minecontrollaw18_FeederStories.j3] at h⟩
 | k + 1 => by
  obtain ⟨ih0, ih1, ih2, ih3, ih4, ih5, ih6⟩ := minecontrollaw18_FeederStories.mono_l k
  refine ⟨?_, ?_, ?_, ?_, ?_, ?_, ?_⟩
  ·
   intro y0 y1 y2 y3 y4 y5 y6
   unfold minecontrollaw18_FeederStories.l0
   repeat' first
   | (with_reducible exact ih0 _ _ _ _ _ _ _)
   | (with_reducible exact ih1 _ _ _ _ _ _ _)
   | (with_reducible exact ih2 _ _ _ _ _ _ _)
   | (with_reducible exact ih3 _ _ _ _ _ _ _ _ _ _)
   | (with_reducible exact ih4 _ _ _ _ _ _ _ _ _ _ _ _ _ _ _ _)
   | (with_reducible exact ih5 _ _ _ _ _ _ _ _ _)
   | (with_reducible exact ih6 _ _ _ _ _ _ _ _ _)
   | (with_reducible exact feeder_Check.mono _ _ _ _)
   | (with_reducible exact feeder_Due.mono _ _ _ _)
   | (with_reducible exact feeder_Live.mono _ _ _ _ _)
   | (with_reducible exact feeder_Path.mono _ _ _ _ _)
   | (with_reducible exact feeder_Tick.mono _ _ _ _ _)
   | (with_reducible exact minecontroldraw_Codes_Feeder.mono _ _ _ _)
   | (with_reducible exact minecontroldraw_Codes_Next.mono _ _ _ _)
   | (with_reducible exact minecontrollaw18_acts.mono _ _ _)
   | (with_reducible exact minecontrollaw18_awake.mono _)
   | (with_reducible exact minecontrollaw18_done.mono _ _ _ _ _ _ _ _)
   | (with_reducible exact minecontrolref18_Same.mono _ _ _ _ _ _ _)
   | (with_reducible exact LeO.refl _)
   | (with_reducible exact LeO.none _)
   | (with_reducible refine LeO.ite ?_ ?_)
   | (with_reducible refine LeO.bind ?_ (fun _ => ?_))
   | exact ih0 _ _ _ _ _ _ _
   | exact ih1 _ _ _ _ _ _ _
   | exact ih2 _ _ _ _ _ _ _
   | exact ih3 _ _ _ _ _ _ _ _ _ _
   | exact ih4 _ _ _ _ _ _ _ _ _ _ _ _ _ _ _ _
   | exact ih5 _ _ _ _ _ _ _ _ _
   | exact ih6 _ _ _ _ _ _ _ _ _
   | exact LeO.none _
   | refine LeO.ite ?_ ?_
   | refine LeO.bind ?_ (fun _ => ?_)
  ·
   intro y0 y1 y2 y3 y4 y5 y6
   unfold minecontrollaw18_FeederStories.j1
   repeat' first
   | (with_reducible exact ih0 _ _ _ _ _ _ _)
   | (with_reducible exact ih1 _ _ _ _ _ _ _)
   | (with_reducible exact ih2 _ _ _ _ _ _ _)
   | (with_reducible exact ih3 _ _ _ _ _ _ _ _ _ _)
   | (with_reducible exact ih4 _ _ _ _ _ _ _ _ _ _ _ _ _ _ _ _)
   | (with_reducible exact ih5 _ _ _ _ _ _ _ _ _)
   | (with_reducible exact ih6 _ _ _ _ _ _ _ _ _)
   | (with_reducible exact feeder_Check.mono _ _ _ _)
   | (with_reducible exact feeder_Due.mono _ _ _ _)
   | (with_reducible exact feeder_Live.mono _ _ _ _ _)
   | (with_reducible exact feeder_Path.mono _ _ _ _ _)
   | (with_reducible exact feeder_Tick.mono _ _ _ _ _)
   | (with_reducible exact minecontroldraw_Codes_Feeder.mono _ _ _ _)
   | (with_reducible exact minecontroldraw_Codes_Next.mono _ _ _ _)
   | (with_reducible exact minecontrollaw18_acts.mono _ _ _)
   | (with_reducible exact minecontrollaw18_awake.mono _)
   | (with_reducible exact minecontrollaw18_done.mono _ _ _ _ _ _ _ _)
   | (with_reducible exact minecontrolref18_Same.mono _ _ _ _ _ _ _)
   | (with_reducible exact LeO.refl _)
   | (with_reducible exact LeO.none _)
   | (with_reducible refine LeO.ite ?_ ?_)
   | (with_reducible refine LeO.bind ?_ (fun _ => ?_))
   | exact ih0 _ _ _ _ _ _ _
   | exact ih1 _ _ _ _ _ _ _
   | exact ih2 _ _ _ _ _ _ _
   | exact ih3 _ _ _ _ _ _ _ _ _ _
   | exact ih4 _ _ _ _ _ _ _ _ _ _ _ _ _ _ _ _
   | exact ih5 _ _ _ _ _ _ _ _ _
   | exact ih6 _ _ _ _ _ _ _ _ _
   | exact LeO.none _
   | refine LeO.ite ?_ ?_
   | refine LeO.bind ?_ (fun _ => ?_)
  ·
   intro y0 y1 y2 y3 y4 y5 y6
   unfold minecontrollaw18_FeederStories.j4
   repeat' first
   | (with_reducible exact ih0 _ _ _ _ _ _ _)
   | (with_reducible exact ih1 _ _ _ _ _ _ _)
   | (with_reducible exact ih2 _ _ _ _ _ _ _)
   | (with_reducible exact ih3 _ _ _ _ _ _ _ _ _ _)
   | (with_reducible exact ih4 _ _ _ _ _ _ _ _ _ _ _ _ _ _ _ _)
   | (with_reducible exact ih5 _ _ _ _ _ _ _ _ _)
   | (with_reducible exact ih6 _ _ _ _ _ _ _ _ _)
   | (with_reducible exact feeder_Check.mono _ _ _ _)
   | (with_reducible exact feeder_Due.mono _ _ _ _)
   | (with_reducible exact feeder_Live.mono _ _ _ _ _)
   | (with_reducible exact feeder_Path.mono _ _ _ _ _)
   | (with_reducible exact feeder_Tick.mono _ _ _ _ _)
   | (with_reducible exact minecontroldraw_Codes_Feeder.mono _ _ _ _)
   | (with_reducible exact minecontroldraw_Codes_Next.mono _ _ _ _)
   | (with_reducible exact minecontrollaw18_acts.mono _ _ _)
   | (with_reducible exact minecontrollaw18_awake.mono _)
   | (with_reducible exact minecontrollaw18_done.mono _ _ _ _ _ _ _ _)
   | (with_reducible exact minecontrolref18_Same.mono _ _ _ _ _ _ _)
   | (with_reducible exact LeO.refl _)
   | (with_reducible exact LeO.none _)
   | (with_reducible refine LeO.ite ?_ ?_)
   | (with_reducible refine LeO.bind ?_ (fun _ => ?_))
   | exact ih0 _ _ _ _ _ _ _
   | exact ih1 _ _ _ _ _ _ _
   | exact ih2 _ _ _ _ _ _ _
   | exact ih3 _ _ _ _ _ _ _ _ _ _
   | exact ih4 _ _ _ _ _ _ _ _ _ _ _ _ _ _ _ _
   | exact ih5 _ _ _ _ _ _ _ _ _
   | exact ih6 _ _ _ _ _ _ _ _ _
   | exact LeO.none _
   | refine LeO.ite ?_ ?_
   | refine LeO.bind ?_ (fun _ => ?_)
  ·
   intro y0 y1 y2 y3 y4 y5 y6 y7 y8 y9
   unfold minecontrollaw18_FeederStories.l1
   repeat' first
   | (with_reducible exact ih0 _ _ _ _ _ _ _)
   | (with_reducible exact ih1 _ _ _ _ _ _ _)
   | (with_reducible exact ih2 _ _ _ _ _ _ _)
   | (with_reducible exact ih3 _ _ _ _ _ _ _ _ _ _)
   | (with_reducible exact ih4 _ _ _ _ _ _ _ _ _ _ _ _ _ _ _ _)
   | (with_reducible exact ih5 _ _ _ _ _ _ _ _ _)
   | (with_reducible exact ih6 _ _ _ _ _ _ _ _ _)
   | (with_reducible exact feeder_Check.mono _ _ _ _)
   | (with_reducible exact feeder_Due.mono _ _ _ _)
   | (with_reducible exact feeder_Live.mono _ _ _ _ _)
   | (with_reducible exact feeder_Path.mono _ _ _ _ _)
   | (with_reducible exact feeder_Tick.mono _ _ _ _ _)
   | (with_reducible exact minecontroldraw_Codes_Feeder.mono _ _ _ _)
   | (with_reducible exact minecontroldraw_Codes_Next.mono _ _ _ _)
   | (with_reducible exact minecontrollaw18_acts.mono _ _ _)
   | (with_reducible exact minecontrollaw18_awake.mono _)
   | (with_reducible exact minecontrollaw18_done.mono _ _ _ _ _ _ _ _)
   | (with_reducible exact minecontrolref18_Same.mono _ _ _ _ _ _ _)
   | (with_reducible exact LeO.refl _)
   | (with_reducible exact LeO.none _)
   | (with_reducible refine LeO.ite ?_ ?_)
   | (with_reducible refine LeO.bind ?_ (fun _ => ?_))
   | exact ih0 _ _ _ _ _ _ _
   | exact ih1 _ _ _ _ _ _ _
   | exact ih2 _ _ _ _ _ _ _
   | exact ih3 _ _ _ _ _ _ _ _ _ _
   | exact ih4 _ _ _ _ _ _ _ _ _ _ _ _ _ _ _ _
   | exact ih5 _ _ _ _ _ _ _ _ _
   | exact ih6 _ _ _ _ _ _ _ _ _
   | exact LeO.none _
   | refine LeO.ite ?_ ?_
   | refine LeO.bind ?_ (fun _ => ?_)
  ·
   intro y0 y1 y2 y3 y4 y5 y6 y7 y8 y9 y10 y11 y12 y13 y14 y15
   unfold minecontrollaw18_FeederStories.l2
   repeat' first
   | (with_reducible exact ih0 _ _ _ _ _ _ _)
   | (with_reducible exact ih1 _ _ _ _ _ _ _)
   | (with_reducible exact ih2 _ _ _ _ _ _ _)
   | (with_reducible exact ih3 _ _ _ _ _ _ _ _ _ _)
   | (with_reducible exact ih4 _ _ _ _ _ _ _ _ _ _ _ _ _ _ _ _)
   | (with_reducible exact ih5 _ _ _ _ _ _ _ _ _)
   | (with_reducible exact ih6 _ _ _ _ _ _ _ _ _)
   | (with_reducible exact feeder_Check.mono _ _ _ _)
   | (with_reducible exact feeder_Due.mono _ _ _ _)
   | (with_reducible exact feeder_Live.mono _ _ _ _ _)
   | (with_reducible exact feeder_Path.mono _ _ _ _ _)
   | (with_reducible exact feeder_Tick.mono _ _ _ _ _)
   | (with_reducible exact minecontroldraw_Codes_Feeder.mono _ _ _ _)
   | (with_reducible exact minecontroldraw_Codes_Next.mono _ _ _ _)
   | (with_reducible exact minecontrollaw18_acts.mono _ _ _)
   | (with_reducible exact minecontrollaw18_awake.mono _)
   | (with_reducible exact minecontrollaw18_done.mono _ _ _ _ _ _ _ _)
   | (with_reducible exact minecontrolref18_Same.mono _ _ _ _ _ _ _)
   | (with_reducible exact LeO.refl _)
   | (with_reducible exact LeO.none _)
   | (with_reducible refine LeO.ite ?_ ?_)
   | (with_reducible refine LeO.bind ?_ (fun _ => ?_))
   | exact ih0 _ _ _ _ _ _ _
   | exact ih1 _ _ _ _ _ _ _
   | exact ih2 _ _ _ _ _ _ _
   | exact ih3 _ _ _ _ _ _ _ _ _ _
   | exact ih4 _ _ _ _ _ _ _ _ _ _ _ _ _ _ _ _
   | exact ih5 _ _ _ _ _ _ _ _ _
   | exact ih6 _ _ _ _ _ _ _ _ _
   | exact LeO.none _
   | refine LeO.ite ?_ ?_
   | refine LeO.bind ?_ (fun _ => ?_)
  ·
   intro y0 y1 y2 y3 y4 y5 y6 y7 y8
   unfold minecontrollaw18_FeederStories.j2
   repeat' first
   | (with_reducible exact ih0 _ _ _ _ _ _ _)
   | (with_reducible exact ih1 _ _ _ _ _ _ _)
   | (with_reducible exact ih2 _ _ _ _ _ _ _)
   | (with_reducible exact ih3 _ _ _ _ _ _ _ _ _ _)
   | (with_reducible exact ih4 _ _ _ _ _ _ _ _ _ _ _ _ _ _ _ _)
   | (with_reducible exact ih5 _ _ _ _ _ _ _ _ _)
   | (with_reducible exact ih6 _ _ _ _ _ _ _ _ _)
   | (with_reducible exact feeder_Check.mono _ _ _ _)
   | (with_reducible exact feeder_Due.mono _ _ _ _)
   | (with_reducible exact feeder_Live.mono _ _ _ _ _)
   | (with_reducible exact feeder_Path.mono _ _ _ _ _)
   | (with_reducible exact feeder_Tick.mono _ _ _ _ _)
   | (with_reducible exact minecontroldraw_Codes_Feeder.mono _ _ _ _)
   | (with_reducible exact minecontroldraw_Codes_Next.mono _ _ _ _)
   | (with_reducible exact minecontrollaw18_acts.mono _ _ _)
   | (with_reducible exact minecontrollaw18_awake.mono _)
   | (with_reducible exact minecontrollaw18_done.mono _ _ _ _ _ _ _ _)
   | (with_reducible exact minecontrolref18_Same.mono _ _ _ _ _ _ _)
   | (with_reducible exact LeO.refl _)
   | (with_reducible exact LeO.none _)
   | (with_reducible refine LeO.ite ?_ ?_)
   | (with_reducible refine LeO.bind ?_ (fun _ => ?_))
   | exact ih0 _ _ _ _ _ _ _
   | exact ih1 _ _ _ _ _ _ _
   | exact ih2 _ _ _ _ _ _ _
   | exact ih3 _ _ _ _ _ _ _ _ _ _
   | exact ih4 _ _ _ _ _ _ _ _ _ _ _ _ _ _ _ _
   | exact ih5 _ _ _ _ _ _ _ _ _
   | exact ih6 _ _ _ _ _ _ _ _ _
   | exact LeO.none _
   | refine LeO.ite ?_ ?_
   | refine LeO.bind ?_ (fun _ => ?_)
  intro y0 y1 y2 y3 y4 y5 y6 y7 y8
  unfold minecontrollaw18_FeederStories.j3
  repeat' first
  | (with_reducible exact ih0 _ _ _ _ _ _ _)
  | (with_reducible exact ih1 _ _ _ _ _ _ _)
  | (with_reducible exact ih2 _ _ _ _ _ _ _)
  | (with_reducible exact ih3 _ _ _ _ _ _ _ _ _ _)
  | (with_reducible exact ih4 _ _ _ _ _ _ _ _ _ _ _ _ _ _ _ _)
  | (with_reducible exact ih5 _ _ _ _ _ _ _ _ _)
  | (with_reducible exact ih6 _ _ _ _ _ _ _ _ _)
  | (with_reducible exact feeder_Check.mono _ _ _ _)
  | (with_reducible exact feeder_Due.mono _ _ _ _)
  | (with_reducible exact feeder_Live.mono _ _ _ _ _)
  | (with_reducible exact feeder_Path.mono _ _ _ _ _)
  | (with_reducible exact feeder_Tick.mono _ _ _ _ _)
  | (with_reducible exact minecontroldraw_Codes_Feeder.mono _ _ _ _)
  | (with_reducible exact minecontroldraw_Codes_Next.mono _ _ _ _)
  | (with_reducible exact minecontrollaw18_acts.mono _ _ _)
  | (with_reducible exact minecontrollaw18_awake.mono _)
  | (with_reducible exact minecontrollaw18_done.mono _ _ _ _ _ _ _ _)
  | (with_reducible exact minecontrolref18_Same.mono _ _ _ _ _ _ _)
  | (with_reducible exact LeO.refl _)
  | (with_reducible exact LeO.none _)
  | (with_reducible refine LeO.ite ?_ ?_)
  | (with_reducible refine LeO.bind ?_ (fun _ => ?_))
  | exact ih0 _ _ _ _ _ _ _
  | exact ih1 _ _ _ _ _ _ _
  | exact ih2 _ _ _ _ _ _ _
  | exact ih3 _ _ _ _ _ _ _ _ _ _
  | exact ih4 _ _ _ _ _ _ _ _ _ _ _ _ _ _ _ _
  | exact ih5 _ _ _ _ _ _ _ _ _
  | exact ih6 _ _ _ _ _ _ _ _ _
  | exact LeO.none _
  | refine LeO.ite ?_ ?_
  | refine LeO.bind ?_ (fun _ => ?_)
theorem minecontrollaw18_FeederStories.mono : ∀ a0 k, LeO (minecontrollaw18_FeederStories.f k a0) (minecontrollaw18_FeederStories.f (k + 1) a0) := by
 intro a0 k
 obtain ⟨ih0, ih1, ih2, ih3, ih4, ih5, ih6⟩ := minecontrollaw18_FeederStories.mono_l k
 unfold minecontrollaw18_FeederStories.f
 repeat' first
   | (with_reducible exact ih0 _ _ _ _ _ _ _)
   | (with_reducible exact ih1 _ _ _ _ _ _ _)
   | (with_reducible exact ih2 _ _ _ _ _ _ _)
   | (with_reducible exact ih3 _ _ _ _ _ _ _ _ _ _)
   | (with_reducible exact ih4 _ _ _ _ _ _ _ _ _ _ _ _ _ _ _ _)
   | (with_reducible exact ih5 _ _ _ _ _ _ _ _ _)
   | (with_reducible exact ih6 _ _ _ _ _ _ _ _ _)
   | (with_reducible exact feeder_Check.mono _ _ _ _)
   | (with_reducible exact feeder_Due.mono _ _ _ _)
   | (with_reducible exact feeder_Live.mono _ _ _ _ _)
   | (with_reducible exact feeder_Path.mono _ _ _ _ _)
   | (with_reducible exact feeder_Tick.mono _ _ _ _ _)
   | (with_reducible exact minecontroldraw_Codes_Feeder.mono _ _ _ _)
   | (with_reducible exact minecontroldraw_Codes_Next.mono _ _ _ _)
   | (with_reducible exact minecontrollaw18_acts.mono _ _ _)
   | (with_reducible exact minecontrollaw18_awake.mono _)
   | (with_reducible exact minecontrollaw18_done.mono _ _ _ _ _ _ _ _)
   | (with_reducible exact minecontrolref18_Same.mono _ _ _ _ _ _ _)
   | (with_reducible exact LeO.refl _)
   | (with_reducible exact LeO.none _)
   | (with_reducible refine LeO.ite ?_ ?_)
   | (with_reducible refine LeO.bind ?_ (fun _ => ?_))
   | exact ih0 _ _ _ _ _ _ _
   | exact ih1 _ _ _ _ _ _ _
   | exact ih2 _ _ _ _ _ _ _
   | exact ih3 _ _ _ _ _ _ _ _ _ _
   | exact ih4 _ _ _ _ _ _ _ _ _ _ _ _ _ _ _ _
   | exact ih5 _ _ _ _ _ _ _ _ _
   | exact ih6 _ _ _ _ _ _ _ _ _
   | exact LeO.none _
   | refine LeO.ite ?_ ?_
   | refine LeO.bind ?_ (fun _ => ?_)
set_option maxHeartbeats 8000000 in
set_option maxRecDepth 100000 in
theorem minecontrollaw18_FeederStories.calls1 (k : Nat) (A0 : Option Addr) (c0 : Nat) (l0 : List Int) (r : Bool) (w : World) (hr0 : Kd.C (Kd.int .u8) w A0 l0.length l0) (hc0 : l0.length ≤ c0) (hr_ : Aside0 (r = true)) (h : minecontrollaw18_FeederStories.f k l0 = some r) :
  Calls Try.prog 4 #[.slice A0 l0.length c0] w fun e w' => e = .returned (.bool r) ∧ Below w.heap.size w w' := by
 have hu28 := Try.underlying28
 have hu49 := Try.underlying49
 have HR0 := aM hr0
 have HC0 := aM hc0
 clear hr0 hc0
 have HB := aM (Below.refl w.heap.size w)
 have H : ((minecontroldraw_New.f l0).bind fun bt377 => ((minecontroldraw_Codes_Next.f k bt377.1 bt377.2 4).bind fun bt380 => ((minecontroldraw_Codes_Feeder.f k bt377.1 bt380.2 bt380.1).bind fun bt382 => ((minecontrollaw18_acts.f k bt377.1 bt382.2.2.2).bind fun bt391 => (minecontrollaw18_FeederStories.l0 k 0 bt391.1 (bt391.1.length : Int) 0 bt382.1 bt382.2.1 bt382.2.2.1))))) = some r := h
 clear h
 replace H := Option.bind_eq_some_iff.mp H
 obtain ⟨⟨t377, t378⟩, A20, H⟩ := H
 replace H : ((minecontroldraw_Codes_Next.f k t377 t378 4).bind fun bt380 => ((minecontroldraw_Codes_Feeder.f k t377 bt380.2 bt380.1).bind fun bt382 => ((minecontrollaw18_acts.f k t377 bt382.2.2.2).bind fun bt391 => (minecontrollaw18_FeederStories.l0 k 0 bt391.1 (bt391.1.length : Int) 0 bt382.1 bt382.2.1 bt382.2.2.1)))) = some r := H
 have A2 := aM A20
 clear A20
 replace H := Option.bind_eq_some_iff.mp H
 obtain ⟨⟨t380, t381⟩, A30, H⟩ := H
 replace H : ((minecontroldraw_Codes_Feeder.f k t377 t381 t380).bind fun bt382 => ((minecontrollaw18_acts.f k t377 bt382.2.2.2).bind fun bt391 => (minecontrollaw18_FeederStories.l0 k 0 bt391.1 (bt391.1.length : Int) 0 bt382.1 bt382.2.1 bt382.2.2.1))) = some r := H
 have A3 := aM A30
 clear A30
 replace H := Option.bind_eq_some_iff.mp H
 obtain ⟨⟨t382, t385, t388, t389⟩, A40, H⟩ := H
 replace H : ((minecontrollaw18_acts.f k t377 t389).bind fun bt391 => (minecontrollaw18_FeederStories.l0 k 0 bt391.1 (bt391.1.length : Int) 0 t382 t385 t388)) = some r := H
 have A4 := aM A40
 clear A40
 replace H := Option.bind_eq_some_iff.mp H
 obtain ⟨⟨t391, t394⟩, A50, H⟩ := H
 replace H : (minecontrollaw18_FeederStories.l0 k 0 t391 (t391.length : Int) 0 t382 t385 t388) = some r := H
 have A5 := aM A50
 clear A50
 have H' := aM H
 clear H
 go_enter Try.func4, Try.ntmps4
 go_wp2_with (first | ((with_reducible refine gate_callee (f := 9) rfl ?_); refine goesL_ (some 28) rfl rfl Try.func9 (by kernel_rfl) rfl #[.slice A0 l0.length c0] rfl (by first | rfl | (simp only [List.map_toArray, List.map_cons, List.map_nil, List.length_drop, List.length_take]; try rfl)) ?_; (with_reducible refine (minecontroldraw_New.calls _ _ l0 t377 t378 w _ ?side1 ?side2 ?side3 A2.out).mono ?_); (case side1 => repeat (first | (with_reducible first | exact HB.out | apply bA | apply bN | apply bD) | exact HB.out)); (case side2 => exact HR0.out); (case side3 => exact HC0.out); rintro e w6 ⟨g379, rfl, hi, hb, hb2, hge⟩; refine ⟨_, rfl, ?_⟩; replace HB := aM (hb); have HI379 := aM (hi); (try clear hb); (try clear hb2); (try clear hge); (try clear hk); (try clear hi)) | ((with_reducible refine gate_callee (f := 11) rfl ?_); refine goesL_ (some 31) rfl rfl Try.func11 (by kernel_rfl) rfl #[.pointer (some ⟨g379, 0, none⟩), .int .i64 4] rfl (by first | rfl | (simp only [List.map_toArray, List.map_cons, List.map_nil, List.length_drop, List.length_take]; try rfl)) ?_; (with_reducible refine (minecontroldraw_Codes_Next.calls k g379 t377 t378 4 t380 t381 w _ ?side1 ?side2 A3.out).mono ?_); (case side1 => repeat (first | (with_reducible first | exact HI379.out | apply IsS61.alloc | apply IsS61.drewN | apply IsS61.drew | apply IsS61.set_1) | exact HI379.out)); (case side2 => repeat (first | (with_reducible first | exact HB.out | apply bA | apply bN | apply bD | refine below_set ?_ (IsS61.ge HI379.out)) | exact HB.out)); rintro e w7 ⟨rfl, hi, hb, hk⟩; refine ⟨_, rfl, ?_⟩; replace HB := aM (hb); replace HI379 := aM (hi); (try clear hb); (try clear hb2); (try clear hge); (try clear hk); (try clear hi)) | ((with_reducible refine gate_callee (f := 10) rfl ?_); refine goesL_ (some 32) rfl rfl Try.func10 (by kernel_rfl) rfl #[.pointer (some ⟨g379, 0, none⟩), .int .i64 t380] rfl (by first | rfl | (simp only [List.map_toArray, List.map_cons, List.map_nil, List.length_drop, List.length_take]; try rfl)) ?_; (with_reducible refine (minecontroldraw_Codes_Feeder.calls k g379 t377 t381 t380 t382 t385 t388 t389 w _ ?side1 ?side2 A4.out).mono ?_); (case side1 => repeat (first | (with_reducible first | exact HI379.out | apply IsS61.alloc | apply IsS61.drewN | apply IsS61.drew | apply IsS61.set_1) | exact HI379.out)); (case side2 => repeat (first | (with_reducible first | exact HB.out | apply bA | apply bN | apply bD | refine below_set ?_ (IsS61.ge HI379.out)) | exact HB.out)); rintro e w8 ⟨v383, v386, rfl, ho0, ho1, hi, hb, hk⟩; refine ⟨_, rfl, ?_⟩; have HO384 := aM (Kd.R_lower ho0 (below_size (by repeat (first | (with_reducible first | exact HB.out | apply bA | apply bN | apply bD | refine below_set ?_ (IsS61.ge HI379.out)) | exact HB.out)))); have HO387 := aM (Kd.R_lower ho1 (below_size (by repeat (first | (with_reducible first | exact HB.out | apply bA | apply bN | apply bD | refine below_set ?_ (IsS61.ge HI379.out)) | exact HB.out)))); replace HB := aM (hb); replace HI379 := aM (hi); (try clear hb); (try clear hb2); (try clear hge); (try clear hk); (try clear hi); (try clear ho0); (try clear ho1)) | ((with_reducible refine gate_dst (N := 4) rfl ?_); refine box_event ?hg (N := 4) ?hd (cs := #[.slice none 0 0, .slice none 0 0, .int .i64 0]) (t := 28) ?hr ?_; (case hd => rfl); (case hg => rfl); (case hr => first | (go_simp; done) | (go_simp; rfl)); intro gb390 hg w9 hbox hb; replace HO384 := aM (Kd.R_below (R_mv HO384.out) hb); replace HO387 := aM (Kd.R_below (R_mv HO387.out) hb); have BK390 := aM (hbox); have GW390 := aM ((by rw [hg]; exact (below_size (by repeat (first | (with_reducible first | exact HB.out | apply bA | apply bN | apply bD | refine below_set ?_ (IsS61.ge HI379.out)) | exact HB.out))) : w.heap.size ≤ gb390)); have GE390 := aM ((by rw [hg]; exact (below_size (by repeat (first | (with_reducible first | exact HB.out | apply bA | apply bN | apply bD | refine below_set ?_ (IsS61.ge HI379.out)) | exact HB.out))) : w.heap.size ≤ gb390)); replace HB := aM (below_step (by repeat (first | (with_reducible first | exact HB.out | apply bA | apply bN | apply bD | refine below_set ?_ (IsS61.ge HI379.out)) | exact HB.out)) hb); have NB379_390 := aM ((by rw [hg]; exact Nat.ne_of_lt (IsS61.lt (show IsS61 w _ g379 t377 t389 from by repeat (first | (with_reducible first | exact HI379.out | apply IsS61.alloc | apply IsS61.drewN | apply IsS61.drew | apply IsS61.set_1) | exact HI379.out))) : g379 ≠ gb390)); have NB390_379 := aM ((by rw [hg]; exact Nat.ne_of_gt (IsS61.lt (show IsS61 w _ g379 t377 t389 from by repeat (first | (with_reducible first | exact HI379.out | apply IsS61.alloc | apply IsS61.drewN | apply IsS61.drew | apply IsS61.set_1) | exact HI379.out))) : gb390 ≠ g379)); replace HI379 := aM (IsS61.below (by repeat (first | (with_reducible first | exact HI379.out | apply IsS61.alloc | apply IsS61.drewN | apply IsS61.drew | apply IsS61.set_1) | exact HI379.out)) hb); clear hb hbox hg; obtain ⟨Ao10, co10, eo10⟩ := Kd.R_slice HO384.out; subst eo10; have hnb11 := NB390_379.out; have hnc11 := NB379_390.out; obtain ⟨hcz12_0, hcz12_1, hcz12_2, hfz12_0, hfz12_1, hfz12_2⟩ := blk3 BK390.out; obtain ⟨Ao13, co13, eo13⟩ := Kd.R_slice HO387.out; subst eo13) | ((with_reducible refine gate_callee (f := 21) rfl ?_); refine goesL_ (some 34) rfl rfl Try.func21 (by kernel_rfl) rfl #[.pointer (some ⟨g379, 0, none⟩)] rfl (by first | rfl | (simp only [List.map_toArray, List.map_cons, List.map_nil, List.length_drop, List.length_take]; try rfl)) ?_; (with_reducible refine (minecontrollaw18_acts.calls k g379 t377 t389 t391 t394 w _ ?side1 ?side2 A5.out).mono ?_); (case side1 => repeat (first | (with_reducible first | exact HI379.out | apply IsS61.alloc | apply IsS61.drewN | apply IsS61.drew | apply IsS61.set_1 | refine IsS61.far ?_ NB379_390.out _) | exact HI379.out)); (case side2 => repeat (first | (with_reducible first | exact HB.out | apply bA | apply bN | apply bD | refine below_set ?_ (IsS61.ge HI379.out) | refine below_set ?_ GE390.out) | exact HB.out)); rintro e w14 ⟨v392, rfl, ho0, hi, hb, hk⟩; refine ⟨_, rfl, ?_⟩; replace HO384 := aM (Kd.R_mono (Kd.R_keep (IsS61.apart (show IsS61 w _ g379 t377 t389 from by repeat (first | (with_reducible first | exact HI379.out | apply IsS61.alloc | apply IsS61.drewN | apply IsS61.drew | apply IsS61.set_1 | refine IsS61.far ?_ NB379_390.out _) | exact HI379.out)) (by (with_reducible repeat (first | apply Kd.R_alloc | apply Kd.R_drewN | apply Kd.R_drew)); exact (Kd.R_mono (Kd.R_far (p := ⟨gb390, 2, none⟩) (Kd.R_far (p := ⟨gb390, 1, none⟩) (Kd.R_far (p := ⟨gb390, 0, none⟩) (Kd.R_types HO384.out BK390.out (by decide)) (fun _ hk => hk.2) (.slice Ao10 t382.length co10)) (fun _ hk => hk.2) (.slice Ao13 t385.length co13)) (fun _ hk => hk.2) (.int .i64 t388)) (fun _ h_ => h_.1))) (by decide)) hk (fun _ h => h.2)) (fun _ h => h.1)); replace HO387 := aM (Kd.R_mono (Kd.R_keep (IsS61.apart (show IsS61 w _ g379 t377 t389 from by repeat (first | (with_reducible first | exact HI379.out | apply IsS61.alloc | apply IsS61.drewN | apply IsS61.drew | apply IsS61.set_1 | refine IsS61.far ?_ NB379_390.out _) | exact HI379.out)) (by (with_reducible repeat (first | apply Kd.R_alloc | apply Kd.R_drewN | apply Kd.R_drew)); exact (Kd.R_mono (Kd.R_far (p := ⟨gb390, 2, none⟩) (Kd.R_far (p := ⟨gb390, 1, none⟩) (Kd.R_far (p := ⟨gb390, 0, none⟩) (Kd.R_types HO387.out BK390.out (by decide)) (fun _ hk => hk.2) (.slice Ao10 t382.length co10)) (fun _ hk => hk.2) (.slice Ao13 t385.length co13)) (fun _ hk => hk.2) (.int .i64 t388)) (fun _ h_ => h_.1))) (by decide)) hk (fun _ h => h.2)) (fun _ h => h.1)); replace BK390 := aM (KeepBut.blk hk (g' := gb390) (o := .cells #[.slice Ao10 t382.length co10, .slice Ao13 t385.length co13, .int .i64 t388] 28 (0, 0)) (by (with_reducible repeat (first | refine kN ?_ _ | refine kD ?_ | refine kA ?_ _)); refine blk_put (cs := #[.slice Ao10 t382.length co10, .slice Ao13 t385.length co13, .int .i64 0]) ?_ 2 _ rfl; (with_reducible repeat (first | refine kN ?_ _ | refine kD ?_ | refine kA ?_ _)); refine blk_put (cs := #[.slice Ao10 t382.length co10, .slice none 0 0, .int .i64 0]) ?_ 1 _ rfl; (with_reducible repeat (first | refine kN ?_ _ | refine kD ?_ | refine kA ?_ _)); refine blk_put (cs := #[.slice none 0 0, .slice none 0 0, .int .i64 0]) ?_ 0 _ rfl; (with_reducible repeat (first | refine kN ?_ _ | refine kD ?_ | refine kA ?_ _)); exact BK390.out) NB390_379.out (by simp)); have HO393 := aM (Kd.R_lower ho0 (below_size (by repeat (first | (with_reducible first | exact HB.out | apply bA | apply bN | apply bD | refine below_set ?_ (IsS61.ge HI379.out) | refine below_set ?_ GE390.out) | exact HB.out)))); replace HB := aM (hb); replace HI379 := aM (hi); (try clear hb); (try clear hb2); (try clear hge); (try clear hk); (try clear hi); (try clear ho0); obtain ⟨Ao15, co15, eo15⟩ := Kd.R_slice HO393.out; subst eo15))
 go_loopg [5, 36] k (fun kq v5 v36 w' => ∃ (x5_1 : Int) (x36_1 : Int) (x391000_1 : List (S32)) (x391001_1 : List Int) (x391002_1 : Int) (u391000 : Value) (u391001 : Value), v5 = .int .i64 x5_1 ∧ v36 = .int .i64 x36_1 ∧ Aside0 (minecontrollaw18_FeederStories.l0 kq x5_1 t391 (t391.length : Int) x36_1 x391000_1 x391001_1 x391002_1 = some r) ∧ Aside0 (kq ≤ k) ∧ Aside0 (Kd.R k49 49 w' w.heap.size (fun _ => True) (.slice Ao15 t391.length co15) t391) ∧ Aside0 (Kd.R k32 32 w' w.heap.size (fun _ => True) u391000 x391000_1) ∧ Aside0 (Kd.R (Kd.int .i64) 3 w' w.heap.size (fun _ => True) u391001 x391001_1) ∧ Aside0 (w'.heap[gb390]? = some (.cells #[u391000, u391001, .int .i64 x391002_1] 28 (0, 0))) ∧ Aside0 (Below w.heap.size w w'))
 case atStart => exact ⟨(0), (0), (t382), (t385), (t388), (.slice Ao10 t382.length co10), (.slice Ao13 t385.length co13), (by first | rfl | (simp; done) | (simp [*]; done)), (by first | rfl | (simp; done) | (simp [*]; done)), H', ⟨Nat.le_refl _⟩, ⟨by (with_reducible repeat (first | apply Kd.R_alloc | apply Kd.R_drewN | apply Kd.R_drew)); exact HO393.out⟩, ⟨by (with_reducible repeat (first | apply Kd.R_alloc | apply Kd.R_drewN | apply Kd.R_drew)); exact HO384.out⟩, ⟨by (with_reducible repeat (first | apply Kd.R_alloc | apply Kd.R_drewN | apply Kd.R_drew)); exact HO387.out⟩, ⟨blk_mv BK390.out⟩, ⟨by repeat (first | (with_reducible first | exact HB.out | apply bA | apply bN | apply bD | refine below_set ?_ (IsS61.ge HI379.out) | refine below_set ?_ GE390.out) | exact HB.out)⟩⟩
 case round =>
  clear H'
  obtain ⟨x5_1, x36_1, x391000_1, x391001_1, x391002_1, u391000, u391001, rfl, rfl, HA, HK1, HO_34, HO_391000, HO_391001, BK390, HB⟩ := hrel
  cases gk with
  | zero => exact absurd HA.out (by simp [minecontrollaw18_FeederStories.l0])
  | succ k1 =>
   have H := HA.out
   clear HA
   simp only [minecontrollaw18_FeederStories.l0] at H
   by_cases c16 : x36_1 < (t391.length : Int)
   ·
    rw [if_pos c16] at H
    have c16b0 : decide (x36_1 < (t391.length : Int)) = true := decide_eq_true c16
    clear c16
    by_cases c17 : 0 ≤ x36_1
    rotate_left
    ·
     rw [if_neg c17] at H
     exact absurd H (by simp)
    rw [if_pos c17] at H
    have c17b0 : decide (0 ≤ x36_1) = true := decide_eq_true c17
    clear c17
    by_cases c18 : x36_1 < (t391.length : Int)
    rotate_left
    ·
     rw [if_neg c18] at H
     exact absurd H (by simp)
    rw [if_pos c18] at H
    have c18b0 : decide (x36_1 < (t391.length : Int)) = true := decide_eq_true c18
    clear c18
    replace H := Option.bind_eq_some_iff.mp H
    obtain ⟨⟨t398, t401, t404, t405⟩, A190, H⟩ := H
    replace H : (if t405 = 0 then (minecontrollaw18_FeederStories.j1 k1 (wrap64 (x5_1 + ((rd_T49 t391 x36_1).f2))) t391 (t391.length : Int) x36_1 t398 t401 t404) else (minecontrollaw18_FeederStories.j1 k1 (wrap64 (x5_1 + ((rd_T49 t391 x36_1).f2))) t391 (t391.length : Int) x36_1 x391000_1 x391001_1 x391002_1)) = some r := H
    have A19 := aM A190
    clear A190
    have HC20 := aM H
    clear H
    have p396 : 0 ≤ (x36_1 : Int) := of_decide_eq_true (by first | (with_reducible assumption) | assumption)
    have q396 : x36_1 < (t391.length : Int) := of_decide_eq_true (by first | (with_reducible assumption) | assumption)
    obtain ⟨ad396, e396, hx396_0, hx396_1, hx396_2⟩ := at_T49 (Kd.R_reads' HO_34.out).2.2 x36_1 p396 q396
    cases e396
    replace p396 := eq_true p396
    replace q396 := eq_true q396
    go_upto_if 52 with (first | ((with_reducible refine gate_dst (N := 7) rfl ?_); refine box_event ?hg (N := 7) ?hd (cs := #[.int .i64 0, .int .i64 0, .int .i64 0]) (t := 49) ?hr ?_; (case hd => rfl); (case hg => rfl); (case hr => first | (go_simp; done) | (go_simp; rfl)); intro gb397 hg w21 hbox hb; replace HO_34 := aM (Kd.R_below (Kd.R_elderB (R_mv HO_34.out) gb397 (Nat.le_of_eq hg.symm)) hb); replace HO_391000 := aM (Kd.R_below (R_mv HO_391000.out) hb); replace HO_391001 := aM (Kd.R_below (R_mv HO_391001.out) hb); have BK397 := aM (hbox); have GW397 := aM ((by rw [hg]; exact (below_size (by repeat (first | (with_reducible first | exact HB.out | apply bA | apply bN | apply bD | refine below_set ?_ GE390.out) | exact HB.out))) : w.heap.size ≤ gb397)); have GE397 := aM ((by rw [hg]; exact (below_size (by repeat (first | (with_reducible first | exact HB.out | apply bA | apply bN | apply bD | refine below_set ?_ GE390.out) | exact HB.out))) : w.heap.size ≤ gb397)); replace HB := aM (below_step (by repeat (first | (with_reducible first | exact HB.out | apply bA | apply bN | apply bD | refine below_set ?_ GE390.out) | exact HB.out)) hb); have NB390_397 := aM ((by rw [hg]; exact Nat.ne_of_lt (blk_lt (blk_mv BK390.out)) : gb390 ≠ gb397)); have NB397_390 := aM ((by rw [hg]; exact Nat.ne_of_gt (blk_lt (blk_mv BK390.out)) : gb397 ≠ gb390)); replace BK390 := aM (blk_below (blk_mv BK390.out) hb); clear hb hbox hg; have hnb22 := NB397_390.out; have hnc22 := NB390_397.out; obtain ⟨hcz23_0, hcz23_1, hcz23_2, hfz23_0, hfz23_1, hfz23_2⟩ := blk3 BK397.out; obtain ⟨hcz24_0, hcz24_1, hcz24_2, hfz24_0, hfz24_1, hfz24_2⟩ := blk3 BK390.out; obtain ⟨Ao25, co25, eo25⟩ := Kd.R_slice HO_391000.out; subst eo25; obtain ⟨Ao26, co26, eo26⟩ := Kd.R_slice HO_391001.out; subst eo26) | ((with_reducible refine gate_callee (f := 22) rfl ?_); refine goesL_ (some 48) rfl rfl Try.func22 (by kernel_rfl) rfl #[.agg #[.slice Ao25 x391000_1.length co25, .slice Ao26 x391001_1.length co26, .int .i64 x391002_1], .agg #[.int .i64 ((rd_T49 t391 x36_1).f0), .int .i64 ((rd_T49 t391 x36_1).f1), .int .i64 ((rd_T49 t391 x36_1).f2)], .int .i64 (wrap64 (x5_1 + ((rd_T49 t391 x36_1).f2)))] rfl (by first | rfl | (simp only [List.map_toArray, List.map_cons, List.map_nil, List.length_drop, List.length_take]; try rfl)) ?_; (with_reducible refine (minecontrollaw18_done.calls k1 _ _ x391000_1 _ _ x391001_1 x391002_1 ((rd_T49 t391 x36_1).f0) ((rd_T49 t391 x36_1).f1) ((rd_T49 t391 x36_1).f2) (wrap64 (x5_1 + ((rd_T49 t391 x36_1).f2))) t398 t401 t404 t405 _ ?side1 ?side2 ?side3 ?side4 A19.out).mono ?_); (case side1 => refine (Kd.R_reads' (e := 32) (base := w.heap.size) (ok := fun k_ => True) (n := x391000_1.length) (c := co25) ?_).2.2; exact (by (with_reducible repeat (first | apply Kd.R_alloc | apply Kd.R_drewN | apply Kd.R_drew)); exact (Kd.R_mono (Kd.R_far (p := ⟨gb397, 2, none⟩) (Kd.R_far (p := ⟨gb397, 1, none⟩) (Kd.R_far (p := ⟨gb397, 0, none⟩) (Kd.R_types HO_391000.out BK397.out (by decide)) (fun _ hk => hk.2) (.int .i64 ((rd_T49 t391 x36_1).f0))) (fun _ hk => hk.2) (.int .i64 ((rd_T49 t391 x36_1).f1))) (fun _ hk => hk.2) (.int .i64 ((rd_T49 t391 x36_1).f2))) (fun _ h_ => h_.1)))); (case side2 => exact (Kd.R_reads' HO_391000.out).2.1); (case side3 => refine (Kd.R_reads' (e := 3) (base := w.heap.size) (ok := fun k_ => True) (n := x391001_1.length) (c := co26) ?_).2.2; exact (by (with_reducible repeat (first | apply Kd.R_alloc | apply Kd.R_drewN | apply Kd.R_drew)); exact (Kd.R_mono (Kd.R_far (p := ⟨gb397, 2, none⟩) (Kd.R_far (p := ⟨gb397, 1, none⟩) (Kd.R_far (p := ⟨gb397, 0, none⟩) (Kd.R_types HO_391001.out BK397.out (by decide)) (fun _ hk => hk.2) (.int .i64 ((rd_T49 t391 x36_1).f0))) (fun _ hk => hk.2) (.int .i64 ((rd_T49 t391 x36_1).f1))) (fun _ hk => hk.2) (.int .i64 ((rd_T49 t391 x36_1).f2))) (fun _ h_ => h_.1)))); (case side4 => exact (Kd.R_reads' HO_391001.out).2.1); rintro e w27 ⟨v399, v402, rfl, ho0, ho1, hb⟩; refine ⟨_, rfl, ?_⟩; replace HO_34 := aM (Kd.R_below (by (with_reducible repeat (first | apply Kd.R_alloc | apply Kd.R_drewN | apply Kd.R_drew)); exact (Kd.R_mono (Kd.R_far (p := ⟨gb397, 2, none⟩) (Kd.R_far (p := ⟨gb397, 1, none⟩) (Kd.R_far (p := ⟨gb397, 0, none⟩) (Kd.R_mono HO_34.out (fun k_ hk => (⟨hk, hk.2⟩ : _ ∧ k_ ≠ gb397))) (fun _ hk => hk.2) (.int .i64 ((rd_T49 t391 x36_1).f0))) (fun _ hk => hk.2) (.int .i64 ((rd_T49 t391 x36_1).f1))) (fun _ hk => hk.2) (.int .i64 ((rd_T49 t391 x36_1).f2))) (fun _ h_ => h_.1))) hb); have HO400 := aM (Kd.R_lower (Kd.R_new' ho0 (Kd.R_lt (by (with_reducible repeat (first | apply Kd.R_alloc | apply Kd.R_drewN | apply Kd.R_drew)); exact (Kd.R_mono (Kd.R_far (p := ⟨gb397, 2, none⟩) (Kd.R_far (p := ⟨gb397, 1, none⟩) (Kd.R_far (p := ⟨gb397, 0, none⟩) (Kd.R_types HO_391000.out BK397.out (by decide)) (fun _ hk => hk.2) (.int .i64 ((rd_T49 t391 x36_1).f0))) (fun _ hk => hk.2) (.int .i64 ((rd_T49 t391 x36_1).f1))) (fun _ hk => hk.2) (.int .i64 ((rd_T49 t391 x36_1).f2))) (fun _ h_ => h_.1))))) (below_size (by repeat (first | (with_reducible first | exact HB.out | apply bA | apply bN | apply bD | refine below_set ?_ GE390.out | refine below_set ?_ GE397.out) | exact HB.out)))); replace HO_391000 := aM (Kd.R_elder' (by (with_reducible repeat (first | apply Kd.R_alloc | apply Kd.R_drewN | apply Kd.R_drew)); exact (Kd.R_mono (Kd.R_far (p := ⟨gb397, 2, none⟩) (Kd.R_far (p := ⟨gb397, 1, none⟩) (Kd.R_far (p := ⟨gb397, 0, none⟩) (Kd.R_types HO_391000.out BK397.out (by decide)) (fun _ hk => hk.2) (.int .i64 ((rd_T49 t391 x36_1).f0))) (fun _ hk => hk.2) (.int .i64 ((rd_T49 t391 x36_1).f1))) (fun _ hk => hk.2) (.int .i64 ((rd_T49 t391 x36_1).f2))) (fun _ h_ => h_.1))) (Kd.R_base ho0) hb); have HO403 := aM (Kd.R_lower (Kd.R_new' ho1 (Kd.R_lt (by (with_reducible repeat (first | apply Kd.R_alloc | apply Kd.R_drewN | apply Kd.R_drew)); exact (Kd.R_mono (Kd.R_far (p := ⟨gb397, 2, none⟩) (Kd.R_far (p := ⟨gb397, 1, none⟩) (Kd.R_far (p := ⟨gb397, 0, none⟩) (Kd.R_types HO_391001.out BK397.out (by decide)) (fun _ hk => hk.2) (.int .i64 ((rd_T49 t391 x36_1).f0))) (fun _ hk => hk.2) (.int .i64 ((rd_T49 t391 x36_1).f1))) (fun _ hk => hk.2) (.int .i64 ((rd_T49 t391 x36_1).f2))) (fun _ h_ => h_.1))))) (below_size (by repeat (first | (with_reducible first | exact HB.out | apply bA | apply bN | apply bD | refine below_set ?_ GE390.out | refine below_set ?_ GE397.out) | exact HB.out)))); replace HO_391001 := aM (Kd.R_elder' (by (with_reducible repeat (first | apply Kd.R_alloc | apply Kd.R_drewN | apply Kd.R_drew)); exact (Kd.R_mono (Kd.R_far (p := ⟨gb397, 2, none⟩) (Kd.R_far (p := ⟨gb397, 1, none⟩) (Kd.R_far (p := ⟨gb397, 0, none⟩) (Kd.R_types HO_391001.out BK397.out (by decide)) (fun _ hk => hk.2) (.int .i64 ((rd_T49 t391 x36_1).f0))) (fun _ hk => hk.2) (.int .i64 ((rd_T49 t391 x36_1).f1))) (fun _ hk => hk.2) (.int .i64 ((rd_T49 t391 x36_1).f2))) (fun _ h_ => h_.1))) (Kd.R_base ho1) hb); replace BK390 := aM (blk_below (g := gb390) (o := .cells #[.slice Ao25 x391000_1.length co25, .slice Ao26 x391001_1.length co26, .int .i64 x391002_1] 28 (0, 0)) (by (with_reducible repeat (first | refine kN ?_ _ | refine kD ?_ | refine kA ?_ _)); refine blk_far ?_ NB390_397.out _; (with_reducible repeat (first | refine kN ?_ _ | refine kD ?_ | refine kA ?_ _)); refine blk_far ?_ NB390_397.out _; (with_reducible repeat (first | refine kN ?_ _ | refine kD ?_ | refine kA ?_ _)); refine blk_far ?_ NB390_397.out _; (with_reducible repeat (first | refine kN ?_ _ | refine kD ?_ | refine kA ?_ _)); exact BK390.out) hb); replace BK397 := aM (blk_below (g := gb397) (o := .cells #[.int .i64 ((rd_T49 t391 x36_1).f0), .int .i64 ((rd_T49 t391 x36_1).f1), .int .i64 ((rd_T49 t391 x36_1).f2)] 49 (0, 0)) (by (with_reducible repeat (first | refine kN ?_ _ | refine kD ?_ | refine kA ?_ _)); refine blk_put (cs := #[.int .i64 ((rd_T49 t391 x36_1).f0), .int .i64 ((rd_T49 t391 x36_1).f1), .int .i64 0]) ?_ 2 _ rfl; (with_reducible repeat (first | refine kN ?_ _ | refine kD ?_ | refine kA ?_ _)); refine blk_put (cs := #[.int .i64 ((rd_T49 t391 x36_1).f0), .int .i64 0, .int .i64 0]) ?_ 1 _ rfl; (with_reducible repeat (first | refine kN ?_ _ | refine kD ?_ | refine kA ?_ _)); refine blk_put (cs := #[.int .i64 0, .int .i64 0, .int .i64 0]) ?_ 0 _ rfl; (with_reducible repeat (first | refine kN ?_ _ | refine kD ?_ | refine kA ?_ _)); exact BK397.out) hb); replace HB := aM (below_step (by repeat (first | (with_reducible first | exact HB.out | apply bA | apply bN | apply bD | refine below_set ?_ GE390.out | refine below_set ?_ GE397.out) | exact HB.out)) hb); (try clear hb); (try clear hb2); (try clear hge); (try clear hk); (try clear hi); (try clear ho0); (try clear ho1)) | ((with_reducible refine gate_dst (N := 8) rfl ?_); refine box_event ?hg (N := 8) ?hd (cs := #[.slice none 0 0, .slice none 0 0, .int .i64 0]) (t := 28) ?hr ?_; (case hd => rfl); (case hg => rfl); (case hr => first | (go_simp; done) | (go_simp; rfl)); intro gb406 hg w28 hbox hb; replace HO_34 := aM (Kd.R_below (R_mv HO_34.out) hb); replace HO_391000 := aM (Kd.R_below (R_mv HO_391000.out) hb); replace HO_391001 := aM (Kd.R_below (R_mv HO_391001.out) hb); replace HO400 := aM (Kd.R_below (R_mv HO400.out) hb); replace HO403 := aM (Kd.R_below (R_mv HO403.out) hb); have BK406 := aM (hbox); have GW406 := aM ((by rw [hg]; exact (below_size (by repeat (first | (with_reducible first | exact HB.out | apply bA | apply bN | apply bD | refine below_set ?_ GE390.out | refine below_set ?_ GE397.out) | exact HB.out))) : w.heap.size ≤ gb406)); have GE406 := aM ((by rw [hg]; exact (below_size (by repeat (first | (with_reducible first | exact HB.out | apply bA | apply bN | apply bD | refine below_set ?_ GE390.out | refine below_set ?_ GE397.out) | exact HB.out))) : w.heap.size ≤ gb406)); replace HB := aM (below_step (by repeat (first | (with_reducible first | exact HB.out | apply bA | apply bN | apply bD | refine below_set ?_ GE390.out | refine below_set ?_ GE397.out) | exact HB.out)) hb); have NB390_406 := aM ((by rw [hg]; exact Nat.ne_of_lt (blk_lt (blk_mv BK390.out)) : gb390 ≠ gb406)); have NB406_390 := aM ((by rw [hg]; exact Nat.ne_of_gt (blk_lt (blk_mv BK390.out)) : gb406 ≠ gb390)); replace BK390 := aM (blk_below (blk_mv BK390.out) hb); have NB397_406 := aM ((by rw [hg]; exact Nat.ne_of_lt (blk_lt (blk_mv BK397.out)) : gb397 ≠ gb406)); have NB406_397 := aM ((by rw [hg]; exact Nat.ne_of_gt (blk_lt (blk_mv BK397.out)) : gb406 ≠ gb397)); replace BK397 := aM (blk_below (blk_mv BK397.out) hb); clear hb hbox hg; obtain ⟨Ao29, co29, eo29⟩ := Kd.R_slice HO400.out; subst eo29; have hnb30 := NB406_390.out; have hnc30 := NB390_406.out; have hnb31 := NB406_397.out; have hnc31 := NB397_406.out; obtain ⟨hcz32_0, hcz32_1, hcz32_2, hfz32_0, hfz32_1, hfz32_2⟩ := blk3 BK406.out; obtain ⟨Ao33, co33, eo33⟩ := Kd.R_slice HO403.out; subst eo33))
    (try simp only [Act.put, List.setIfInBounds_toArray, List.set_cons_zero, List.set_cons_succ])
    go_cut [] (fun wc => ∃ (kq : Nat) (x391000_19 : List (S32)) (x391001_19 : List Int) (x391002_19 : Int) (u391000 : Value) (u391001 : Value), Aside0 (minecontrollaw18_FeederStories.j1 kq (wrap64 (x5_1 + ((rd_T49 t391 x36_1).f2))) t391 (t391.length : Int) x36_1 x391000_19 x391001_19 x391002_19 = some r) ∧ Aside0 (kq ≤ k1) ∧ Aside0 (Kd.R k49 49 wc w.heap.size (fun k_ => k_ ≠ gb397) (.slice (some ad396) t391.length co15) t391) ∧ Aside0 (Kd.R k32 32 wc w.heap.size (fun _ => True) u391000 x391000_19) ∧ Aside0 (Kd.R (Kd.int .i64) 3 wc w.heap.size (fun _ => True) u391001 x391001_19) ∧ Aside0 (Kd.R k32 32 wc w.heap.size (fun _ => True) (.slice Ao29 t398.length co29) t398) ∧ Aside0 (Kd.R (Kd.int .i64) 3 wc w.heap.size (fun _ => True) (.slice Ao33 t401.length co33) t401) ∧ Aside0 (wc.heap[gb390]? = some (.cells #[u391000, u391001, .int .i64 x391002_19] 28 (0, 0))) ∧ Aside0 (wc.heap[gb397]? = some (.cells #[.int .i64 ((rd_T49 t391 x36_1).f0), .int .i64 ((rd_T49 t391 x36_1).f1), .int .i64 ((rd_T49 t391 x36_1).f2)] 49 (0, 0))) ∧ Aside0 (wc.heap[gb406]? = some (.cells #[(.slice Ao29 t398.length co29), (.slice Ao33 t401.length co33), .int .i64 t404] 28 (0, 0))) ∧ Aside0 (Below w.heap.size w wc))
    case first =>
     have H := HC20.out
     clear HC20
     by_cases c34 : t405 = 0
     ·
      rw [if_pos c34] at H
      have c34b0 : (t405 == 0) = true := beq_iff_eq.mpr c34
      have c34b1 : (t405 != 0) = false := bne_eq_false_iff_eq.mpr c34
      clear c34
      (first | rw [c34b0] | (simp only [i64_w, i32_w]; rw [c34b0]) | skip)
      have H' := aM H
      clear H
      have hnb35 := NB406_390.out
      have hnc35 := NB390_406.out
      have hnb36 := NB406_397.out
      have hnc36 := NB397_406.out
      obtain ⟨hcz37_0, hcz37_1, hcz37_2, hfz37_0, hfz37_1, hfz37_2⟩ := blk3 BK406.out
      have hnb38 := NB390_397.out
      have hnc38 := NB397_390.out
      obtain ⟨hcz39_0, hcz39_1, hcz39_2, hfz39_0, hfz39_1, hfz39_2⟩ := blk3 BK390.out
      go_wp2
      go_meet
      case rel => exact ⟨_, (t398), (t401), (t404), (.slice Ao29 t398.length co29), (.slice Ao33 t401.length co33), H', ⟨by have := HK1.out; first | omega | exact Nat.le_refl _⟩, ⟨by (with_reducible repeat (first | apply Kd.R_alloc | apply Kd.R_drewN | apply Kd.R_drew)); exact Kd.R_mono (Kd.R_far (p := ⟨gb390, 2, none⟩) (Kd.R_far (p := ⟨gb390, 1, none⟩) (Kd.R_far (p := ⟨gb390, 0, none⟩) (Kd.R_far (p := ⟨gb406, 2, none⟩) (Kd.R_far (p := ⟨gb406, 1, none⟩) (Kd.R_far (p := ⟨gb406, 0, none⟩) (Kd.R_types (Kd.R_types HO_34.out BK406.out (by decide)) BK390.out (by decide)) (fun _ hk => hk.1.2) (.slice Ao29 t398.length co29)) (fun _ hk => hk.1.2) (.slice Ao33 t401.length co33)) (fun _ hk => hk.1.2) (.int .i64 t404)) (fun _ hk => hk.2) (.slice Ao29 t398.length co29)) (fun _ hk => hk.2) (.slice Ao33 t401.length co33)) (fun _ hk => hk.2) (.int .i64 t404)) (fun _ hk => hk.1.1.2)⟩, ⟨by (with_reducible repeat (first | apply Kd.R_alloc | apply Kd.R_drewN | apply Kd.R_drew)); exact Kd.R_mono (Kd.R_far (p := ⟨gb390, 2, none⟩) (Kd.R_far (p := ⟨gb390, 1, none⟩) (Kd.R_far (p := ⟨gb390, 0, none⟩) (Kd.R_far (p := ⟨gb406, 2, none⟩) (Kd.R_far (p := ⟨gb406, 1, none⟩) (Kd.R_far (p := ⟨gb406, 0, none⟩) (Kd.R_types (Kd.R_types HO400.out BK406.out (by decide)) BK390.out (by decide)) (fun _ hk => hk.1.2) (.slice Ao29 t398.length co29)) (fun _ hk => hk.1.2) (.slice Ao33 t401.length co33)) (fun _ hk => hk.1.2) (.int .i64 t404)) (fun _ hk => hk.2) (.slice Ao29 t398.length co29)) (fun _ hk => hk.2) (.slice Ao33 t401.length co33)) (fun _ hk => hk.2) (.int .i64 t404)) (fun _ hk => trivial)⟩, ⟨by (with_reducible repeat (first | apply Kd.R_alloc | apply Kd.R_drewN | apply Kd.R_drew)); exact Kd.R_mono (Kd.R_far (p := ⟨gb390, 2, none⟩) (Kd.R_far (p := ⟨gb390, 1, none⟩) (Kd.R_far (p := ⟨gb390, 0, none⟩) (Kd.R_far (p := ⟨gb406, 2, none⟩) (Kd.R_far (p := ⟨gb406, 1, none⟩) (Kd.R_far (p := ⟨gb406, 0, none⟩) (Kd.R_types (Kd.R_types HO403.out BK406.out (by decide)) BK390.out (by decide)) (fun _ hk => hk.1.2) (.slice Ao29 t398.length co29)) (fun _ hk => hk.1.2) (.slice Ao33 t401.length co33)) (fun _ hk => hk.1.2) (.int .i64 t404)) (fun _ hk => hk.2) (.slice Ao29 t398.length co29)) (fun _ hk => hk.2) (.slice Ao33 t401.length co33)) (fun _ hk => hk.2) (.int .i64 t404)) (fun _ hk => trivial)⟩, ⟨by (with_reducible repeat (first | apply Kd.R_alloc | apply Kd.R_drewN | apply Kd.R_drew)); exact Kd.R_mono (Kd.R_far (p := ⟨gb390, 2, none⟩) (Kd.R_far (p := ⟨gb390, 1, none⟩) (Kd.R_far (p := ⟨gb390, 0, none⟩) (Kd.R_far (p := ⟨gb406, 2, none⟩) (Kd.R_far (p := ⟨gb406, 1, none⟩) (Kd.R_far (p := ⟨gb406, 0, none⟩) (Kd.R_types (Kd.R_types HO400.out BK406.out (by decide)) BK390.out (by decide)) (fun _ hk => hk.1.2) (.slice Ao29 t398.length co29)) (fun _ hk => hk.1.2) (.slice Ao33 t401.length co33)) (fun _ hk => hk.1.2) (.int .i64 t404)) (fun _ hk => hk.2) (.slice Ao29 t398.length co29)) (fun _ hk => hk.2) (.slice Ao33 t401.length co33)) (fun _ hk => hk.2) (.int .i64 t404)) (fun _ hk => trivial)⟩, ⟨by (with_reducible repeat (first | apply Kd.R_alloc | apply Kd.R_drewN | apply Kd.R_drew)); exact Kd.R_mono (Kd.R_far (p := ⟨gb390, 2, none⟩) (Kd.R_far (p := ⟨gb390, 1, none⟩) (Kd.R_far (p := ⟨gb390, 0, none⟩) (Kd.R_far (p := ⟨gb406, 2, none⟩) (Kd.R_far (p := ⟨gb406, 1, none⟩) (Kd.R_far (p := ⟨gb406, 0, none⟩) (Kd.R_types (Kd.R_types HO403.out BK406.out (by decide)) BK390.out (by decide)) (fun _ hk => hk.1.2) (.slice Ao29 t398.length co29)) (fun _ hk => hk.1.2) (.slice Ao33 t401.length co33)) (fun _ hk => hk.1.2) (.int .i64 t404)) (fun _ hk => hk.2) (.slice Ao29 t398.length co29)) (fun _ hk => hk.2) (.slice Ao33 t401.length co33)) (fun _ hk => hk.2) (.int .i64 t404)) (fun _ hk => trivial)⟩, ⟨by (with_reducible repeat (first | refine kN ?_ _ | refine kD ?_ | refine kA ?_ _)); refine blk_put (cs := #[.slice Ao29 t398.length co29, .slice Ao33 t401.length co33, .int .i64 x391002_1]) ?_ 2 _ rfl; (with_reducible repeat (first | refine kN ?_ _ | refine kD ?_ | refine kA ?_ _)); refine blk_put (cs := #[.slice Ao29 t398.length co29, .slice Ao26 x391001_1.length co26, .int .i64 x391002_1]) ?_ 1 _ rfl; (with_reducible repeat (first | refine kN ?_ _ | refine kD ?_ | refine kA ?_ _)); refine blk_put (cs := #[.slice Ao25 x391000_1.length co25, .slice Ao26 x391001_1.length co26, .int .i64 x391002_1]) ?_ 0 _ rfl; (with_reducible repeat (first | refine kN ?_ _ | refine kD ?_ | refine kA ?_ _)); refine blk_far ?_ NB390_406.out _; (with_reducible repeat (first | refine kN ?_ _ | refine kD ?_ | refine kA ?_ _)); refine blk_far ?_ NB390_406.out _; (with_reducible repeat (first | refine kN ?_ _ | refine kD ?_ | refine kA ?_ _)); refine blk_far ?_ NB390_406.out _; (with_reducible repeat (first | refine kN ?_ _ | refine kD ?_ | refine kA ?_ _)); exact BK390.out⟩, ⟨by (with_reducible repeat (first | refine kN ?_ _ | refine kD ?_ | refine kA ?_ _)); refine blk_far ?_ NB397_390.out _; (with_reducible repeat (first | refine kN ?_ _ | refine kD ?_ | refine kA ?_ _)); refine blk_far ?_ NB397_390.out _; (with_reducible repeat (first | refine kN ?_ _ | refine kD ?_ | refine kA ?_ _)); refine blk_far ?_ NB397_390.out _; (with_reducible repeat (first | refine kN ?_ _ | refine kD ?_ | refine kA ?_ _)); refine blk_far ?_ NB397_406.out _; (with_reducible repeat (first | refine kN ?_ _ | refine kD ?_ | refine kA ?_ _)); refine blk_far ?_ NB397_406.out _; (with_reducible repeat (first | refine kN ?_ _ | refine kD ?_ | refine kA ?_ _)); refine blk_far ?_ NB397_406.out _; (with_reducible repeat (first | refine kN ?_ _ | refine kD ?_ | refine kA ?_ _)); exact BK397.out⟩, ⟨by (with_reducible repeat (first | refine kN ?_ _ | refine kD ?_ | refine kA ?_ _)); refine blk_far ?_ NB406_390.out _; (with_reducible repeat (first | refine kN ?_ _ | refine kD ?_ | refine kA ?_ _)); refine blk_far ?_ NB406_390.out _; (with_reducible repeat (first | refine kN ?_ _ | refine kD ?_ | refine kA ?_ _)); refine blk_far ?_ NB406_390.out _; (with_reducible repeat (first | refine kN ?_ _ | refine kD ?_ | refine kA ?_ _)); refine blk_put (cs := #[.slice Ao29 t398.length co29, .slice Ao33 t401.length co33, .int .i64 0]) ?_ 2 _ rfl; (with_reducible repeat (first | refine kN ?_ _ | refine kD ?_ | refine kA ?_ _)); refine blk_put (cs := #[.slice Ao29 t398.length co29, .slice none 0 0, .int .i64 0]) ?_ 1 _ rfl; (with_reducible repeat (first | refine kN ?_ _ | refine kD ?_ | refine kA ?_ _)); refine blk_put (cs := #[.slice none 0 0, .slice none 0 0, .int .i64 0]) ?_ 0 _ rfl; (with_reducible repeat (first | refine kN ?_ _ | refine kD ?_ | refine kA ?_ _)); exact BK406.out⟩, ⟨by repeat (first | (with_reducible first | exact HB.out | apply bA | apply bN | apply bD | refine below_set ?_ GE390.out | refine below_set ?_ GE397.out | refine below_set ?_ GE406.out) | exact HB.out)⟩⟩
     rw [if_neg c34] at H
     have c34b0 : (t405 == 0) = false := beq_eq_false_iff_ne.mpr c34
     have c34b1 : (t405 != 0) = true := bne_iff_ne.mpr c34
     (first | rw [c34b0] | (simp only [i64_w, i32_w]; rw [c34b0]) | skip)
     have H' := aM H
     clear H
     go_wp2
     go_meet
     case rel => exact ⟨_, (x391000_1), (x391001_1), (x391002_1), (.slice Ao25 x391000_1.length co25), (.slice Ao26 x391001_1.length co26), H', ⟨by have := HK1.out; first | omega | exact Nat.le_refl _⟩, ⟨by (with_reducible repeat (first | apply Kd.R_alloc | apply Kd.R_drewN | apply Kd.R_drew)); exact Kd.R_mono (Kd.R_far (p := ⟨gb406, 2, none⟩) (Kd.R_far (p := ⟨gb406, 1, none⟩) (Kd.R_far (p := ⟨gb406, 0, none⟩) (Kd.R_types HO_34.out BK406.out (by decide)) (fun _ hk => hk.2) (.slice Ao29 t398.length co29)) (fun _ hk => hk.2) (.slice Ao33 t401.length co33)) (fun _ hk => hk.2) (.int .i64 t404)) (fun _ hk => hk.1.2)⟩, ⟨by (with_reducible repeat (first | apply Kd.R_alloc | apply Kd.R_drewN | apply Kd.R_drew)); exact Kd.R_mono (Kd.R_far (p := ⟨gb406, 2, none⟩) (Kd.R_far (p := ⟨gb406, 1, none⟩) (Kd.R_far (p := ⟨gb406, 0, none⟩) (Kd.R_types HO_391000.out BK406.out (by decide)) (fun _ hk => hk.2) (.slice Ao29 t398.length co29)) (fun _ hk => hk.2) (.slice Ao33 t401.length co33)) (fun _ hk => hk.2) (.int .i64 t404)) (fun _ hk => trivial)⟩, ⟨by (with_reducible repeat (first | apply Kd.R_alloc | apply Kd.R_drewN | apply Kd.R_drew)); exact Kd.R_mono (Kd.R_far (p := ⟨gb406, 2, none⟩) (Kd.R_far (p := ⟨gb406, 1, none⟩) (Kd.R_far (p := ⟨gb406, 0, none⟩) (Kd.R_types HO_391001.out BK406.out (by decide)) (fun _ hk => hk.2) (.slice Ao29 t398.length co29)) (fun _ hk => hk.2) (.slice Ao33 t401.length co33)) (fun _ hk => hk.2) (.int .i64 t404)) (fun _ hk => trivial)⟩, ⟨by (with_reducible repeat (first | apply Kd.R_alloc | apply Kd.R_drewN | apply Kd.R_drew)); exact Kd.R_mono (Kd.R_far (p := ⟨gb406, 2, none⟩) (Kd.R_far (p := ⟨gb406, 1, none⟩) (Kd.R_far (p := ⟨gb406, 0, none⟩) (Kd.R_types HO400.out BK406.out (by decide)) (fun _ hk => hk.2) (.slice Ao29 t398.length co29)) (fun _ hk => hk.2) (.slice Ao33 t401.length co33)) (fun _ hk => hk.2) (.int .i64 t404)) (fun _ hk => trivial)⟩, ⟨by (with_reducible repeat (first | apply Kd.R_alloc | apply Kd.R_drewN | apply Kd.R_drew)); exact Kd.R_mono (Kd.R_far (p := ⟨gb406, 2, none⟩) (Kd.R_far (p := ⟨gb406, 1, none⟩) (Kd.R_far (p := ⟨gb406, 0, none⟩) (Kd.R_types HO403.out BK406.out (by decide)) (fun _ hk => hk.2) (.slice Ao29 t398.length co29)) (fun _ hk => hk.2) (.slice Ao33 t401.length co33)) (fun _ hk => hk.2) (.int .i64 t404)) (fun _ hk => trivial)⟩, ⟨by (with_reducible repeat (first | refine kN ?_ _ | refine kD ?_ | refine kA ?_ _)); refine blk_far ?_ NB390_406.out _; (with_reducible repeat (first | refine kN ?_ _ | refine kD ?_ | refine kA ?_ _)); refine blk_far ?_ NB390_406.out _; (with_reducible repeat (first | refine kN ?_ _ | refine kD ?_ | refine kA ?_ _)); refine blk_far ?_ NB390_406.out _; (with_reducible repeat (first | refine kN ?_ _ | refine kD ?_ | refine kA ?_ _)); exact BK390.out⟩, ⟨by (with_reducible repeat (first | refine kN ?_ _ | refine kD ?_ | refine kA ?_ _)); refine blk_far ?_ NB397_406.out _; (with_reducible repeat (first | refine kN ?_ _ | refine kD ?_ | refine kA ?_ _)); refine blk_far ?_ NB397_406.out _; (with_reducible repeat (first | refine kN ?_ _ | refine kD ?_ | refine kA ?_ _)); refine blk_far ?_ NB397_406.out _; (with_reducible repeat (first | refine kN ?_ _ | refine kD ?_ | refine kA ?_ _)); exact BK397.out⟩, ⟨by (with_reducible repeat (first | refine kN ?_ _ | refine kD ?_ | refine kA ?_ _)); refine blk_put (cs := #[.slice Ao29 t398.length co29, .slice Ao33 t401.length co33, .int .i64 0]) ?_ 2 _ rfl; (with_reducible repeat (first | refine kN ?_ _ | refine kD ?_ | refine kA ?_ _)); refine blk_put (cs := #[.slice Ao29 t398.length co29, .slice none 0 0, .int .i64 0]) ?_ 1 _ rfl; (with_reducible repeat (first | refine kN ?_ _ | refine kD ?_ | refine kA ?_ _)); refine blk_put (cs := #[.slice none 0 0, .slice none 0 0, .int .i64 0]) ?_ 0 _ rfl; (with_reducible repeat (first | refine kN ?_ _ | refine kD ?_ | refine kA ?_ _)); exact BK406.out⟩, ⟨by repeat (first | (with_reducible first | exact HB.out | apply bA | apply bN | apply bD | refine below_set ?_ GE390.out | refine below_set ?_ GE397.out | refine below_set ?_ GE406.out) | exact HB.out)⟩⟩
    case rest =>
     clear HC20
     obtain ⟨kq, x391000_19, x391001_19, x391002_19, u391000, u391001, HA, HJ19, HO_34, HO_391000, HO_391001, HO_407000, HO_407001, BK390, BK397, BK406, HB⟩ := hcut
     cases kq with
     | zero => exact absurd HA.out (by simp [minecontrollaw18_FeederStories.j1])
     | succ kj19 =>
      have H := HA.out
      clear HA
      simp only [minecontrollaw18_FeederStories.j1] at H
      replace H := Option.bind_eq_some_iff.mp H
      obtain ⟨t407, A400, H⟩ := H
      replace H : (if t407 = 0 then ((feeder_Due.f kj19 x391000_19 x391001_19 x391002_19).bind fun t408 => (if t408 < 1099511627776 then (if t408 < (wrap64 (x5_1 + ((rd_T49 t391 x36_1).f2))) then (minecontrollaw18_FeederStories.j2 kj19 (wrap64 (x5_1 + ((rd_T49 t391 x36_1).f2))) t408 (wrap64 (x5_1 + ((rd_T49 t391 x36_1).f2))) t391 (t391.length : Int) x36_1 x391000_19 x391001_19 x391002_19) else (minecontrollaw18_FeederStories.j2 kj19 (wrap64 (x5_1 + ((rd_T49 t391 x36_1).f2))) t408 t408 t391 (t391.length : Int) x36_1 x391000_19 x391001_19 x391002_19)) else (minecontrollaw18_FeederStories.j4 kj19 (wrap64 (x5_1 + ((rd_T49 t391 x36_1).f2))) t391 (t391.length : Int) x36_1 x391000_19 x391001_19 x391002_19))) else (some false)) = some r := H
      have A40 := aM A400
      clear A400
      by_cases c41 : t407 = 0
      ·
       rw [if_pos c41] at H
       have c41b0 : (t407 == 0) = true := beq_iff_eq.mpr c41
       have c41b1 : (t407 != 0) = false := bne_eq_false_iff_eq.mpr c41
       clear c41
       replace H := Option.bind_eq_some_iff.mp H
       obtain ⟨t408, A420, H⟩ := H
       replace H : (if t408 < 1099511627776 then (if t408 < (wrap64 (x5_1 + ((rd_T49 t391 x36_1).f2))) then (minecontrollaw18_FeederStories.j2 kj19 (wrap64 (x5_1 + ((rd_T49 t391 x36_1).f2))) t408 (wrap64 (x5_1 + ((rd_T49 t391 x36_1).f2))) t391 (t391.length : Int) x36_1 x391000_19 x391001_19 x391002_19) else (minecontrollaw18_FeederStories.j2 kj19 (wrap64 (x5_1 + ((rd_T49 t391 x36_1).f2))) t408 t408 t391 (t391.length : Int) x36_1 x391000_19 x391001_19 x391002_19)) else (minecontrollaw18_FeederStories.j4 kj19 (wrap64 (x5_1 + ((rd_T49 t391 x36_1).f2))) t391 (t391.length : Int) x36_1 x391000_19 x391001_19 x391002_19)) = some r := H
       have A42 := aM A420
       clear A420
       have HC43 := aM H
       clear H
       have hnb44 := NB390_397.out
       have hnc44 := NB397_390.out
       have hnb45 := NB390_406.out
       have hnc45 := NB406_390.out
       obtain ⟨hcz46_0, hcz46_1, hcz46_2, hfz46_0, hfz46_1, hfz46_2⟩ := blk3 BK390.out
       obtain ⟨Ao47, co47, eo47⟩ := Kd.R_slice HO_391000.out
       subst eo47
       obtain ⟨Ao48, co48, eo48⟩ := Kd.R_slice HO_391001.out
       subst eo48
       go_upto_if 60 with (first | ((with_reducible refine gate_callee (f := 23) rfl ?_); refine goesL_ (some 55) rfl rfl Try.func23 (by kernel_rfl) rfl #[.agg #[.slice Ao47 x391000_19.length co47, .slice Ao48 x391001_19.length co48, .int .i64 x391002_19]] rfl (by first | rfl | (simp only [List.map_toArray, List.map_cons, List.map_nil, List.length_drop, List.length_take]; try rfl)) ?_; (with_reducible refine (feeder_Check.calls kj19 _ _ x391000_19 _ _ x391001_19 x391002_19 t407 _ ?side1 ?side2 ?side3 ?side4 A40.out).mono ?_); (case side1 => repeat (first | exact (Kd.R_reads' HO_391000.out).2.2 | (with_reducible refine Kd.C_alloc ?_ _) | (with_reducible refine Kd.C_drewN ?_ _) | (with_reducible refine Kd.C_drew ?_))); (case side2 => exact (Kd.R_reads' HO_391000.out).2.1); (case side3 => repeat (first | exact (Kd.R_reads' HO_391001.out).2.2 | (with_reducible refine Kd.C_alloc ?_ _) | (with_reducible refine Kd.C_drewN ?_ _) | (with_reducible refine Kd.C_drew ?_))); (case side4 => exact (Kd.R_reads' HO_391001.out).2.1); rintro e w49 ⟨rfl, hb⟩; refine ⟨_, rfl, ?_⟩; replace HO_34 := aM (Kd.R_below (R_mv HO_34.out) hb); replace HO_391000 := aM (Kd.R_below (R_mv HO_391000.out) hb); replace HO_391001 := aM (Kd.R_below (R_mv HO_391001.out) hb); replace HO_407000 := aM (Kd.R_below (R_mv HO_407000.out) hb); replace HO_407001 := aM (Kd.R_below (R_mv HO_407001.out) hb); replace BK390 := aM (blk_below (blk_mv BK390.out) hb); replace BK397 := aM (blk_below (blk_mv BK397.out) hb); replace BK406 := aM (blk_below (blk_mv BK406.out) hb); replace HB := aM (below_step (by repeat (first | (with_reducible first | exact HB.out | apply bA | apply bN | apply bD | refine below_set ?_ GE390.out | refine below_set ?_ GE397.out | refine below_set ?_ GE406.out) | exact HB.out)) hb); (try clear hb); (try clear hb2); (try clear hge); (try clear hk); (try clear hi); obtain ⟨hcz50_0, hcz50_1, hcz50_2, hfz50_0, hfz50_1, hfz50_2⟩ := blk3 BK390.out) | ((with_reducible refine gate_callee (f := 15) rfl ?_); refine goesL_ (some 58) rfl rfl Try.func15 (by kernel_rfl) rfl #[.agg #[.slice Ao47 x391000_19.length co47, .slice Ao48 x391001_19.length co48, .int .i64 x391002_19]] rfl (by first | rfl | (simp only [List.map_toArray, List.map_cons, List.map_nil, List.length_drop, List.length_take]; try rfl)) ?_; (with_reducible refine (feeder_Due.calls kj19 _ _ x391000_19 _ _ x391001_19 x391002_19 t408 _ ?side1 ?side2 ?side3 ?side4 A42.out).mono ?_); (case side1 => repeat (first | exact (Kd.R_reads' HO_391000.out).2.2 | (with_reducible refine Kd.C_alloc ?_ _) | (with_reducible refine Kd.C_drewN ?_ _) | (with_reducible refine Kd.C_drew ?_))); (case side2 => exact (Kd.R_reads' HO_391000.out).2.1); (case side3 => repeat (first | exact (Kd.R_reads' HO_391001.out).2.2 | (with_reducible refine Kd.C_alloc ?_ _) | (with_reducible refine Kd.C_drewN ?_ _) | (with_reducible refine Kd.C_drew ?_))); (case side4 => exact (Kd.R_reads' HO_391001.out).2.1); rintro e w51 ⟨rfl, hb⟩; refine ⟨_, rfl, ?_⟩; replace HO_34 := aM (Kd.R_below (R_mv HO_34.out) hb); replace HO_391000 := aM (Kd.R_below (R_mv HO_391000.out) hb); replace HO_391001 := aM (Kd.R_below (R_mv HO_391001.out) hb); replace HO_407000 := aM (Kd.R_below (R_mv HO_407000.out) hb); replace HO_407001 := aM (Kd.R_below (R_mv HO_407001.out) hb); replace BK390 := aM (blk_below (blk_mv BK390.out) hb); replace BK397 := aM (blk_below (blk_mv BK397.out) hb); replace BK406 := aM (blk_below (blk_mv BK406.out) hb); replace HB := aM (below_step (by repeat (first | (with_reducible first | exact HB.out | apply bA | apply bN | apply bD | refine below_set ?_ GE390.out | refine below_set ?_ GE397.out | refine below_set ?_ GE406.out) | exact HB.out)) hb); (try clear hb); (try clear hb2); (try clear hge); (try clear hk); (try clear hi)))
       (try simp only [Act.put, List.setIfInBounds_toArray, List.set_cons_zero, List.set_cons_succ])
       go_cut [] (fun wc => ∃ (kq : Nat), Aside0 (minecontrollaw18_FeederStories.j4 kq (wrap64 (x5_1 + ((rd_T49 t391 x36_1).f2))) t391 (t391.length : Int) x36_1 x391000_19 x391001_19 x391002_19 = some r) ∧ Aside0 (kq ≤ kj19) ∧ Aside0 (Kd.R k49 49 wc w.heap.size (fun k_ => k_ ≠ gb397) (.slice (some ad396) t391.length co15) t391) ∧ Aside0 (Kd.R k32 32 wc w.heap.size (fun _ => True) (.slice Ao47 x391000_19.length co47) x391000_19) ∧ Aside0 (Kd.R (Kd.int .i64) 3 wc w.heap.size (fun _ => True) (.slice Ao48 x391001_19.length co48) x391001_19) ∧ Aside0 (Kd.R k32 32 wc w.heap.size (fun _ => True) (.slice Ao29 t398.length co29) t398) ∧ Aside0 (Kd.R (Kd.int .i64) 3 wc w.heap.size (fun _ => True) (.slice Ao33 t401.length co33) t401) ∧ Aside0 (wc.heap[gb390]? = some (.cells #[(.slice Ao47 x391000_19.length co47), (.slice Ao48 x391001_19.length co48), .int .i64 x391002_19] 28 (0, 0))) ∧ Aside0 (wc.heap[gb397]? = some (.cells #[.int .i64 ((rd_T49 t391 x36_1).f0), .int .i64 ((rd_T49 t391 x36_1).f1), .int .i64 ((rd_T49 t391 x36_1).f2)] 49 (0, 0))) ∧ Aside0 (wc.heap[gb406]? = some (.cells #[(.slice Ao29 t398.length co29), (.slice Ao33 t401.length co33), .int .i64 t404] 28 (0, 0))) ∧ Aside0 (Below w.heap.size w wc))
       case first =>
        have H := HC43.out
        clear HC43
        by_cases c52 : t408 < 1099511627776
        ·
         rw [if_pos c52] at H
         have c52b0 : decide (t408 < 1099511627776) = true := decide_eq_true c52
         clear c52
         (first | rw [c52b0] | (simp only [i64_w, i32_w]; rw [c52b0]) | skip)
         have HC53 := aM H
         clear H
         go_upto_if 64 with (fail)
         go_cut [11] (fun v11 wc => ∃ (kq : Nat) (x11_52 : Int), v11 = .int .i64 x11_52 ∧ Aside0 (minecontrollaw18_FeederStories.j2 kq (wrap64 (x5_1 + ((rd_T49 t391 x36_1).f2))) t408 x11_52 t391 (t391.length : Int) x36_1 x391000_19 x391001_19 x391002_19 = some r) ∧ Aside0 (kq ≤ kj19) ∧ Aside0 (Kd.R k49 49 wc w.heap.size (fun k_ => k_ ≠ gb397) (.slice (some ad396) t391.length co15) t391) ∧ Aside0 (Kd.R k32 32 wc w.heap.size (fun _ => True) (.slice Ao47 x391000_19.length co47) x391000_19) ∧ Aside0 (Kd.R (Kd.int .i64) 3 wc w.heap.size (fun _ => True) (.slice Ao48 x391001_19.length co48) x391001_19) ∧ Aside0 (Kd.R k32 32 wc w.heap.size (fun _ => True) (.slice Ao29 t398.length co29) t398) ∧ Aside0 (Kd.R (Kd.int .i64) 3 wc w.heap.size (fun _ => True) (.slice Ao33 t401.length co33) t401) ∧ Aside0 (wc.heap[gb390]? = some (.cells #[(.slice Ao47 x391000_19.length co47), (.slice Ao48 x391001_19.length co48), .int .i64 x391002_19] 28 (0, 0))) ∧ Aside0 (wc.heap[gb397]? = some (.cells #[.int .i64 ((rd_T49 t391 x36_1).f0), .int .i64 ((rd_T49 t391 x36_1).f1), .int .i64 ((rd_T49 t391 x36_1).f2)] 49 (0, 0))) ∧ Aside0 (wc.heap[gb406]? = some (.cells #[(.slice Ao29 t398.length co29), (.slice Ao33 t401.length co33), .int .i64 t404] 28 (0, 0))) ∧ Aside0 (Below w.heap.size w wc))
         case first =>
          have H := HC53.out
          clear HC53
          by_cases c54 : t408 < (wrap64 (x5_1 + ((rd_T49 t391 x36_1).f2)))
          ·
           rw [if_pos c54] at H
           have c54b0 : decide (t408 < (wrap64 (x5_1 + ((rd_T49 t391 x36_1).f2)))) = true := decide_eq_true c54
           clear c54
           (first | rw [c54b0] | (simp only [i64_w, i32_w]; rw [c54b0]) | skip)
           have H' := aM H
           clear H
           go_wp2
           go_meet
           case rel => exact ⟨_, ((wrap64 (x5_1 + ((rd_T49 t391 x36_1).f2)))), (by first | rfl | (simp; done) | (simp [*]; done)), H', ⟨by have := HK1.out; have := HJ19.out; first | omega | exact Nat.le_refl _⟩, ⟨by (with_reducible repeat (first | apply Kd.R_alloc | apply Kd.R_drewN | apply Kd.R_drew)); exact HO_34.out⟩, ⟨by (with_reducible repeat (first | apply Kd.R_alloc | apply Kd.R_drewN | apply Kd.R_drew)); exact HO_391000.out⟩, ⟨by (with_reducible repeat (first | apply Kd.R_alloc | apply Kd.R_drewN | apply Kd.R_drew)); exact HO_391001.out⟩, ⟨by (with_reducible repeat (first | apply Kd.R_alloc | apply Kd.R_drewN | apply Kd.R_drew)); exact HO_407000.out⟩, ⟨by (with_reducible repeat (first | apply Kd.R_alloc | apply Kd.R_drewN | apply Kd.R_drew)); exact HO_407001.out⟩, ⟨blk_mv BK390.out⟩, ⟨blk_mv BK397.out⟩, ⟨blk_mv BK406.out⟩, ⟨by repeat (first | (with_reducible first | exact HB.out | apply bA | apply bN | apply bD | refine below_set ?_ GE390.out | refine below_set ?_ GE397.out | refine below_set ?_ GE406.out) | exact HB.out)⟩⟩
          rw [if_neg c54] at H
          have c54b0 : decide (t408 < (wrap64 (x5_1 + ((rd_T49 t391 x36_1).f2)))) = false := decide_eq_false c54
          clear c54
          (first | rw [c54b0] | (simp only [i64_w, i32_w]; rw [c54b0]) | skip)
          have H' := aM H
          clear H
          go_wp2
          go_meet
          case rel => exact ⟨_, (t408), (by first | rfl | (simp; done) | (simp [*]; done)), H', ⟨by have := HK1.out; have := HJ19.out; first | omega | exact Nat.le_refl _⟩, ⟨by (with_reducible repeat (first | apply Kd.R_alloc | apply Kd.R_drewN | apply Kd.R_drew)); exact HO_34.out⟩, ⟨by (with_reducible repeat (first | apply Kd.R_alloc | apply Kd.R_drewN | apply Kd.R_drew)); exact HO_391000.out⟩, ⟨by (with_reducible repeat (first | apply Kd.R_alloc | apply Kd.R_drewN | apply Kd.R_drew)); exact HO_391001.out⟩, ⟨by (with_reducible repeat (first | apply Kd.R_alloc | apply Kd.R_drewN | apply Kd.R_drew)); exact HO_407000.out⟩, ⟨by (with_reducible repeat (first | apply Kd.R_alloc | apply Kd.R_drewN | apply Kd.R_drew)); exact HO_407001.out⟩, ⟨blk_mv BK390.out⟩, ⟨blk_mv BK397.out⟩, ⟨blk_mv BK406.out⟩, ⟨by repeat (first | (with_reducible first | exact HB.out | apply bA | apply bN | apply bD | refine below_set ?_ GE390.out | refine below_set ?_ GE397.out | refine below_set ?_ GE406.out) | exact HB.out)⟩⟩
         case rest =>
          clear HC53
          obtain ⟨kq, x11_52, rfl, HA, HJ52, HO_34, HO_391000, HO_391001, HO_407000, HO_407001, BK390, BK397, BK406, HB⟩ := hcut
          cases kq with
          | zero => exact absurd HA.out (by simp [minecontrollaw18_FeederStories.j2])
          | succ kj52 =>
           have H := HA.out
           clear HA
           simp only [minecontrollaw18_FeederStories.j2] at H
           replace H := Option.bind_eq_some_iff.mp H
           obtain ⟨⟨t409, t412, t415, t416, t419, t422⟩, A550, H⟩ := H
           replace H : (if t422 = 0 then ((minecontrolref18_Same.f kj52 t409 t412 t415 x391000_19 x391001_19 x391002_19).bind fun t424 => (minecontrollaw18_FeederStories.j3 kj52 (wrap64 (x5_1 + ((rd_T49 t391 x36_1).f2))) t408 t391 (t391.length : Int) x36_1 t424 x391000_19 x391001_19 x391002_19)) else (minecontrollaw18_FeederStories.j3 kj52 (wrap64 (x5_1 + ((rd_T49 t391 x36_1).f2))) t408 t391 (t391.length : Int) x36_1 true x391000_19 x391001_19 x391002_19)) = some r := H
           have A55 := aM A550
           clear A550
           have HC56 := aM H
           clear H
           have hnb57 := NB390_397.out
           have hnc57 := NB397_390.out
           have hnb58 := NB390_406.out
           have hnc58 := NB406_390.out
           obtain ⟨hcz59_0, hcz59_1, hcz59_2, hfz59_0, hfz59_1, hfz59_2⟩ := blk3 BK390.out
           go_upto_region 19 with (first | ((with_reducible refine gate_callee (f := 16) rfl ?_); refine goesL_ (some 69) rfl rfl Try.func16 (by kernel_rfl) rfl #[.agg #[.slice Ao47 x391000_19.length co47, .slice Ao48 x391001_19.length co48, .int .i64 x391002_19], .int .i64 x11_52] rfl (by first | rfl | (simp only [List.map_toArray, List.map_cons, List.map_nil, List.length_drop, List.length_take]; try rfl)) ?_; (with_reducible refine (feeder_Tick.calls kj52 _ _ x391000_19 _ _ x391001_19 x391002_19 x11_52 t409 t412 t415 t416 t419 t422 _ ?side1 ?side2 ?side3 ?side4 A55.out).mono ?_); (case side1 => repeat (first | exact (Kd.R_reads' HO_391000.out).2.2 | (with_reducible refine Kd.C_alloc ?_ _) | (with_reducible refine Kd.C_drewN ?_ _) | (with_reducible refine Kd.C_drew ?_))); (case side2 => exact (Kd.R_reads' HO_391000.out).2.1); (case side3 => repeat (first | exact (Kd.R_reads' HO_391001.out).2.2 | (with_reducible refine Kd.C_alloc ?_ _) | (with_reducible refine Kd.C_drewN ?_ _) | (with_reducible refine Kd.C_drew ?_))); (case side4 => exact (Kd.R_reads' HO_391001.out).2.1); rintro e w60 ⟨v410, v413, v417, v420, rfl, ho0, ho1, ho2, ho3, hb⟩; refine ⟨_, rfl, ?_⟩; replace HO_34 := aM (Kd.R_below (R_mv HO_34.out) hb); have HO411 := aM (Kd.R_lower (Kd.R_new' (Kd.R_new' ho0 (Kd.R_lt (R_mv HO_391000.out))) (Kd.R_lt (R_mv HO_407000.out))) (below_size (by repeat (first | (with_reducible first | exact HB.out | apply bA | apply bN | apply bD | refine below_set ?_ GE390.out | refine below_set ?_ GE397.out | refine below_set ?_ GE406.out) | exact HB.out)))); replace HO_391000 := aM (Kd.R_elder' (R_mv HO_391000.out) (Kd.R_base ho0) hb); replace HO_407000 := aM (Kd.R_elder' (R_mv HO_407000.out) (Kd.R_base ho0) hb); have HO414 := aM (Kd.R_lower (Kd.R_new' (Kd.R_new' ho1 (Kd.R_lt (R_mv HO_391001.out))) (Kd.R_lt (R_mv HO_407001.out))) (below_size (by repeat (first | (with_reducible first | exact HB.out | apply bA | apply bN | apply bD | refine below_set ?_ GE390.out | refine below_set ?_ GE397.out | refine below_set ?_ GE406.out) | exact HB.out)))); have HO418 := aM (Kd.R_lower (Kd.R_new' (Kd.R_new' ho2 (Kd.R_lt (R_mv HO_391001.out))) (Kd.R_lt (R_mv HO_407001.out))) (below_size (by repeat (first | (with_reducible first | exact HB.out | apply bA | apply bN | apply bD | refine below_set ?_ GE390.out | refine below_set ?_ GE397.out | refine below_set ?_ GE406.out) | exact HB.out)))); have HO421 := aM (Kd.R_lower (Kd.R_new' (Kd.R_new' ho3 (Kd.R_lt (R_mv HO_391001.out))) (Kd.R_lt (R_mv HO_407001.out))) (below_size (by repeat (first | (with_reducible first | exact HB.out | apply bA | apply bN | apply bD | refine below_set ?_ GE390.out | refine below_set ?_ GE397.out | refine below_set ?_ GE406.out) | exact HB.out)))); replace HO_391001 := aM (Kd.R_mono (Kd.R_told (Kd.R_told (Kd.R_told (Kd.R_old (R_mv HO_391001.out) hb) (Kd.R_base ho1)) (Kd.R_base ho2)) (Kd.R_base ho3)) (fun _ h_ => h_.1)); replace HO_407001 := aM (Kd.R_mono (Kd.R_told (Kd.R_told (Kd.R_told (Kd.R_old (R_mv HO_407001.out) hb) (Kd.R_base ho1)) (Kd.R_base ho2)) (Kd.R_base ho3)) (fun _ h_ => h_.1)); replace BK390 := aM (blk_below (blk_mv BK390.out) hb); replace BK397 := aM (blk_below (blk_mv BK397.out) hb); replace BK406 := aM (blk_below (blk_mv BK406.out) hb); replace HB := aM (below_step (by repeat (first | (with_reducible first | exact HB.out | apply bA | apply bN | apply bD | refine below_set ?_ GE390.out | refine below_set ?_ GE397.out | refine below_set ?_ GE406.out) | exact HB.out)) hb); (try clear hb); (try clear hb2); (try clear hge); (try clear hk); (try clear hi); (try clear ho0); (try clear ho1); (try clear ho2); (try clear ho3)) | ((with_reducible refine gate_dst (N := 12) rfl ?_); refine box_event ?hg (N := 12) ?hd (cs := #[.slice none 0 0, .slice none 0 0, .int .i64 0]) (t := 28) ?hr ?_; (case hd => rfl); (case hg => rfl); (case hr => first | (go_simp; done) | (go_simp; rfl)); intro gb423 hg w61 hbox hb; replace HO_34 := aM (Kd.R_below (R_mv HO_34.out) hb); replace HO_391000 := aM (Kd.R_below (R_mv HO_391000.out) hb); replace HO_391001 := aM (Kd.R_below (R_mv HO_391001.out) hb); replace HO_407000 := aM (Kd.R_below (R_mv HO_407000.out) hb); replace HO_407001 := aM (Kd.R_below (R_mv HO_407001.out) hb); replace HO411 := aM (Kd.R_below (R_mv HO411.out) hb); replace HO414 := aM (Kd.R_below (R_mv HO414.out) hb); replace HO418 := aM (Kd.R_below (R_mv HO418.out) hb); replace HO421 := aM (Kd.R_below (R_mv HO421.out) hb); have BK423 := aM (hbox); have GW423 := aM ((by rw [hg]; exact (below_size (by repeat (first | (with_reducible first | exact HB.out | apply bA | apply bN | apply bD | refine below_set ?_ GE390.out | refine below_set ?_ GE397.out | refine below_set ?_ GE406.out) | exact HB.out))) : w.heap.size ≤ gb423)); have GE423 := aM ((by rw [hg]; exact (below_size (by repeat (first | (with_reducible first | exact HB.out | apply bA | apply bN | apply bD | refine below_set ?_ GE390.out | refine below_set ?_ GE397.out | refine below_set ?_ GE406.out) | exact HB.out))) : w.heap.size ≤ gb423)); replace HB := aM (below_step (by repeat (first | (with_reducible first | exact HB.out | apply bA | apply bN | apply bD | refine below_set ?_ GE390.out | refine below_set ?_ GE397.out | refine below_set ?_ GE406.out) | exact HB.out)) hb); have NB390_423 := aM ((by rw [hg]; exact Nat.ne_of_lt (blk_lt (blk_mv BK390.out)) : gb390 ≠ gb423)); have NB423_390 := aM ((by rw [hg]; exact Nat.ne_of_gt (blk_lt (blk_mv BK390.out)) : gb423 ≠ gb390)); replace BK390 := aM (blk_below (blk_mv BK390.out) hb); have NB397_423 := aM ((by rw [hg]; exact Nat.ne_of_lt (blk_lt (blk_mv BK397.out)) : gb397 ≠ gb423)); have NB423_397 := aM ((by rw [hg]; exact Nat.ne_of_gt (blk_lt (blk_mv BK397.out)) : gb423 ≠ gb397)); replace BK397 := aM (blk_below (blk_mv BK397.out) hb); have NB406_423 := aM ((by rw [hg]; exact Nat.ne_of_lt (blk_lt (blk_mv BK406.out)) : gb406 ≠ gb423)); have NB423_406 := aM ((by rw [hg]; exact Nat.ne_of_gt (blk_lt (blk_mv BK406.out)) : gb423 ≠ gb406)); replace BK406 := aM (blk_below (blk_mv BK406.out) hb); clear hb hbox hg; obtain ⟨Ao62, co62, eo62⟩ := Kd.R_slice HO411.out; subst eo62; have hnb63 := NB423_390.out; have hnc63 := NB390_423.out; have hnb64 := NB423_397.out; have hnc64 := NB397_423.out; have hnb65 := NB423_406.out; have hnc65 := NB406_423.out; obtain ⟨hcz66_0, hcz66_1, hcz66_2, hfz66_0, hfz66_1, hfz66_2⟩ := blk3 BK423.out; obtain ⟨Ao67, co67, eo67⟩ := Kd.R_slice HO414.out; subst eo67))
           (try simp only [Act.put, List.setIfInBounds_toArray, List.set_cons_zero, List.set_cons_succ])
           go_cut [80] (fun v80 wc => ∃ (kq : Nat) (x80_55 : Bool), v80 = .bool x80_55 ∧ Aside0 (minecontrollaw18_FeederStories.j3 kq (wrap64 (x5_1 + ((rd_T49 t391 x36_1).f2))) t408 t391 (t391.length : Int) x36_1 x80_55 x391000_19 x391001_19 x391002_19 = some r) ∧ Aside0 (kq ≤ kj52) ∧ Aside0 (Kd.R k49 49 wc w.heap.size (fun k_ => k_ ≠ gb397) (.slice (some ad396) t391.length co15) t391) ∧ Aside0 (Kd.R k32 32 wc w.heap.size (fun k_ => some k_ ≠ ((.slice Ao62 t409.length co62) : Value).ownBlock) (.slice Ao47 x391000_19.length co47) x391000_19) ∧ Aside0 (Kd.R (Kd.int .i64) 3 wc w.heap.size (fun k_ => some k_ ≠ ((.slice Ao67 t412.length co67) : Value).ownBlock) (.slice Ao48 x391001_19.length co48) x391001_19) ∧ Aside0 (Kd.R k32 32 wc w.heap.size (fun k_ => some k_ ≠ ((.slice Ao62 t409.length co62) : Value).ownBlock) (.slice Ao29 t398.length co29) t398) ∧ Aside0 (Kd.R (Kd.int .i64) 3 wc w.heap.size (fun k_ => some k_ ≠ ((.slice Ao67 t412.length co67) : Value).ownBlock) (.slice Ao33 t401.length co33) t401) ∧ Aside0 (Kd.R k32 32 wc w.heap.size (fun k_ => some k_ ≠ ((.slice Ao47 x391000_19.length co47) : Value).ownBlock ∧ some k_ ≠ ((.slice Ao29 t398.length co29) : Value).ownBlock) (.slice Ao62 t409.length co62) t409) ∧ Aside0 (Kd.R (Kd.int .i64) 3 wc w.heap.size (fun k_ => some k_ ≠ ((.slice Ao48 x391001_19.length co48) : Value).ownBlock ∧ some k_ ≠ ((.slice Ao33 t401.length co33) : Value).ownBlock) (.slice Ao67 t412.length co67) t412) ∧ Aside0 (wc.heap[gb390]? = some (.cells #[(.slice Ao47 x391000_19.length co47), (.slice Ao48 x391001_19.length co48), .int .i64 x391002_19] 28 (0, 0))) ∧ Aside0 (wc.heap[gb397]? = some (.cells #[.int .i64 ((rd_T49 t391 x36_1).f0), .int .i64 ((rd_T49 t391 x36_1).f1), .int .i64 ((rd_T49 t391 x36_1).f2)] 49 (0, 0))) ∧ Aside0 (wc.heap[gb406]? = some (.cells #[(.slice Ao29 t398.length co29), (.slice Ao33 t401.length co33), .int .i64 t404] 28 (0, 0))) ∧ Aside0 (wc.heap[gb423]? = some (.cells #[(.slice Ao62 t409.length co62), (.slice Ao67 t412.length co67), .int .i64 t415] 28 (0, 0))) ∧ Aside0 (Below w.heap.size w wc))
           case first =>
            have H := HC56.out
            clear HC56
            by_cases c68 : t422 = 0
            ·
             rw [if_pos c68] at H
             have c68b0 : (t422 == 0) = true := beq_iff_eq.mpr c68
             have c68b1 : (t422 != 0) = false := bne_eq_false_iff_eq.mpr c68
             clear c68
             (first | rw [c68b0] | (simp only [i64_w, i32_w]; rw [c68b0]) | skip)
             replace H := Option.bind_eq_some_iff.mp H
             obtain ⟨t424, A690, H⟩ := H
             replace H : (minecontrollaw18_FeederStories.j3 kj52 (wrap64 (x5_1 + ((rd_T49 t391 x36_1).f2))) t408 t391 (t391.length : Int) x36_1 t424 x391000_19 x391001_19 x391002_19) = some r := H
             have A69 := aM A690
             clear A690
             have H' := aM H
             clear H
             have hnb70 := NB423_390.out
             have hnc70 := NB390_423.out
             have hnb71 := NB423_397.out
             have hnc71 := NB397_423.out
             have hnb72 := NB423_406.out
             have hnc72 := NB406_423.out
             obtain ⟨hcz73_0, hcz73_1, hcz73_2, hfz73_0, hfz73_1, hfz73_2⟩ := blk3 BK423.out
             have hnb74 := NB390_397.out
             have hnc74 := NB397_390.out
             have hnb75 := NB390_406.out
             have hnc75 := NB406_390.out
             obtain ⟨hcz76_0, hcz76_1, hcz76_2, hfz76_0, hfz76_1, hfz76_2⟩ := blk3 BK390.out
             go_wp2_with (first | (go_at_call 24; (with_reducible refine (minecontrolref18_Same.calls kj52 _ _ t409 _ _ t412 t415 _ _ x391000_19 _ _ x391001_19 x391002_19 t424 _ ?side1 ?side2 ?side3 ?side4 ?side5 ?side6 ?side7 ?side8 A69.out).mono ?_); (case side1 => refine (Kd.R_reads' (e := 32) (base := w.heap.size) (ok := fun k_ => ((True ∧ some k_ ≠ (.slice Ao47 x391000_19.length co47 : Value).ownBlock) ∧ some k_ ≠ (.slice Ao29 t398.length co29 : Value).ownBlock)) (n := t409.length) (c := co62) ?_).2.2; exact (by (with_reducible repeat (first | apply Kd.R_alloc | apply Kd.R_drewN | apply Kd.R_drew)); exact (Kd.R_mono (Kd.R_far (p := ⟨gb423, 2, none⟩) (Kd.R_far (p := ⟨gb423, 1, none⟩) (Kd.R_far (p := ⟨gb423, 0, none⟩) (Kd.R_types HO411.out BK423.out (by decide)) (fun _ hk => hk.2) (.slice Ao62 t409.length co62)) (fun _ hk => hk.2) (.slice Ao67 t412.length co67)) (fun _ hk => hk.2) (.int .i64 t415)) (fun _ h_ => h_.1)))); (case side2 => exact (Kd.R_reads' HO411.out).2.1); (case side3 => refine (Kd.R_reads' (e := 3) (base := w.heap.size) (ok := fun k_ => (((some k_ ≠ (v417 : Value).ownBlock ∧ some k_ ≠ (v420 : Value).ownBlock) ∧ some k_ ≠ (.slice Ao48 x391001_19.length co48 : Value).ownBlock) ∧ some k_ ≠ (.slice Ao33 t401.length co33 : Value).ownBlock)) (n := t412.length) (c := co67) ?_).2.2; exact (by (with_reducible repeat (first | apply Kd.R_alloc | apply Kd.R_drewN | apply Kd.R_drew)); exact (Kd.R_mono (Kd.R_far (p := ⟨gb423, 2, none⟩) (Kd.R_far (p := ⟨gb423, 1, none⟩) (Kd.R_far (p := ⟨gb423, 0, none⟩) (Kd.R_types HO414.out BK423.out (by decide)) (fun _ hk => hk.2) (.slice Ao62 t409.length co62)) (fun _ hk => hk.2) (.slice Ao67 t412.length co67)) (fun _ hk => hk.2) (.int .i64 t415)) (fun _ h_ => h_.1)))); (case side4 => exact (Kd.R_reads' HO414.out).2.1); (case side5 => refine (Kd.R_reads' (e := 32) (base := w.heap.size) (ok := fun k_ => (True ∧ some k_ ≠ (.slice Ao62 t409.length co62 : Value).ownBlock)) (n := x391000_19.length) (c := co47) ?_).2.2; exact (by (with_reducible repeat (first | apply Kd.R_alloc | apply Kd.R_drewN | apply Kd.R_drew)); exact (Kd.R_mono (Kd.R_far (p := ⟨gb423, 2, none⟩) (Kd.R_far (p := ⟨gb423, 1, none⟩) (Kd.R_far (p := ⟨gb423, 0, none⟩) (Kd.R_types HO_391000.out BK423.out (by decide)) (fun _ hk => hk.2) (.slice Ao62 t409.length co62)) (fun _ hk => hk.2) (.slice Ao67 t412.length co67)) (fun _ hk => hk.2) (.int .i64 t415)) (fun _ h_ => h_.1)))); (case side6 => exact (Kd.R_reads' HO_391000.out).2.1); (case side7 => refine (Kd.R_reads' (e := 3) (base := w.heap.size) (ok := fun k_ => (((True ∧ some k_ ≠ (.slice Ao67 t412.length co67 : Value).ownBlock) ∧ some k_ ≠ (v417 : Value).ownBlock) ∧ some k_ ≠ (v420 : Value).ownBlock)) (n := x391001_19.length) (c := co48) ?_).2.2; exact (by (with_reducible repeat (first | apply Kd.R_alloc | apply Kd.R_drewN | apply Kd.R_drew)); exact (Kd.R_mono (Kd.R_far (p := ⟨gb423, 2, none⟩) (Kd.R_far (p := ⟨gb423, 1, none⟩) (Kd.R_far (p := ⟨gb423, 0, none⟩) (Kd.R_types HO_391001.out BK423.out (by decide)) (fun _ hk => hk.2) (.slice Ao62 t409.length co62)) (fun _ hk => hk.2) (.slice Ao67 t412.length co67)) (fun _ hk => hk.2) (.int .i64 t415)) (fun _ h_ => h_.1)))); (case side8 => exact (Kd.R_reads' HO_391001.out).2.1); rintro e w77 ⟨rfl, hb⟩; replace HO_34 := aM (Kd.R_below (by (with_reducible repeat (first | apply Kd.R_alloc | apply Kd.R_drewN | apply Kd.R_drew)); exact (Kd.R_mono (Kd.R_far (p := ⟨gb423, 2, none⟩) (Kd.R_far (p := ⟨gb423, 1, none⟩) (Kd.R_far (p := ⟨gb423, 0, none⟩) (Kd.R_types HO_34.out BK423.out (by decide)) (fun _ hk => hk.2) (.slice Ao62 t409.length co62)) (fun _ hk => hk.2) (.slice Ao67 t412.length co67)) (fun _ hk => hk.2) (.int .i64 t415)) (fun _ h_ => h_.1))) hb); replace HO_391000 := aM (Kd.R_below (by (with_reducible repeat (first | apply Kd.R_alloc | apply Kd.R_drewN | apply Kd.R_drew)); exact (Kd.R_mono (Kd.R_far (p := ⟨gb423, 2, none⟩) (Kd.R_far (p := ⟨gb423, 1, none⟩) (Kd.R_far (p := ⟨gb423, 0, none⟩) (Kd.R_types HO_391000.out BK423.out (by decide)) (fun _ hk => hk.2) (.slice Ao62 t409.length co62)) (fun _ hk => hk.2) (.slice Ao67 t412.length co67)) (fun _ hk => hk.2) (.int .i64 t415)) (fun _ h_ => h_.1))) hb); replace HO_391001 := aM (Kd.R_below (by (with_reducible repeat (first | apply Kd.R_alloc | apply Kd.R_drewN | apply Kd.R_drew)); exact (Kd.R_mono (Kd.R_far (p := ⟨gb423, 2, none⟩) (Kd.R_far (p := ⟨gb423, 1, none⟩) (Kd.R_far (p := ⟨gb423, 0, none⟩) (Kd.R_types HO_391001.out BK423.out (by decide)) (fun _ hk => hk.2) (.slice Ao62 t409.length co62)) (fun _ hk => hk.2) (.slice Ao67 t412.length co67)) (fun _ hk => hk.2) (.int .i64 t415)) (fun _ h_ => h_.1))) hb); replace HO_407000 := aM (Kd.R_below (by (with_reducible repeat (first | apply Kd.R_alloc | apply Kd.R_drewN | apply Kd.R_drew)); exact (Kd.R_mono (Kd.R_far (p := ⟨gb423, 2, none⟩) (Kd.R_far (p := ⟨gb423, 1, none⟩) (Kd.R_far (p := ⟨gb423, 0, none⟩) (Kd.R_types HO_407000.out BK423.out (by decide)) (fun _ hk => hk.2) (.slice Ao62 t409.length co62)) (fun _ hk => hk.2) (.slice Ao67 t412.length co67)) (fun _ hk => hk.2) (.int .i64 t415)) (fun _ h_ => h_.1))) hb); replace HO_407001 := aM (Kd.R_below (by (with_reducible repeat (first | apply Kd.R_alloc | apply Kd.R_drewN | apply Kd.R_drew)); exact (Kd.R_mono (Kd.R_far (p := ⟨gb423, 2, none⟩) (Kd.R_far (p := ⟨gb423, 1, none⟩) (Kd.R_far (p := ⟨gb423, 0, none⟩) (Kd.R_types HO_407001.out BK423.out (by decide)) (fun _ hk => hk.2) (.slice Ao62 t409.length co62)) (fun _ hk => hk.2) (.slice Ao67 t412.length co67)) (fun _ hk => hk.2) (.int .i64 t415)) (fun _ h_ => h_.1))) hb); replace HO411 := aM (Kd.R_below (by (with_reducible repeat (first | apply Kd.R_alloc | apply Kd.R_drewN | apply Kd.R_drew)); exact (Kd.R_mono (Kd.R_far (p := ⟨gb423, 2, none⟩) (Kd.R_far (p := ⟨gb423, 1, none⟩) (Kd.R_far (p := ⟨gb423, 0, none⟩) (Kd.R_types HO411.out BK423.out (by decide)) (fun _ hk => hk.2) (.slice Ao62 t409.length co62)) (fun _ hk => hk.2) (.slice Ao67 t412.length co67)) (fun _ hk => hk.2) (.int .i64 t415)) (fun _ h_ => h_.1))) hb); replace HO414 := aM (Kd.R_below (by (with_reducible repeat (first | apply Kd.R_alloc | apply Kd.R_drewN | apply Kd.R_drew)); exact (Kd.R_mono (Kd.R_far (p := ⟨gb423, 2, none⟩) (Kd.R_far (p := ⟨gb423, 1, none⟩) (Kd.R_far (p := ⟨gb423, 0, none⟩) (Kd.R_types HO414.out BK423.out (by decide)) (fun _ hk => hk.2) (.slice Ao62 t409.length co62)) (fun _ hk => hk.2) (.slice Ao67 t412.length co67)) (fun _ hk => hk.2) (.int .i64 t415)) (fun _ h_ => h_.1))) hb); replace HO418 := aM (Kd.R_below (by (with_reducible repeat (first | apply Kd.R_alloc | apply Kd.R_drewN | apply Kd.R_drew)); exact (Kd.R_mono (Kd.R_far (p := ⟨gb423, 2, none⟩) (Kd.R_far (p := ⟨gb423, 1, none⟩) (Kd.R_far (p := ⟨gb423, 0, none⟩) (Kd.R_types HO418.out BK423.out (by decide)) (fun _ hk => hk.2) (.slice Ao62 t409.length co62)) (fun _ hk => hk.2) (.slice Ao67 t412.length co67)) (fun _ hk => hk.2) (.int .i64 t415)) (fun _ h_ => h_.1))) hb); replace HO421 := aM (Kd.R_below (by (with_reducible repeat (first | apply Kd.R_alloc | apply Kd.R_drewN | apply Kd.R_drew)); exact (Kd.R_mono (Kd.R_far (p := ⟨gb423, 2, none⟩) (Kd.R_far (p := ⟨gb423, 1, none⟩) (Kd.R_far (p := ⟨gb423, 0, none⟩) (Kd.R_types HO421.out BK423.out (by decide)) (fun _ hk => hk.2) (.slice Ao62 t409.length co62)) (fun _ hk => hk.2) (.slice Ao67 t412.length co67)) (fun _ hk => hk.2) (.int .i64 t415)) (fun _ h_ => h_.1))) hb); replace BK390 := aM (blk_below (g := gb390) (o := .cells #[.slice Ao47 x391000_19.length co47, .slice Ao48 x391001_19.length co48, .int .i64 x391002_19] 28 (0, 0)) (by (with_reducible repeat (first | refine kN ?_ _ | refine kD ?_ | refine kA ?_ _)); refine blk_far ?_ NB390_423.out _; (with_reducible repeat (first | refine kN ?_ _ | refine kD ?_ | refine kA ?_ _)); refine blk_far ?_ NB390_423.out _; (with_reducible repeat (first | refine kN ?_ _ | refine kD ?_ | refine kA ?_ _)); refine blk_far ?_ NB390_423.out _; (with_reducible repeat (first | refine kN ?_ _ | refine kD ?_ | refine kA ?_ _)); exact BK390.out) hb); replace BK397 := aM (blk_below (g := gb397) (o := .cells #[.int .i64 ((rd_T49 t391 x36_1).f0), .int .i64 ((rd_T49 t391 x36_1).f1), .int .i64 ((rd_T49 t391 x36_1).f2)] 49 (0, 0)) (by (with_reducible repeat (first | refine kN ?_ _ | refine kD ?_ | refine kA ?_ _)); refine blk_far ?_ NB397_423.out _; (with_reducible repeat (first | refine kN ?_ _ | refine kD ?_ | refine kA ?_ _)); refine blk_far ?_ NB397_423.out _; (with_reducible repeat (first | refine kN ?_ _ | refine kD ?_ | refine kA ?_ _)); refine blk_far ?_ NB397_423.out _; (with_reducible repeat (first | refine kN ?_ _ | refine kD ?_ | refine kA ?_ _)); exact BK397.out) hb); replace BK406 := aM (blk_below (g := gb406) (o := .cells #[.slice Ao29 t398.length co29, .slice Ao33 t401.length co33, .int .i64 t404] 28 (0, 0)) (by (with_reducible repeat (first | refine kN ?_ _ | refine kD ?_ | refine kA ?_ _)); refine blk_far ?_ NB406_423.out _; (with_reducible repeat (first | refine kN ?_ _ | refine kD ?_ | refine kA ?_ _)); refine blk_far ?_ NB406_423.out _; (with_reducible repeat (first | refine kN ?_ _ | refine kD ?_ | refine kA ?_ _)); refine blk_far ?_ NB406_423.out _; (with_reducible repeat (first | refine kN ?_ _ | refine kD ?_ | refine kA ?_ _)); exact BK406.out) hb); replace BK423 := aM (blk_below (g := gb423) (o := .cells #[.slice Ao62 t409.length co62, .slice Ao67 t412.length co67, .int .i64 t415] 28 (0, 0)) (by (with_reducible repeat (first | refine kN ?_ _ | refine kD ?_ | refine kA ?_ _)); refine blk_put (cs := #[.slice Ao62 t409.length co62, .slice Ao67 t412.length co67, .int .i64 0]) ?_ 2 _ rfl; (with_reducible repeat (first | refine kN ?_ _ | refine kD ?_ | refine kA ?_ _)); refine blk_put (cs := #[.slice Ao62 t409.length co62, .slice none 0 0, .int .i64 0]) ?_ 1 _ rfl; (with_reducible repeat (first | refine kN ?_ _ | refine kD ?_ | refine kA ?_ _)); refine blk_put (cs := #[.slice none 0 0, .slice none 0 0, .int .i64 0]) ?_ 0 _ rfl; (with_reducible repeat (first | refine kN ?_ _ | refine kD ?_ | refine kA ?_ _)); exact BK423.out) hb); replace HB := aM (below_step (by repeat (first | (with_reducible first | exact HB.out | apply bA | apply bN | apply bD | refine below_set ?_ GE390.out | refine below_set ?_ GE397.out | refine below_set ?_ GE406.out | refine below_set ?_ GE423.out) | exact HB.out)) hb); (try clear hb); (try clear hb2); (try clear hge); (try clear hk); (try clear hi)))
             go_meet
             case rel => exact ⟨_, (t424), (by first | rfl | (simp; done) | (simp [*]; done)), H', ⟨by have := HK1.out; have := HJ19.out; have := HJ52.out; first | omega | exact Nat.le_refl _⟩, ⟨by (with_reducible repeat (first | apply Kd.R_alloc | apply Kd.R_drewN | apply Kd.R_drew)); exact HO_34.out⟩, ⟨by (with_reducible repeat (first | apply Kd.R_alloc | apply Kd.R_drewN | apply Kd.R_drew)); exact Kd.R_mono HO_391000.out (fun _ hk => hk.2)⟩, ⟨by (with_reducible repeat (first | apply Kd.R_alloc | apply Kd.R_drewN | apply Kd.R_drew)); exact Kd.R_mono HO_391001.out (fun _ hk => hk.1.1.2)⟩, ⟨by (with_reducible repeat (first | apply Kd.R_alloc | apply Kd.R_drewN | apply Kd.R_drew)); exact Kd.R_mono HO_407000.out (fun _ hk => hk.2)⟩, ⟨by (with_reducible repeat (first | apply Kd.R_alloc | apply Kd.R_drewN | apply Kd.R_drew)); exact Kd.R_mono HO_407001.out (fun _ hk => hk.1.1.2)⟩, ⟨by (with_reducible repeat (first | apply Kd.R_alloc | apply Kd.R_drewN | apply Kd.R_drew)); exact Kd.R_mono HO411.out (fun _ hk => ⟨hk.1.2, hk.2⟩)⟩, ⟨by (with_reducible repeat (first | apply Kd.R_alloc | apply Kd.R_drewN | apply Kd.R_drew)); exact Kd.R_mono HO414.out (fun _ hk => ⟨hk.1.2, hk.2⟩)⟩, ⟨blk_mv BK390.out⟩, ⟨blk_mv BK397.out⟩, ⟨blk_mv BK406.out⟩, ⟨blk_mv BK423.out⟩, ⟨by repeat (first | (with_reducible first | exact HB.out | apply bA | apply bN | apply bD | refine below_set ?_ GE390.out | refine below_set ?_ GE397.out | refine below_set ?_ GE406.out | refine below_set ?_ GE423.out) | exact HB.out)⟩⟩
            rw [if_neg c68] at H
            have c68b0 : (t422 == 0) = false := beq_eq_false_iff_ne.mpr c68
            have c68b1 : (t422 != 0) = true := bne_iff_ne.mpr c68
            (first | rw [c68b0] | (simp only [i64_w, i32_w]; rw [c68b0]) | skip)
            have H' := aM H
            clear H
            go_wp2
            go_meet
            case rel => exact ⟨_, (true), (by first | rfl | (simp; done) | (simp [*]; done)), H', ⟨by have := HK1.out; have := HJ19.out; have := HJ52.out; first | omega | exact Nat.le_refl _⟩, ⟨by (with_reducible repeat (first | apply Kd.R_alloc | apply Kd.R_drewN | apply Kd.R_drew)); exact Kd.R_mono (Kd.R_far (p := ⟨gb423, 2, none⟩) (Kd.R_far (p := ⟨gb423, 1, none⟩) (Kd.R_far (p := ⟨gb423, 0, none⟩) (Kd.R_types HO_34.out BK423.out (by decide)) (fun _ hk => hk.2) (.slice Ao62 t409.length co62)) (fun _ hk => hk.2) (.slice Ao67 t412.length co67)) (fun _ hk => hk.2) (.int .i64 t415)) (fun _ hk => hk.1)⟩, ⟨by (with_reducible repeat (first | apply Kd.R_alloc | apply Kd.R_drewN | apply Kd.R_drew)); exact Kd.R_mono (Kd.R_far (p := ⟨gb423, 2, none⟩) (Kd.R_far (p := ⟨gb423, 1, none⟩) (Kd.R_far (p := ⟨gb423, 0, none⟩) (Kd.R_types HO_391000.out BK423.out (by decide)) (fun _ hk => hk.2) (.slice Ao62 t409.length co62)) (fun _ hk => hk.2) (.slice Ao67 t412.length co67)) (fun _ hk => hk.2) (.int .i64 t415)) (fun _ hk => hk.1.2)⟩, ⟨by (with_reducible repeat (first | apply Kd.R_alloc | apply Kd.R_drewN | apply Kd.R_drew)); exact Kd.R_mono (Kd.R_far (p := ⟨gb423, 2, none⟩) (Kd.R_far (p := ⟨gb423, 1, none⟩) (Kd.R_far (p := ⟨gb423, 0, none⟩) (Kd.R_types HO_391001.out BK423.out (by decide)) (fun _ hk => hk.2) (.slice Ao62 t409.length co62)) (fun _ hk => hk.2) (.slice Ao67 t412.length co67)) (fun _ hk => hk.2) (.int .i64 t415)) (fun _ hk => hk.1.1.1.2)⟩, ⟨by (with_reducible repeat (first | apply Kd.R_alloc | apply Kd.R_drewN | apply Kd.R_drew)); exact Kd.R_mono (Kd.R_far (p := ⟨gb423, 2, none⟩) (Kd.R_far (p := ⟨gb423, 1, none⟩) (Kd.R_far (p := ⟨gb423, 0, none⟩) (Kd.R_types HO_407000.out BK423.out (by decide)) (fun _ hk => hk.2) (.slice Ao62 t409.length co62)) (fun _ hk => hk.2) (.slice Ao67 t412.length co67)) (fun _ hk => hk.2) (.int .i64 t415)) (fun _ hk => hk.1.2)⟩, ⟨by (with_reducible repeat (first | apply Kd.R_alloc | apply Kd.R_drewN | apply Kd.R_drew)); exact Kd.R_mono (Kd.R_far (p := ⟨gb423, 2, none⟩) (Kd.R_far (p := ⟨gb423, 1, none⟩) (Kd.R_far (p := ⟨gb423, 0, none⟩) (Kd.R_types HO_407001.out BK423.out (by decide)) (fun _ hk => hk.2) (.slice Ao62 t409.length co62)) (fun _ hk => hk.2) (.slice Ao67 t412.length co67)) (fun _ hk => hk.2) (.int .i64 t415)) (fun _ hk => hk.1.1.1.2)⟩, ⟨by (with_reducible repeat (first | apply Kd.R_alloc | apply Kd.R_drewN | apply Kd.R_drew)); exact Kd.R_mono (Kd.R_far (p := ⟨gb423, 2, none⟩) (Kd.R_far (p := ⟨gb423, 1, none⟩) (Kd.R_far (p := ⟨gb423, 0, none⟩) (Kd.R_types HO411.out BK423.out (by decide)) (fun _ hk => hk.2) (.slice Ao62 t409.length co62)) (fun _ hk => hk.2) (.slice Ao67 t412.length co67)) (fun _ hk => hk.2) (.int .i64 t415)) (fun _ hk => ⟨hk.1.1.2, hk.1.2⟩)⟩, ⟨by (with_reducible repeat (first | apply Kd.R_alloc | apply Kd.R_drewN | apply Kd.R_drew)); exact Kd.R_mono (Kd.R_far (p := ⟨gb423, 2, none⟩) (Kd.R_far (p := ⟨gb423, 1, none⟩) (Kd.R_far (p := ⟨gb423, 0, none⟩) (Kd.R_types HO414.out BK423.out (by decide)) (fun _ hk => hk.2) (.slice Ao62 t409.length co62)) (fun _ hk => hk.2) (.slice Ao67 t412.length co67)) (fun _ hk => hk.2) (.int .i64 t415)) (fun _ hk => ⟨hk.1.1.2, hk.1.2⟩)⟩, ⟨by (with_reducible repeat (first | refine kN ?_ _ | refine kD ?_ | refine kA ?_ _)); refine blk_far ?_ NB390_423.out _; (with_reducible repeat (first | refine kN ?_ _ | refine kD ?_ | refine kA ?_ _)); refine blk_far ?_ NB390_423.out _; (with_reducible repeat (first | refine kN ?_ _ | refine kD ?_ | refine kA ?_ _)); refine blk_far ?_ NB390_423.out _; (with_reducible repeat (first | refine kN ?_ _ | refine kD ?_ | refine kA ?_ _)); exact BK390.out⟩, ⟨by (with_reducible repeat (first | refine kN ?_ _ | refine kD ?_ | refine kA ?_ _)); refine blk_far ?_ NB397_423.out _; (with_reducible repeat (first | refine kN ?_ _ | refine kD ?_ | refine kA ?_ _)); refine blk_far ?_ NB397_423.out _; (with_reducible repeat (first | refine kN ?_ _ | refine kD ?_ | refine kA ?_ _)); refine blk_far ?_ NB397_423.out _; (with_reducible repeat (first | refine kN ?_ _ | refine kD ?_ | refine kA ?_ _)); exact BK397.out⟩, ⟨by (with_reducible repeat (first | refine kN ?_ _ | refine kD ?_ | refine kA ?_ _)); refine blk_far ?_ NB406_423.out _; (with_reducible repeat (first | refine kN ?_ _ | refine kD ?_ | refine kA ?_ _)); refine blk_far ?_ NB406_423.out _; (with_reducible repeat (first | refine kN ?_ _ | refine kD ?_ | refine kA ?_ _)); refine blk_far ?_ NB406_423.out _; (with_reducible repeat (first | refine kN ?_ _ | refine kD ?_ | refine kA ?_ _)); exact BK406.out⟩, ⟨by (with_reducible repeat (first | refine kN ?_ _ | refine kD ?_ | refine kA ?_ _)); refine blk_put (cs := #[.slice Ao62 t409.length co62, .slice Ao67 t412.length co67, .int .i64 0]) ?_ 2 _ rfl; (with_reducible repeat (first | refine kN ?_ _ | refine kD ?_ | refine kA ?_ _)); refine blk_put (cs := #[.slice Ao62 t409.length co62, .slice none 0 0, .int .i64 0]) ?_ 1 _ rfl; (with_reducible repeat (first | refine kN ?_ _ | refine kD ?_ | refine kA ?_ _)); refine blk_put (cs := #[.slice none 0 0, .slice none 0 0, .int .i64 0]) ?_ 0 _ rfl; (with_reducible repeat (first | refine kN ?_ _ | refine kD ?_ | refine kA ?_ _)); exact BK423.out⟩, ⟨by repeat (first | (with_reducible first | exact HB.out | apply bA | apply bN | apply bD | refine below_set ?_ GE390.out | refine below_set ?_ GE397.out | refine below_set ?_ GE406.out | refine below_set ?_ GE423.out) | exact HB.out)⟩⟩
           case rest =>
            clear HC56
            obtain ⟨kq, x80_55, rfl, HA, HJ55, HO_34, HO_391000, HO_391001, HO_407000, HO_407001, HO_424000, HO_424001, BK390, BK397, BK406, BK423, HB⟩ := hcut
            cases kq with
            | zero => exact absurd HA.out (by simp [minecontrollaw18_FeederStories.j3])
            | succ kj55 =>
             have H := HA.out
             clear HA
             simp only [minecontrollaw18_FeederStories.j3] at H
             by_cases c78 : x80_55 = true
             ·
              subst c78
              have H1 : (some false) = some r := by rw [if_pos rfl] at H; exact H
              clear H
              have H := H1
              clear H1
              obtain rfl := Option.some.inj H
              exact absurd hr_.out (by decide)
             replace c78 := Bool.eq_false_iff.mpr c78
             subst c78
             have H1 : (if t408 > (wrap64 (x5_1 + ((rd_T49 t391 x36_1).f2))) then ((feeder_Tick.f kj55 x391000_19 x391001_19 x391002_19 (wrap64 (t408 - 1))).bind fun bt425 => (if bt425.2.2.2.2.2 = 0 then ((minecontrolref18_Same.f kj55 bt425.1 bt425.2.1 bt425.2.2.1 x391000_19 x391001_19 x391002_19).bind fun t440 => (if t440 = true then (minecontrollaw18_FeederStories.j4 kj55 (wrap64 (x5_1 + ((rd_T49 t391 x36_1).f2))) t391 (t391.length : Int) x36_1 x391000_19 x391001_19 x391002_19) else (some false))) else (some false))) else (minecontrollaw18_FeederStories.j4 kj55 (wrap64 (x5_1 + ((rd_T49 t391 x36_1).f2))) t391 (t391.length : Int) x36_1 x391000_19 x391001_19 x391002_19)) = some r := by rw [if_neg (show ¬ (false = true) by decide)] at H; exact H
             clear H
             have H := H1
             clear H1
             by_cases c79 : t408 > (wrap64 (x5_1 + ((rd_T49 t391 x36_1).f2)))
             ·
              rw [if_pos c79] at H
              have c79b0 : decide ((wrap64 (x5_1 + ((rd_T49 t391 x36_1).f2))) < t408) = true := decide_eq_true c79
              clear c79
              replace H := Option.bind_eq_some_iff.mp H
              obtain ⟨⟨t425, t428, t431, t432, t435, t438⟩, A800, H⟩ := H
              replace H : (if t438 = 0 then ((minecontrolref18_Same.f kj55 t425 t428 t431 x391000_19 x391001_19 x391002_19).bind fun t440 => (if t440 = true then (minecontrollaw18_FeederStories.j4 kj55 (wrap64 (x5_1 + ((rd_T49 t391 x36_1).f2))) t391 (t391.length : Int) x36_1 x391000_19 x391001_19 x391002_19) else (some false))) else (some false)) = some r := H
              have A80 := aM A800
              clear A800
              by_cases c81 : t438 = 0
              ·
               rw [if_pos c81] at H
               have c81b0 : (t438 == 0) = true := beq_iff_eq.mpr c81
               have c81b1 : (t438 != 0) = false := bne_eq_false_iff_eq.mpr c81
               clear c81
               replace H := Option.bind_eq_some_iff.mp H
               obtain ⟨t440, A820, H⟩ := H
               replace H : (if t440 = true then (minecontrollaw18_FeederStories.j4 kj55 (wrap64 (x5_1 + ((rd_T49 t391 x36_1).f2))) t391 (t391.length : Int) x36_1 x391000_19 x391001_19 x391002_19) else (some false)) = some r := H
               have A82 := aM A820
               clear A820
               by_cases c83 : t440 = true
               ·
                subst c83
                have H1 : (minecontrollaw18_FeederStories.j4 kj55 (wrap64 (x5_1 + ((rd_T49 t391 x36_1).f2))) t391 (t391.length : Int) x36_1 x391000_19 x391001_19 x391002_19) = some r := by rw [if_pos rfl] at H; exact H
                clear H
                have H := H1
                clear H1
                have H' := aM H
                clear H
                have hnb84 := NB390_397.out
                have hnc84 := NB397_390.out
                have hnb85 := NB390_406.out
                have hnc85 := NB406_390.out
                have hnb86 := NB390_423.out
                have hnc86 := NB423_390.out
                obtain ⟨hcz87_0, hcz87_1, hcz87_2, hfz87_0, hfz87_1, hfz87_2⟩ := blk3 BK390.out
                go_wp2_with (first | ((with_reducible refine gate_callee (f := 16) rfl ?_); refine goesL_ (some 88) rfl rfl Try.func16 (by kernel_rfl) rfl #[.agg #[.slice Ao47 x391000_19.length co47, .slice Ao48 x391001_19.length co48, .int .i64 x391002_19], .int .i64 (wrap64 (t408 - 1))] rfl (by first | rfl | (simp only [List.map_toArray, List.map_cons, List.map_nil, List.length_drop, List.length_take]; try rfl)) ?_; (with_reducible refine (feeder_Tick.calls kj55 _ _ x391000_19 _ _ x391001_19 x391002_19 (wrap64 (t408 - 1)) t425 t428 t431 t432 t435 t438 _ ?side1 ?side2 ?side3 ?side4 A80.out).mono ?_); (case side1 => repeat (first | exact (Kd.R_reads' HO_391000.out).2.2 | (with_reducible refine Kd.C_alloc ?_ _) | (with_reducible refine Kd.C_drewN ?_ _) | (with_reducible refine Kd.C_drew ?_))); (case side2 => exact (Kd.R_reads' HO_391000.out).2.1); (case side3 => repeat (first | exact (Kd.R_reads' HO_391001.out).2.2 | (with_reducible refine Kd.C_alloc ?_ _) | (with_reducible refine Kd.C_drewN ?_ _) | (with_reducible refine Kd.C_drew ?_))); (case side4 => exact (Kd.R_reads' HO_391001.out).2.1); rintro e w88 ⟨v426, v429, v433, v436, rfl, ho0, ho1, ho2, ho3, hb⟩; refine ⟨_, rfl, ?_⟩; replace HO_34 := aM (Kd.R_below (R_mv HO_34.out) hb); have HO427 := aM (Kd.R_lower (Kd.R_new' (Kd.R_new' (Kd.R_new' ho0 (Kd.R_lt (R_mv HO_391000.out))) (Kd.R_lt (R_mv HO_407000.out))) (Kd.R_lt (R_mv HO_424000.out))) (below_size (by repeat (first | (with_reducible first | exact HB.out | apply bA | apply bN | apply bD | refine below_set ?_ GE390.out | refine below_set ?_ GE397.out | refine below_set ?_ GE406.out | refine below_set ?_ GE423.out) | exact HB.out)))); replace HO_391000 := aM (Kd.R_elder' (R_mv HO_391000.out) (Kd.R_base ho0) hb); replace HO_407000 := aM (Kd.R_elder' (R_mv HO_407000.out) (Kd.R_base ho0) hb); replace HO_424000 := aM (Kd.R_elder' (R_mv HO_424000.out) (Kd.R_base ho0) hb); have HO430 := aM (Kd.R_lower (Kd.R_new' (Kd.R_new' (Kd.R_new' ho1 (Kd.R_lt (R_mv HO_391001.out))) (Kd.R_lt (R_mv HO_407001.out))) (Kd.R_lt (R_mv HO_424001.out))) (below_size (by repeat (first | (with_reducible first | exact HB.out | apply bA | apply bN | apply bD | refine below_set ?_ GE390.out | refine below_set ?_ GE397.out | refine below_set ?_ GE406.out | refine below_set ?_ GE423.out) | exact HB.out)))); have HO434 := aM (Kd.R_lower (Kd.R_new' (Kd.R_new' (Kd.R_new' ho2 (Kd.R_lt (R_mv HO_391001.out))) (Kd.R_lt (R_mv HO_407001.out))) (Kd.R_lt (R_mv HO_424001.out))) (below_size (by repeat (first | (with_reducible first | exact HB.out | apply bA | apply bN | apply bD | refine below_set ?_ GE390.out | refine below_set ?_ GE397.out | refine below_set ?_ GE406.out | refine below_set ?_ GE423.out) | exact HB.out)))); have HO437 := aM (Kd.R_lower (Kd.R_new' (Kd.R_new' (Kd.R_new' ho3 (Kd.R_lt (R_mv HO_391001.out))) (Kd.R_lt (R_mv HO_407001.out))) (Kd.R_lt (R_mv HO_424001.out))) (below_size (by repeat (first | (with_reducible first | exact HB.out | apply bA | apply bN | apply bD | refine below_set ?_ GE390.out | refine below_set ?_ GE397.out | refine below_set ?_ GE406.out | refine below_set ?_ GE423.out) | exact HB.out)))); replace HO_391001 := aM (Kd.R_mono (Kd.R_told (Kd.R_told (Kd.R_told (Kd.R_old (R_mv HO_391001.out) hb) (Kd.R_base ho1)) (Kd.R_base ho2)) (Kd.R_base ho3)) (fun _ h_ => h_.1)); replace HO_407001 := aM (Kd.R_mono (Kd.R_told (Kd.R_told (Kd.R_told (Kd.R_old (R_mv HO_407001.out) hb) (Kd.R_base ho1)) (Kd.R_base ho2)) (Kd.R_base ho3)) (fun _ h_ => h_.1)); replace HO_424001 := aM (Kd.R_mono (Kd.R_told (Kd.R_told (Kd.R_told (Kd.R_old (R_mv HO_424001.out) hb) (Kd.R_base ho1)) (Kd.R_base ho2)) (Kd.R_base ho3)) (fun _ h_ => h_.1)); replace BK390 := aM (blk_below (blk_mv BK390.out) hb); replace BK397 := aM (blk_below (blk_mv BK397.out) hb); replace BK406 := aM (blk_below (blk_mv BK406.out) hb); replace BK423 := aM (blk_below (blk_mv BK423.out) hb); replace HB := aM (below_step (by repeat (first | (with_reducible first | exact HB.out | apply bA | apply bN | apply bD | refine below_set ?_ GE390.out | refine below_set ?_ GE397.out | refine below_set ?_ GE406.out | refine below_set ?_ GE423.out) | exact HB.out)) hb); (try clear hb); (try clear hb2); (try clear hge); (try clear hk); (try clear hi); (try clear ho0); (try clear ho1); (try clear ho2); (try clear ho3)) | ((with_reducible refine gate_dst (N := 16) rfl ?_); refine box_event ?hg (N := 16) ?hd (cs := #[.slice none 0 0, .slice none 0 0, .int .i64 0]) (t := 28) ?hr ?_; (case hd => rfl); (case hg => rfl); (case hr => first | (go_simp; done) | (go_simp; rfl)); intro gb439 hg w89 hbox hb; replace HO_34 := aM (Kd.R_below (R_mv HO_34.out) hb); replace HO_391000 := aM (Kd.R_below (R_mv HO_391000.out) hb); replace HO_391001 := aM (Kd.R_below (R_mv HO_391001.out) hb); replace HO_407000 := aM (Kd.R_below (R_mv HO_407000.out) hb); replace HO_407001 := aM (Kd.R_below (R_mv HO_407001.out) hb); replace HO_424000 := aM (Kd.R_below (R_mv HO_424000.out) hb); replace HO_424001 := aM (Kd.R_below (R_mv HO_424001.out) hb); replace HO427 := aM (Kd.R_below (R_mv HO427.out) hb); replace HO430 := aM (Kd.R_below (R_mv HO430.out) hb); replace HO434 := aM (Kd.R_below (R_mv HO434.out) hb); replace HO437 := aM (Kd.R_below (R_mv HO437.out) hb); have BK439 := aM (hbox); have GW439 := aM ((by rw [hg]; exact (below_size (by repeat (first | (with_reducible first | exact HB.out | apply bA | apply bN | apply bD | refine below_set ?_ GE390.out | refine below_set ?_ GE397.out | refine below_set ?_ GE406.out | refine below_set ?_ GE423.out) | exact HB.out))) : w.heap.size ≤ gb439)); have GE439 := aM ((by rw [hg]; exact (below_size (by repeat (first | (with_reducible first | exact HB.out | apply bA | apply bN | apply bD | refine below_set ?_ GE390.out | refine below_set ?_ GE397.out | refine below_set ?_ GE406.out | refine below_set ?_ GE423.out) | exact HB.out))) : w.heap.size ≤ gb439)); replace HB := aM (below_step (by repeat (first | (with_reducible first | exact HB.out | apply bA | apply bN | apply bD | refine below_set ?_ GE390.out | refine below_set ?_ GE397.out | refine below_set ?_ GE406.out | refine below_set ?_ GE423.out) | exact HB.out)) hb); have NB390_439 := aM ((by rw [hg]; exact Nat.ne_of_lt (blk_lt (blk_mv BK390.out)) : gb390 ≠ gb439)); have NB439_390 := aM ((by rw [hg]; exact Nat.ne_of_gt (blk_lt (blk_mv BK390.out)) : gb439 ≠ gb390)); replace BK390 := aM (blk_below (blk_mv BK390.out) hb); have NB397_439 := aM ((by rw [hg]; exact Nat.ne_of_lt (blk_lt (blk_mv BK397.out)) : gb397 ≠ gb439)); have NB439_397 := aM ((by rw [hg]; exact Nat.ne_of_gt (blk_lt (blk_mv BK397.out)) : gb439 ≠ gb397)); replace BK397 := aM (blk_below (blk_mv BK397.out) hb); have NB406_439 := aM ((by rw [hg]; exact Nat.ne_of_lt (blk_lt (blk_mv BK406.out)) : gb406 ≠ gb439)); have NB439_406 := aM ((by rw [hg]; exact Nat.ne_of_gt (blk_lt (blk_mv BK406.out)) : gb439 ≠ gb406)); replace BK406 := aM (blk_below (blk_mv BK406.out) hb); have NB423_439 := aM ((by rw [hg]; exact Nat.ne_of_lt (blk_lt (blk_mv BK423.out)) : gb423 ≠ gb439)); have NB439_423 := aM ((by rw [hg]; exact Nat.ne_of_gt (blk_lt (blk_mv BK423.out)) : gb439 ≠ gb423)); replace BK423 := aM (blk_below (blk_mv BK423.out) hb); clear hb hbox hg; obtain ⟨Ao90, co90, eo90⟩ := Kd.R_slice HO427.out; subst eo90; have hnb91 := NB439_390.out; have hnc91 := NB390_439.out; have hnb92 := NB439_397.out; have hnc92 := NB397_439.out; have hnb93 := NB439_406.out; have hnc93 := NB406_439.out; have hnb94 := NB439_423.out; have hnc94 := NB423_439.out; obtain ⟨hcz95_0, hcz95_1, hcz95_2, hfz95_0, hfz95_1, hfz95_2⟩ := blk3 BK439.out; obtain ⟨Ao96, co96, eo96⟩ := Kd.R_slice HO430.out; subst eo96; obtain ⟨hcz97_0, hcz97_1, hcz97_2, hfz97_0, hfz97_1, hfz97_2⟩ := blk3 BK390.out) | (go_at_call 24; (with_reducible refine (minecontrolref18_Same.calls kj55 _ _ t425 _ _ t428 t431 _ _ x391000_19 _ _ x391001_19 x391002_19 true _ ?side1 ?side2 ?side3 ?side4 ?side5 ?side6 ?side7 ?side8 A82.out).mono ?_); (case side1 => refine (Kd.R_reads' (e := 32) (base := w.heap.size) (ok := fun k_ => (((True ∧ some k_ ≠ (.slice Ao47 x391000_19.length co47 : Value).ownBlock) ∧ some k_ ≠ (.slice Ao29 t398.length co29 : Value).ownBlock) ∧ some k_ ≠ (.slice Ao62 t409.length co62 : Value).ownBlock)) (n := t425.length) (c := co90) ?_).2.2; exact (by (with_reducible repeat (first | apply Kd.R_alloc | apply Kd.R_drewN | apply Kd.R_drew)); exact (Kd.R_mono (Kd.R_far (p := ⟨gb439, 2, none⟩) (Kd.R_far (p := ⟨gb439, 1, none⟩) (Kd.R_far (p := ⟨gb439, 0, none⟩) (Kd.R_types HO427.out BK439.out (by decide)) (fun _ hk => hk.2) (.slice Ao90 t425.length co90)) (fun _ hk => hk.2) (.slice Ao96 t428.length co96)) (fun _ hk => hk.2) (.int .i64 t431)) (fun _ h_ => h_.1)))); (case side2 => exact (Kd.R_reads' HO427.out).2.1); (case side3 => refine (Kd.R_reads' (e := 3) (base := w.heap.size) (ok := fun k_ => ((((some k_ ≠ (v433 : Value).ownBlock ∧ some k_ ≠ (v436 : Value).ownBlock) ∧ some k_ ≠ (.slice Ao48 x391001_19.length co48 : Value).ownBlock) ∧ some k_ ≠ (.slice Ao33 t401.length co33 : Value).ownBlock) ∧ some k_ ≠ (.slice Ao67 t412.length co67 : Value).ownBlock)) (n := t428.length) (c := co96) ?_).2.2; exact (by (with_reducible repeat (first | apply Kd.R_alloc | apply Kd.R_drewN | apply Kd.R_drew)); exact (Kd.R_mono (Kd.R_far (p := ⟨gb439, 2, none⟩) (Kd.R_far (p := ⟨gb439, 1, none⟩) (Kd.R_far (p := ⟨gb439, 0, none⟩) (Kd.R_types HO430.out BK439.out (by decide)) (fun _ hk => hk.2) (.slice Ao90 t425.length co90)) (fun _ hk => hk.2) (.slice Ao96 t428.length co96)) (fun _ hk => hk.2) (.int .i64 t431)) (fun _ h_ => h_.1)))); (case side4 => exact (Kd.R_reads' HO430.out).2.1); (case side5 => refine (Kd.R_reads' (e := 32) (base := w.heap.size) (ok := fun k_ => (some k_ ≠ (.slice Ao62 t409.length co62 : Value).ownBlock ∧ some k_ ≠ (.slice Ao90 t425.length co90 : Value).ownBlock)) (n := x391000_19.length) (c := co47) ?_).2.2; exact (by (with_reducible repeat (first | apply Kd.R_alloc | apply Kd.R_drewN | apply Kd.R_drew)); exact (Kd.R_mono (Kd.R_far (p := ⟨gb439, 2, none⟩) (Kd.R_far (p := ⟨gb439, 1, none⟩) (Kd.R_far (p := ⟨gb439, 0, none⟩) (Kd.R_types HO_391000.out BK439.out (by decide)) (fun _ hk => hk.2) (.slice Ao90 t425.length co90)) (fun _ hk => hk.2) (.slice Ao96 t428.length co96)) (fun _ hk => hk.2) (.int .i64 t431)) (fun _ h_ => h_.1)))); (case side6 => exact (Kd.R_reads' HO_391000.out).2.1); (case side7 => refine (Kd.R_reads' (e := 3) (base := w.heap.size) (ok := fun k_ => (((some k_ ≠ (.slice Ao67 t412.length co67 : Value).ownBlock ∧ some k_ ≠ (.slice Ao96 t428.length co96 : Value).ownBlock) ∧ some k_ ≠ (v433 : Value).ownBlock) ∧ some k_ ≠ (v436 : Value).ownBlock)) (n := x391001_19.length) (c := co48) ?_).2.2; exact (by (with_reducible repeat (first | apply Kd.R_alloc | apply Kd.R_drewN | apply Kd.R_drew)); exact (Kd.R_mono (Kd.R_far (p := ⟨gb439, 2, none⟩) (Kd.R_far (p := ⟨gb439, 1, none⟩) (Kd.R_far (p := ⟨gb439, 0, none⟩) (Kd.R_types HO_391001.out BK439.out (by decide)) (fun _ hk => hk.2) (.slice Ao90 t425.length co90)) (fun _ hk => hk.2) (.slice Ao96 t428.length co96)) (fun _ hk => hk.2) (.int .i64 t431)) (fun _ h_ => h_.1)))); (case side8 => exact (Kd.R_reads' HO_391001.out).2.1); rintro e w98 ⟨rfl, hb⟩; replace HO_34 := aM (Kd.R_below (by (with_reducible repeat (first | apply Kd.R_alloc | apply Kd.R_drewN | apply Kd.R_drew)); exact (Kd.R_mono (Kd.R_far (p := ⟨gb439, 2, none⟩) (Kd.R_far (p := ⟨gb439, 1, none⟩) (Kd.R_far (p := ⟨gb439, 0, none⟩) (Kd.R_types HO_34.out BK439.out (by decide)) (fun _ hk => hk.2) (.slice Ao90 t425.length co90)) (fun _ hk => hk.2) (.slice Ao96 t428.length co96)) (fun _ hk => hk.2) (.int .i64 t431)) (fun _ h_ => h_.1))) hb); replace HO_391000 := aM (Kd.R_below (by (with_reducible repeat (first | apply Kd.R_alloc | apply Kd.R_drewN | apply Kd.R_drew)); exact (Kd.R_mono (Kd.R_far (p := ⟨gb439, 2, none⟩) (Kd.R_far (p := ⟨gb439, 1, none⟩) (Kd.R_far (p := ⟨gb439, 0, none⟩) (Kd.R_types HO_391000.out BK439.out (by decide)) (fun _ hk => hk.2) (.slice Ao90 t425.length co90)) (fun _ hk => hk.2) (.slice Ao96 t428.length co96)) (fun _ hk => hk.2) (.int .i64 t431)) (fun _ h_ => h_.1))) hb); replace HO_391001 := aM (Kd.R_below (by (with_reducible repeat (first | apply Kd.R_alloc | apply Kd.R_drewN | apply Kd.R_drew)); exact (Kd.R_mono (Kd.R_far (p := ⟨gb439, 2, none⟩) (Kd.R_far (p := ⟨gb439, 1, none⟩) (Kd.R_far (p := ⟨gb439, 0, none⟩) (Kd.R_types HO_391001.out BK439.out (by decide)) (fun _ hk => hk.2) (.slice Ao90 t425.length co90)) (fun _ hk => hk.2) (.slice Ao96 t428.length co96)) (fun _ hk => hk.2) (.int .i64 t431)) (fun _ h_ => h_.1))) hb); replace HO_407000 := aM (Kd.R_below (by (with_reducible repeat (first | apply Kd.R_alloc | apply Kd.R_drewN | apply Kd.R_drew)); exact (Kd.R_mono (Kd.R_far (p := ⟨gb439, 2, none⟩) (Kd.R_far (p := ⟨gb439, 1, none⟩) (Kd.R_far (p := ⟨gb439, 0, none⟩) (Kd.R_types HO_407000.out BK439.out (by decide)) (fun _ hk => hk.2) (.slice Ao90 t425.length co90)) (fun _ hk => hk.2) (.slice Ao96 t428.length co96)) (fun _ hk => hk.2) (.int .i64 t431)) (fun _ h_ => h_.1))) hb); replace HO_407001 := aM (Kd.R_below (by (with_reducible repeat (first | apply Kd.R_alloc | apply Kd.R_drewN | apply Kd.R_drew)); exact (Kd.R_mono (Kd.R_far (p := ⟨gb439, 2, none⟩) (Kd.R_far (p := ⟨gb439, 1, none⟩) (Kd.R_far (p := ⟨gb439, 0, none⟩) (Kd.R_types HO_407001.out BK439.out (by decide)) (fun _ hk => hk.2) (.slice Ao90 t425.length co90)) (fun _ hk => hk.2) (.slice Ao96 t428.length co96)) (fun _ hk => hk.2) (.int .i64 t431)) (fun _ h_ => h_.1))) hb); replace HO_424000 := aM (Kd.R_below (by (with_reducible repeat (first | apply Kd.R_alloc | apply Kd.R_drewN | apply Kd.R_drew)); exact (Kd.R_mono (Kd.R_far (p := ⟨gb439, 2, none⟩) (Kd.R_far (p := ⟨gb439, 1, none⟩) (Kd.R_far (p := ⟨gb439, 0, none⟩) (Kd.R_types HO_424000.out BK439.out (by decide)) (fun _ hk => hk.2) (.slice Ao90 t425.length co90)) (fun _ hk => hk.2) (.slice Ao96 t428.length co96)) (fun _ hk => hk.2) (.int .i64 t431)) (fun _ h_ => h_.1))) hb); replace HO_424001 := aM (Kd.R_below (by (with_reducible repeat (first | apply Kd.R_alloc | apply Kd.R_drewN | apply Kd.R_drew)); exact (Kd.R_mono (Kd.R_far (p := ⟨gb439, 2, none⟩) (Kd.R_far (p := ⟨gb439, 1, none⟩) (Kd.R_far (p := ⟨gb439, 0, none⟩) (Kd.R_types HO_424001.out BK439.out (by decide)) (fun _ hk => hk.2) (.slice Ao90 t425.length co90)) (fun _ hk => hk.2) (.slice Ao96 t428.length co96)) (fun _ hk => hk.2) (.int .i64 t431)) (fun _ h_ => h_.1))) hb); replace HO427 := aM (Kd.R_below (by (with_reducible repeat (first | apply Kd.R_alloc | apply Kd.R_drewN | apply Kd.R_drew)); exact (Kd.R_mono (Kd.R_far (p := ⟨gb439, 2, none⟩) (Kd.R_far (p := ⟨gb439, 1, none⟩) (Kd.R_far (p := ⟨gb439, 0, none⟩) (Kd.R_types HO427.out BK439.out (by decide)) (fun _ hk => hk.2) (.slice Ao90 t425.length co90)) (fun _ hk => hk.2) (.slice Ao96 t428.length co96)) (fun _ hk => hk.2) (.int .i64 t431)) (fun _ h_ => h_.1))) hb); replace HO430 := aM (Kd.R_below (by (with_reducible repeat (first | apply Kd.R_alloc | apply Kd.R_drewN | apply Kd.R_drew)); exact (Kd.R_mono (Kd.R_far (p := ⟨gb439, 2, none⟩) (Kd.R_far (p := ⟨gb439, 1, none⟩) (Kd.R_far (p := ⟨gb439, 0, none⟩) (Kd.R_types HO430.out BK439.out (by decide)) (fun _ hk => hk.2) (.slice Ao90 t425.length co90)) (fun _ hk => hk.2) (.slice Ao96 t428.length co96)) (fun _ hk => hk.2) (.int .i64 t431)) (fun _ h_ => h_.1))) hb); replace HO434 := aM (Kd.R_below (by (with_reducible repeat (first | apply Kd.R_alloc | apply Kd.R_drewN | apply Kd.R_drew)); exact (Kd.R_mono (Kd.R_far (p := ⟨gb439, 2, none⟩) (Kd.R_far (p := ⟨gb439, 1, none⟩) (Kd.R_far (p := ⟨gb439, 0, none⟩) (Kd.R_types HO434.out BK439.out (by decide)) (fun _ hk => hk.2) (.slice Ao90 t425.length co90)) (fun _ hk => hk.2) (.slice Ao96 t428.length co96)) (fun _ hk => hk.2) (.int .i64 t431)) (fun _ h_ => h_.1))) hb); replace HO437 := aM (Kd.R_below (by (with_reducible repeat (first | apply Kd.R_alloc | apply Kd.R_drewN | apply Kd.R_drew)); exact (Kd.R_mono (Kd.R_far (p := ⟨gb439, 2, none⟩) (Kd.R_far (p := ⟨gb439, 1, none⟩) (Kd.R_far (p := ⟨gb439, 0, none⟩) (Kd.R_types HO437.out BK439.out (by decide)) (fun _ hk => hk.2) (.slice Ao90 t425.length co90)) (fun _ hk => hk.2) (.slice Ao96 t428.length co96)) (fun _ hk => hk.2) (.int .i64 t431)) (fun _ h_ => h_.1))) hb); replace BK390 := aM (blk_below (g := gb390) (o := .cells #[.slice Ao47 x391000_19.length co47, .slice Ao48 x391001_19.length co48, .int .i64 x391002_19] 28 (0, 0)) (by (with_reducible repeat (first | refine kN ?_ _ | refine kD ?_ | refine kA ?_ _)); refine blk_far ?_ NB390_439.out _; (with_reducible repeat (first | refine kN ?_ _ | refine kD ?_ | refine kA ?_ _)); refine blk_far ?_ NB390_439.out _; (with_reducible repeat (first | refine kN ?_ _ | refine kD ?_ | refine kA ?_ _)); refine blk_far ?_ NB390_439.out _; (with_reducible repeat (first | refine kN ?_ _ | refine kD ?_ | refine kA ?_ _)); exact BK390.out) hb); replace BK397 := aM (blk_below (g := gb397) (o := .cells #[.int .i64 ((rd_T49 t391 x36_1).f0), .int .i64 ((rd_T49 t391 x36_1).f1), .int .i64 ((rd_T49 t391 x36_1).f2)] 49 (0, 0)) (by (with_reducible repeat (first | refine kN ?_ _ | refine kD ?_ | refine kA ?_ _)); refine blk_far ?_ NB397_439.out _; (with_reducible repeat (first | refine kN ?_ _ | refine kD ?_ | refine kA ?_ _)); refine blk_far ?_ NB397_439.out _; (with_reducible repeat (first | refine kN ?_ _ | refine kD ?_ | refine kA ?_ _)); refine blk_far ?_ NB397_439.out _; (with_reducible repeat (first | refine kN ?_ _ | refine kD ?_ | refine kA ?_ _)); exact BK397.out) hb); replace BK406 := aM (blk_below (g := gb406) (o := .cells #[.slice Ao29 t398.length co29, .slice Ao33 t401.length co33, .int .i64 t404] 28 (0, 0)) (by (with_reducible repeat (first | refine kN ?_ _ | refine kD ?_ | refine kA ?_ _)); refine blk_far ?_ NB406_439.out _; (with_reducible repeat (first | refine kN ?_ _ | refine kD ?_ | refine kA ?_ _)); refine blk_far ?_ NB406_439.out _; (with_reducible repeat (first | refine kN ?_ _ | refine kD ?_ | refine kA ?_ _)); refine blk_far ?_ NB406_439.out _; (with_reducible repeat (first | refine kN ?_ _ | refine kD ?_ | refine kA ?_ _)); exact BK406.out) hb); replace BK423 := aM (blk_below (g := gb423) (o := .cells #[.slice Ao62 t409.length co62, .slice Ao67 t412.length co67, .int .i64 t415] 28 (0, 0)) (by (with_reducible repeat (first | refine kN ?_ _ | refine kD ?_ | refine kA ?_ _)); refine blk_far ?_ NB423_439.out _; (with_reducible repeat (first | refine kN ?_ _ | refine kD ?_ | refine kA ?_ _)); refine blk_far ?_ NB423_439.out _; (with_reducible repeat (first | refine kN ?_ _ | refine kD ?_ | refine kA ?_ _)); refine blk_far ?_ NB423_439.out _; (with_reducible repeat (first | refine kN ?_ _ | refine kD ?_ | refine kA ?_ _)); exact BK423.out) hb); replace BK439 := aM (blk_below (g := gb439) (o := .cells #[.slice Ao90 t425.length co90, .slice Ao96 t428.length co96, .int .i64 t431] 28 (0, 0)) (by (with_reducible repeat (first | refine kN ?_ _ | refine kD ?_ | refine kA ?_ _)); refine blk_put (cs := #[.slice Ao90 t425.length co90, .slice Ao96 t428.length co96, .int .i64 0]) ?_ 2 _ rfl; (with_reducible repeat (first | refine kN ?_ _ | refine kD ?_ | refine kA ?_ _)); refine blk_put (cs := #[.slice Ao90 t425.length co90, .slice none 0 0, .int .i64 0]) ?_ 1 _ rfl; (with_reducible repeat (first | refine kN ?_ _ | refine kD ?_ | refine kA ?_ _)); refine blk_put (cs := #[.slice none 0 0, .slice none 0 0, .int .i64 0]) ?_ 0 _ rfl; (with_reducible repeat (first | refine kN ?_ _ | refine kD ?_ | refine kA ?_ _)); exact BK439.out) hb); replace HB := aM (below_step (by repeat (first | (with_reducible first | exact HB.out | apply bA | apply bN | apply bD | refine below_set ?_ GE390.out | refine below_set ?_ GE397.out | refine below_set ?_ GE406.out | refine below_set ?_ GE423.out | refine below_set ?_ GE439.out) | exact HB.out)) hb); (try clear hb); (try clear hb2); (try clear hge); (try clear hk); (try clear hi)))
                go_meet
                case rel => exact ⟨_, H', ⟨by have := HK1.out; have := HJ19.out; have := HJ52.out; have := HJ55.out; first | omega | exact Nat.le_refl _⟩, ⟨by (with_reducible repeat (first | apply Kd.R_alloc | apply Kd.R_drewN | apply Kd.R_drew)); exact HO_34.out⟩, ⟨by (with_reducible repeat (first | apply Kd.R_alloc | apply Kd.R_drewN | apply Kd.R_drew)); exact Kd.R_mono HO_391000.out (fun _ hk => trivial)⟩, ⟨by (with_reducible repeat (first | apply Kd.R_alloc | apply Kd.R_drewN | apply Kd.R_drew)); exact Kd.R_mono HO_391001.out (fun _ hk => trivial)⟩, ⟨by (with_reducible repeat (first | apply Kd.R_alloc | apply Kd.R_drewN | apply Kd.R_drew)); exact Kd.R_mono HO_407000.out (fun _ hk => trivial)⟩, ⟨by (with_reducible repeat (first | apply Kd.R_alloc | apply Kd.R_drewN | apply Kd.R_drew)); exact Kd.R_mono HO_407001.out (fun _ hk => trivial)⟩, ⟨blk_mv BK390.out⟩, ⟨blk_mv BK397.out⟩, ⟨blk_mv BK406.out⟩, ⟨by repeat (first | (with_reducible first | exact HB.out | apply bA | apply bN | apply bD | refine below_set ?_ GE390.out | refine below_set ?_ GE397.out | refine below_set ?_ GE406.out | refine below_set ?_ GE423.out | refine below_set ?_ GE439.out) | exact HB.out)⟩⟩
               replace c83 := Bool.eq_false_iff.mpr c83
               subst c83
               have H1 : (some false) = some r := by rw [if_neg (show ¬ (false = true) by decide)] at H; exact H
               clear H
               have H := H1
               clear H1
               obtain rfl := Option.some.inj H
               exact absurd hr_.out (by decide)
              rw [if_neg c81] at H
              have c81b0 : (t438 == 0) = false := beq_eq_false_iff_ne.mpr c81
              have c81b1 : (t438 != 0) = true := bne_iff_ne.mpr c81
              obtain rfl := Option.some.inj H
              exact absurd hr_.out (by decide)
             rw [if_neg c79] at H
             have c79b0 : decide ((wrap64 (x5_1 + ((rd_T49 t391 x36_1).f2))) < t408) = false := decide_eq_false c79
             clear c79
             have H' := aM H
             clear H
             go_wp2
             go_meet
             case rel => exact ⟨_, H', ⟨by have := HK1.out; have := HJ19.out; have := HJ52.out; have := HJ55.out; first | omega | exact Nat.le_refl _⟩, ⟨by (with_reducible repeat (first | apply Kd.R_alloc | apply Kd.R_drewN | apply Kd.R_drew)); exact HO_34.out⟩, ⟨by (with_reducible repeat (first | apply Kd.R_alloc | apply Kd.R_drewN | apply Kd.R_drew)); exact Kd.R_mono HO_391000.out (fun _ hk => trivial)⟩, ⟨by (with_reducible repeat (first | apply Kd.R_alloc | apply Kd.R_drewN | apply Kd.R_drew)); exact Kd.R_mono HO_391001.out (fun _ hk => trivial)⟩, ⟨by (with_reducible repeat (first | apply Kd.R_alloc | apply Kd.R_drewN | apply Kd.R_drew)); exact Kd.R_mono HO_407000.out (fun _ hk => trivial)⟩, ⟨by (with_reducible repeat (first | apply Kd.R_alloc | apply Kd.R_drewN | apply Kd.R_drew)); exact Kd.R_mono HO_407001.out (fun _ hk => trivial)⟩, ⟨blk_mv BK390.out⟩, ⟨blk_mv BK397.out⟩, ⟨blk_mv BK406.out⟩, ⟨by repeat (first | (with_reducible first | exact HB.out | apply bA | apply bN | apply bD | refine below_set ?_ GE390.out | refine below_set ?_ GE397.out | refine below_set ?_ GE406.out | refine below_set ?_ GE423.out) | exact HB.out)⟩⟩
        rw [if_neg c52] at H
        have c52b0 : decide (t408 < 1099511627776) = false := decide_eq_false c52
        clear c52
        (first | rw [c52b0] | (simp only [i64_w, i32_w]; rw [c52b0]) | skip)
        have H' := aM H
        clear H
        go_wp2
        go_meet
        case rel => exact ⟨_, H', ⟨by have := HK1.out; have := HJ19.out; first | omega | exact Nat.le_refl _⟩, ⟨by (with_reducible repeat (first | apply Kd.R_alloc | apply Kd.R_drewN | apply Kd.R_drew)); exact HO_34.out⟩, ⟨by (with_reducible repeat (first | apply Kd.R_alloc | apply Kd.R_drewN | apply Kd.R_drew)); exact HO_391000.out⟩, ⟨by (with_reducible repeat (first | apply Kd.R_alloc | apply Kd.R_drewN | apply Kd.R_drew)); exact HO_391001.out⟩, ⟨by (with_reducible repeat (first | apply Kd.R_alloc | apply Kd.R_drewN | apply Kd.R_drew)); exact HO_407000.out⟩, ⟨by (with_reducible repeat (first | apply Kd.R_alloc | apply Kd.R_drewN | apply Kd.R_drew)); exact HO_407001.out⟩, ⟨blk_mv BK390.out⟩, ⟨blk_mv BK397.out⟩, ⟨blk_mv BK406.out⟩, ⟨by repeat (first | (with_reducible first | exact HB.out | apply bA | apply bN | apply bD | refine below_set ?_ GE390.out | refine below_set ?_ GE397.out | refine below_set ?_ GE406.out) | exact HB.out)⟩⟩
       case rest =>
        clear HC43
        obtain ⟨kq, HA, HJ42, HO_34, HO_391000, HO_391001, HO_407000, HO_407001, BK390, BK397, BK406, HB⟩ := hcut
        cases kq with
        | zero => exact absurd HA.out (by simp [minecontrollaw18_FeederStories.j4])
        | succ kj42 =>
         have H := HA.out
         clear HA
         simp only [minecontrollaw18_FeederStories.j4] at H
         have H' := aM H
         clear H
         have hnb99 := NB390_397.out
         have hnc99 := NB397_390.out
         have hnb100 := NB390_406.out
         have hnc100 := NB406_390.out
         obtain ⟨hcz101_0, hcz101_1, hcz101_2, hfz101_0, hfz101_1, hfz101_2⟩ := blk3 BK390.out
         go_wp2
         go_loopg [104] kj42 (fun kq v104 w' => ∃ (x104_4 : Int), v104 = .int .i64 x104_4 ∧ Aside0 (minecontrollaw18_FeederStories.l1 kq (wrap64 (x5_1 + ((rd_T49 t391 x36_1).f2))) t391 (t391.length : Int) x36_1 x391001_19 (x391001_19.length : Int) x104_4 x391000_19 x391001_19 x391002_19 = some r) ∧ Aside0 (kq ≤ kj42) ∧ Aside0 (Kd.R k49 49 w' w.heap.size (fun k_ => k_ ≠ gb397) (.slice (some ad396) t391.length co15) t391) ∧ Aside0 (Kd.R (Kd.int .i64) 3 w' w.heap.size (fun _ => True) (.slice Ao48 x391001_19.length co48) x391001_19) ∧ Aside0 (Kd.R k32 32 w' w.heap.size (fun _ => True) (.slice Ao47 x391000_19.length co47) x391000_19) ∧ Aside0 (Kd.R (Kd.int .i64) 3 w' w.heap.size (fun _ => True) (.slice Ao48 x391001_19.length co48) x391001_19) ∧ Aside0 (Kd.R k32 32 w' w.heap.size (fun _ => True) (.slice Ao29 t398.length co29) t398) ∧ Aside0 (Kd.R (Kd.int .i64) 3 w' w.heap.size (fun _ => True) (.slice Ao33 t401.length co33) t401) ∧ Aside0 (w'.heap[gb390]? = some (.cells #[(.slice Ao47 x391000_19.length co47), (.slice Ao48 x391001_19.length co48), .int .i64 x391002_19] 28 (0, 0))) ∧ Aside0 (w'.heap[gb397]? = some (.cells #[.int .i64 ((rd_T49 t391 x36_1).f0), .int .i64 ((rd_T49 t391 x36_1).f1), .int .i64 ((rd_T49 t391 x36_1).f2)] 49 (0, 0))) ∧ Aside0 (w'.heap[gb406]? = some (.cells #[(.slice Ao29 t398.length co29), (.slice Ao33 t401.length co33), .int .i64 t404] 28 (0, 0))) ∧ Aside0 (Below w.heap.size w w'))
         case atStart => exact ⟨(0), (by first | rfl | (simp; done) | (simp [*]; done)), H', ⟨Nat.le_refl _⟩, ⟨by (with_reducible repeat (first | apply Kd.R_alloc | apply Kd.R_drewN | apply Kd.R_drew)); exact HO_34.out⟩, ⟨by (with_reducible repeat (first | apply Kd.R_alloc | apply Kd.R_drewN | apply Kd.R_drew)); exact HO_391001.out⟩, ⟨by (with_reducible repeat (first | apply Kd.R_alloc | apply Kd.R_drewN | apply Kd.R_drew)); exact HO_391000.out⟩, ⟨by (with_reducible repeat (first | apply Kd.R_alloc | apply Kd.R_drewN | apply Kd.R_drew)); exact HO_391001.out⟩, ⟨by (with_reducible repeat (first | apply Kd.R_alloc | apply Kd.R_drewN | apply Kd.R_drew)); exact HO_407000.out⟩, ⟨by (with_reducible repeat (first | apply Kd.R_alloc | apply Kd.R_drewN | apply Kd.R_drew)); exact HO_407001.out⟩, ⟨blk_mv BK390.out⟩, ⟨blk_mv BK397.out⟩, ⟨blk_mv BK406.out⟩, ⟨by repeat (first | (with_reducible first | exact HB.out | apply bA | apply bN | apply bD | refine below_set ?_ GE390.out | refine below_set ?_ GE397.out | refine below_set ?_ GE406.out) | exact HB.out)⟩⟩
         case round =>
          clear H'
          obtain ⟨x104_4, rfl, HA, HK4, HO_34, HO_102, HO_391000, HO_391001, HO_407000, HO_407001, BK390, BK397, BK406, HB⟩ := hrel
          cases gk with
          | zero => exact absurd HA.out (by simp [minecontrollaw18_FeederStories.l1])
          | succ k4 =>
           have H := HA.out
           clear HA
           simp only [minecontrollaw18_FeederStories.l1] at H
           by_cases c102 : x104_4 < (x391001_19.length : Int)
           ·
            rw [if_pos c102] at H
            have c102b0 : decide (x104_4 < (x391001_19.length : Int)) = true := decide_eq_true c102
            clear c102
            by_cases c103 : 0 ≤ x104_4
            rotate_left
            ·
             rw [if_neg c103] at H
             exact absurd H (by simp)
            rw [if_pos c103] at H
            have c103b0 : decide (0 ≤ x104_4) = true := decide_eq_true c103
            clear c103
            by_cases c104 : x104_4 < (x391001_19.length : Int)
            rotate_left
            ·
             rw [if_neg c104] at H
             exact absurd H (by simp)
            rw [if_pos c104] at H
            have c104b0 : decide (x104_4 < (x391001_19.length : Int)) = true := decide_eq_true c104
            clear c104
            replace H := Option.bind_eq_some_iff.mp H
            obtain ⟨t442, A1050, H⟩ := H
            replace H : (minecontrollaw18_FeederStories.l2 k4 (wrap64 (x5_1 + ((rd_T49 t391 x36_1).f2))) x104_4 false true t391 (t391.length : Int) x36_1 x391001_19 (x391001_19.length : Int) x104_4 t442 (t442.length : Int) 0 x391000_19 x391001_19 x391002_19) = some r := H
            have A105 := aM A1050
            clear A1050
            have H' := aM H
            clear H
            have p441 : 0 ≤ (x104_4 : Int) := of_decide_eq_true (by first | (with_reducible assumption) | assumption)
            have q441 : x104_4 < (x391001_19.length : Int) := of_decide_eq_true (by first | (with_reducible assumption) | assumption)
            obtain ⟨ad441, e441, hx441_0⟩ := Kd.at_int (Kd.R_reads' HO_102.out).2.2 x104_4 p441 q441
            cases e441
            replace p441 := eq_true p441
            replace q441 := eq_true q441
            have hnb106 := NB390_397.out
            have hnc106 := NB397_390.out
            have hnb107 := NB390_406.out
            have hnc107 := NB406_390.out
            obtain ⟨hcz108_0, hcz108_1, hcz108_2, hfz108_0, hfz108_1, hfz108_2⟩ := blk3 BK390.out
            go_wp2_with (first | ((with_reducible refine gate_callee (f := 13) rfl ?_); refine goesL_ (some 111) rfl rfl Try.func13 (by kernel_rfl) rfl #[.agg #[.slice Ao47 x391000_19.length co47, .slice (some ad441) x391001_19.length co48, .int .i64 x391002_19], .int .i64 (rd x391001_19 x104_4)] rfl (by first | rfl | (simp only [List.map_toArray, List.map_cons, List.map_nil, List.length_drop, List.length_take]; try rfl)) ?_; (with_reducible refine (feeder_Path.calls k4 _ _ x391000_19 _ _ x391001_19 x391002_19 (rd x391001_19 x104_4) t442 _ ?side1 ?side2 ?side3 ?side4 A105.out).mono ?_); (case side1 => repeat (first | exact (Kd.R_reads' HO_391000.out).2.2 | (with_reducible refine Kd.C_alloc ?_ _) | (with_reducible refine Kd.C_drewN ?_ _) | (with_reducible refine Kd.C_drew ?_))); (case side2 => exact (Kd.R_reads' HO_391000.out).2.1); (case side3 => repeat (first | exact (Kd.R_reads' HO_391001.out).2.2 | (with_reducible refine Kd.C_alloc ?_ _) | (with_reducible refine Kd.C_drewN ?_ _) | (with_reducible refine Kd.C_drew ?_))); (case side4 => exact (Kd.R_reads' HO_391001.out).2.1); rintro e w109 ⟨v443, rfl, ho0, hb⟩; refine ⟨_, rfl, ?_⟩; replace HO_34 := aM (Kd.R_below (R_mv HO_34.out) hb); replace HO_391000 := aM (Kd.R_below (R_mv HO_391000.out) hb); replace HO_407000 := aM (Kd.R_below (R_mv HO_407000.out) hb); have HO444 := aM (Kd.R_lower (Kd.R_new' (Kd.R_new' (Kd.R_new' ho0 (Kd.R_lt (R_mv HO_102.out))) (Kd.R_lt (R_mv HO_391001.out))) (Kd.R_lt (R_mv HO_407001.out))) (below_size (by repeat (first | (with_reducible first | exact HB.out | apply bA | apply bN | apply bD | refine below_set ?_ GE390.out | refine below_set ?_ GE397.out | refine below_set ?_ GE406.out) | exact HB.out)))); replace HO_102 := aM (Kd.R_elder' (R_mv HO_102.out) (Kd.R_base ho0) hb); replace HO_391001 := aM (Kd.R_elder' (R_mv HO_391001.out) (Kd.R_base ho0) hb); replace HO_407001 := aM (Kd.R_elder' (R_mv HO_407001.out) (Kd.R_base ho0) hb); replace BK390 := aM (blk_below (blk_mv BK390.out) hb); replace BK397 := aM (blk_below (blk_mv BK397.out) hb); replace BK406 := aM (blk_below (blk_mv BK406.out) hb); replace HB := aM (below_step (by repeat (first | (with_reducible first | exact HB.out | apply bA | apply bN | apply bD | refine below_set ?_ GE390.out | refine below_set ?_ GE397.out | refine below_set ?_ GE406.out) | exact HB.out)) hb); (try clear hb); (try clear hb2); (try clear hge); (try clear hk); (try clear hi); (try clear ho0); obtain ⟨Ao110, co110, eo110⟩ := Kd.R_slice HO444.out; subst eo110))
            go_loopg [22, 23, 113] k4 (fun kq v22 v23 v113 w' => ∃ (x22_5 : Bool) (x23_5 : Bool) (x113_5 : Int), v22 = .bool x22_5 ∧ v23 = .bool x23_5 ∧ v113 = .int .i64 x113_5 ∧ Aside0 (minecontrollaw18_FeederStories.l2 kq (wrap64 (x5_1 + ((rd_T49 t391 x36_1).f2))) x104_4 x22_5 x23_5 t391 (t391.length : Int) x36_1 x391001_19 (x391001_19.length : Int) x104_4 t442 (t442.length : Int) x113_5 x391000_19 x391001_19 x391002_19 = some r) ∧ Aside0 (kq ≤ k4) ∧ Aside0 (Kd.R k49 49 w' w.heap.size (fun k_ => k_ ≠ gb397) (.slice (some ad396) t391.length co15) t391) ∧ Aside0 (Kd.R (Kd.int .i64) 3 w' w.heap.size (fun k_ => some k_ ≠ ((.slice Ao110 t442.length co110) : Value).ownBlock) (.slice (some ad441) x391001_19.length co48) x391001_19) ∧ Aside0 (Kd.R (Kd.int .i64) 3 w' w.heap.size (fun k_ => some k_ ≠ ((.slice (some ad441) x391001_19.length co48) : Value).ownBlock ∧ some k_ ≠ ((.slice (some ad441) x391001_19.length co48) : Value).ownBlock ∧ some k_ ≠ ((.slice Ao33 t401.length co33) : Value).ownBlock) (.slice Ao110 t442.length co110) t442) ∧ Aside0 (Kd.R k32 32 w' w.heap.size (fun _ => True) (.slice Ao47 x391000_19.length co47) x391000_19) ∧ Aside0 (Kd.R (Kd.int .i64) 3 w' w.heap.size (fun k_ => some k_ ≠ ((.slice Ao110 t442.length co110) : Value).ownBlock) (.slice (some ad441) x391001_19.length co48) x391001_19) ∧ Aside0 (Kd.R k32 32 w' w.heap.size (fun _ => True) (.slice Ao29 t398.length co29) t398) ∧ Aside0 (Kd.R (Kd.int .i64) 3 w' w.heap.size (fun k_ => some k_ ≠ ((.slice Ao110 t442.length co110) : Value).ownBlock) (.slice Ao33 t401.length co33) t401) ∧ Aside0 (w'.heap[gb390]? = some (.cells #[(.slice Ao47 x391000_19.length co47), (.slice (some ad441) x391001_19.length co48), .int .i64 x391002_19] 28 (0, 0))) ∧ Aside0 (w'.heap[gb397]? = some (.cells #[.int .i64 ((rd_T49 t391 x36_1).f0), .int .i64 ((rd_T49 t391 x36_1).f1), .int .i64 ((rd_T49 t391 x36_1).f2)] 49 (0, 0))) ∧ Aside0 (w'.heap[gb406]? = some (.cells #[(.slice Ao29 t398.length co29), (.slice Ao33 t401.length co33), .int .i64 t404] 28 (0, 0))) ∧ Aside0 (Below w.heap.size w w'))
            case atStart => exact ⟨(false), (true), (0), (by first | rfl | (simp; done) | (simp [*]; done)), (by first | rfl | (simp; done) | (simp [*]; done)), (by first | rfl | (simp; done) | (simp [*]; done)), H', ⟨Nat.le_refl _⟩, ⟨by (with_reducible repeat (first | apply Kd.R_alloc | apply Kd.R_drewN | apply Kd.R_drew)); exact HO_34.out⟩, ⟨by (with_reducible repeat (first | apply Kd.R_alloc | apply Kd.R_drewN | apply Kd.R_drew)); exact Kd.R_mono HO_102.out (fun _ hk => hk.2)⟩, ⟨by (with_reducible repeat (first | apply Kd.R_alloc | apply Kd.R_drewN | apply Kd.R_drew)); exact Kd.R_mono HO444.out (fun _ hk => ⟨hk.1.1.2, ⟨hk.1.2, hk.2⟩⟩)⟩, ⟨by (with_reducible repeat (first | apply Kd.R_alloc | apply Kd.R_drewN | apply Kd.R_drew)); exact HO_391000.out⟩, ⟨by (with_reducible repeat (first | apply Kd.R_alloc | apply Kd.R_drewN | apply Kd.R_drew)); exact Kd.R_mono HO_391001.out (fun _ hk => hk.2)⟩, ⟨by (with_reducible repeat (first | apply Kd.R_alloc | apply Kd.R_drewN | apply Kd.R_drew)); exact HO_407000.out⟩, ⟨by (with_reducible repeat (first | apply Kd.R_alloc | apply Kd.R_drewN | apply Kd.R_drew)); exact Kd.R_mono HO_407001.out (fun _ hk => hk.2)⟩, ⟨blk_mv BK390.out⟩, ⟨blk_mv BK397.out⟩, ⟨blk_mv BK406.out⟩, ⟨by repeat (first | (with_reducible first | exact HB.out | apply bA | apply bN | apply bD | refine below_set ?_ GE390.out | refine below_set ?_ GE397.out | refine below_set ?_ GE406.out) | exact HB.out)⟩⟩
            case round =>
             clear H'
             obtain ⟨x22_5, x23_5, x113_5, rfl, rfl, rfl, HA, HK5, HO_34, HO_102, HO_111, HO_391000, HO_391001, HO_407000, HO_407001, BK390, BK397, BK406, HB⟩ := hrel
             cases gk with
             | zero => exact absurd HA.out (by simp [minecontrollaw18_FeederStories.l2])
             | succ k5 =>
              have H := HA.out
              clear HA
              simp only [minecontrollaw18_FeederStories.l2] at H
              by_cases c111 : x113_5 < (t442.length : Int)
              ·
               rw [if_pos c111] at H
               have c111b0 : decide (x113_5 < (t442.length : Int)) = true := decide_eq_true c111
               clear c111
               by_cases c112 : 0 ≤ x113_5
               rotate_left
               ·
                rw [if_neg c112] at H
                exact absurd H (by simp)
               rw [if_pos c112] at H
               have c112b0 : decide (0 ≤ x113_5) = true := decide_eq_true c112
               clear c112
               by_cases c113 : x113_5 < (t442.length : Int)
               rotate_left
               ·
                rw [if_neg c113] at H
                exact absurd H (by simp)
               rw [if_pos c113] at H
               have c113b0 : decide (x113_5 < (t442.length : Int)) = true := decide_eq_true c113
               clear c113
               by_cases c114 : x22_5 = true
               ·
                subst c114
                have H1 : (if x23_5 = true then (if 0 ≤ (rd t442 x113_5) then (if (rd t442 x113_5) < (x391000_19.length : Int) then (minecontrollaw18_FeederStories.l2 k5 (wrap64 (x5_1 + ((rd_T49 t391 x36_1).f2))) x104_4 true (((rd_T32 x391000_19 (rd t442 x113_5)).f2) == 1) t391 (t391.length : Int) x36_1 x391001_19 (x391001_19.length : Int) x104_4 t442 (t442.length : Int) (wrap64 (x113_5 + 1)) x391000_19 x391001_19 x391002_19) else (none)) else (none)) else (minecontrollaw18_FeederStories.l2 k5 (wrap64 (x5_1 + ((rd_T49 t391 x36_1).f2))) x104_4 true false t391 (t391.length : Int) x36_1 x391001_19 (x391001_19.length : Int) x104_4 t442 (t442.length : Int) (wrap64 (x113_5 + 1)) x391000_19 x391001_19 x391002_19)) = some r := by rw [if_pos rfl] at H; exact H
                clear H
                have H := H1
                clear H1
                by_cases c115 : x23_5 = true
                ·
                 subst c115
                 have H1 : (if 0 ≤ (rd t442 x113_5) then (if (rd t442 x113_5) < (x391000_19.length : Int) then (minecontrollaw18_FeederStories.l2 k5 (wrap64 (x5_1 + ((rd_T49 t391 x36_1).f2))) x104_4 true (((rd_T32 x391000_19 (rd t442 x113_5)).f2) == 1) t391 (t391.length : Int) x36_1 x391001_19 (x391001_19.length : Int) x104_4 t442 (t442.length : Int) (wrap64 (x113_5 + 1)) x391000_19 x391001_19 x391002_19) else (none)) else (none)) = some r := by rw [if_pos rfl] at H; exact H
                 clear H
                 have H := H1
                 clear H1
                 by_cases c116 : 0 ≤ (rd t442 x113_5)
                 rotate_left
                 ·
                  rw [if_neg c116] at H
                  exact absurd H (by simp)
                 rw [if_pos c116] at H
                 have c116b0 : decide (0 ≤ (rd t442 x113_5)) = true := decide_eq_true c116
                 clear c116
                 by_cases c117 : (rd t442 x113_5) < (x391000_19.length : Int)
                 rotate_left
                 ·
                  rw [if_neg c117] at H
                  exact absurd H (by simp)
                 rw [if_pos c117] at H
                 have c117b0 : decide ((rd t442 x113_5) < (x391000_19.length : Int)) = true := decide_eq_true c117
                 clear c117
                 have H' := aM H
                 clear H
                 have p445 : 0 ≤ (x113_5 : Int) := of_decide_eq_true (by first | (with_reducible assumption) | assumption)
                 have q445 : x113_5 < (t442.length : Int) := of_decide_eq_true (by first | (with_reducible assumption) | assumption)
                 obtain ⟨ad445, e445, hx445_0⟩ := Kd.at_int (Kd.R_reads' HO_111.out).2.2 x113_5 p445 q445
                 cases e445
                 replace p445 := eq_true p445
                 replace q445 := eq_true q445
                 have hnb118 := NB390_397.out
                 have hnc118 := NB397_390.out
                 have hnb119 := NB390_406.out
                 have hnc119 := NB406_390.out
                 obtain ⟨hcz120_0, hcz120_1, hcz120_2, hfz120_0, hfz120_1, hfz120_2⟩ := blk3 BK390.out
                 have p446 : 0 ≤ ((rd t442 x113_5) : Int) := of_decide_eq_true (by first | (with_reducible assumption) | assumption)
                 have q446 : (rd t442 x113_5) < (x391000_19.length : Int) := of_decide_eq_true (by first | (with_reducible assumption) | assumption)
                 obtain ⟨ad446, e446, hx446_0, hx446_1, hx446_2, hx446_3, hx446_4⟩ := at_T32 (Kd.R_reads' HO_391000.out).2.2 (rd t442 x113_5) p446 q446
                 cases e446
                 replace p446 := eq_true p446
                 replace q446 := eq_true q446
                 go_wp2
                 go_roundg k5
                 case measure => have := HK1.out; have := HJ19.out; have := HJ42.out; have := HK4.out; have := HK5.out; omega
                 case rel => exact ⟨(true), ((((rd_T32 x391000_19 (rd t442 x113_5)).f2) == 1)), (wrap64 (x113_5 + 1)), (by first | rfl | (simp; done) | (simp [*]; done)), (by first | rfl | (simp; done) | (simp [*]; done)), (by first | rfl | (simp; done) | (simp [*]; done)), H', ⟨by have := HK1.out; have := HJ19.out; have := HJ42.out; have := HK4.out; have := HK5.out; omega⟩, ⟨by (with_reducible repeat (first | apply Kd.R_alloc | apply Kd.R_drewN | apply Kd.R_drew)); exact HO_34.out⟩, ⟨by (with_reducible repeat (first | apply Kd.R_alloc | apply Kd.R_drewN | apply Kd.R_drew)); exact HO_102.out⟩, ⟨by (with_reducible repeat (first | apply Kd.R_alloc | apply Kd.R_drewN | apply Kd.R_drew)); exact HO_111.out⟩, ⟨by (with_reducible repeat (first | apply Kd.R_alloc | apply Kd.R_drewN | apply Kd.R_drew)); exact HO_391000.out⟩, ⟨by (with_reducible repeat (first | apply Kd.R_alloc | apply Kd.R_drewN | apply Kd.R_drew)); exact HO_391001.out⟩, ⟨by (with_reducible repeat (first | apply Kd.R_alloc | apply Kd.R_drewN | apply Kd.R_drew)); exact HO_407000.out⟩, ⟨by (with_reducible repeat (first | apply Kd.R_alloc | apply Kd.R_drewN | apply Kd.R_drew)); exact HO_407001.out⟩, ⟨blk_mv BK390.out⟩, ⟨blk_mv BK397.out⟩, ⟨blk_mv BK406.out⟩, ⟨by repeat (first | (with_reducible first | exact HB.out | apply bA | apply bN | apply bD | refine below_set ?_ GE390.out | refine below_set ?_ GE397.out | refine below_set ?_ GE406.out) | exact HB.out)⟩⟩
                replace c115 := Bool.eq_false_iff.mpr c115
                subst c115
                have H1 : (minecontrollaw18_FeederStories.l2 k5 (wrap64 (x5_1 + ((rd_T49 t391 x36_1).f2))) x104_4 true false t391 (t391.length : Int) x36_1 x391001_19 (x391001_19.length : Int) x104_4 t442 (t442.length : Int) (wrap64 (x113_5 + 1)) x391000_19 x391001_19 x391002_19) = some r := by rw [if_neg (show ¬ (false = true) by decide)] at H; exact H
                clear H
                have H := H1
                clear H1
                have H' := aM H
                clear H
                have p445 : 0 ≤ (x113_5 : Int) := of_decide_eq_true (by first | (with_reducible assumption) | assumption)
                have q445 : x113_5 < (t442.length : Int) := of_decide_eq_true (by first | (with_reducible assumption) | assumption)
                obtain ⟨ad445, e445, hx445_0⟩ := Kd.at_int (Kd.R_reads' HO_111.out).2.2 x113_5 p445 q445
                cases e445
                replace p445 := eq_true p445
                replace q445 := eq_true q445
                go_wp2
                go_roundg k5
                case measure => have := HK1.out; have := HJ19.out; have := HJ42.out; have := HK4.out; have := HK5.out; omega
                case rel => exact ⟨(true), (false), (wrap64 (x113_5 + 1)), (by first | rfl | (simp; done) | (simp [*]; done)), (by first | rfl | (simp; done) | (simp [*]; done)), (by first | rfl | (simp; done) | (simp [*]; done)), H', ⟨by have := HK1.out; have := HJ19.out; have := HJ42.out; have := HK4.out; have := HK5.out; omega⟩, ⟨by (with_reducible repeat (first | apply Kd.R_alloc | apply Kd.R_drewN | apply Kd.R_drew)); exact HO_34.out⟩, ⟨by (with_reducible repeat (first | apply Kd.R_alloc | apply Kd.R_drewN | apply Kd.R_drew)); exact HO_102.out⟩, ⟨by (with_reducible repeat (first | apply Kd.R_alloc | apply Kd.R_drewN | apply Kd.R_drew)); exact HO_111.out⟩, ⟨by (with_reducible repeat (first | apply Kd.R_alloc | apply Kd.R_drewN | apply Kd.R_drew)); exact HO_391000.out⟩, ⟨by (with_reducible repeat (first | apply Kd.R_alloc | apply Kd.R_drewN | apply Kd.R_drew)); exact HO_391001.out⟩, ⟨by (with_reducible repeat (first | apply Kd.R_alloc | apply Kd.R_drewN | apply Kd.R_drew)); exact HO_407000.out⟩, ⟨by (with_reducible repeat (first | apply Kd.R_alloc | apply Kd.R_drewN | apply Kd.R_drew)); exact HO_407001.out⟩, ⟨blk_mv BK390.out⟩, ⟨blk_mv BK397.out⟩, ⟨blk_mv BK406.out⟩, ⟨by repeat (first | (with_reducible first | exact HB.out | apply bA | apply bN | apply bD | refine below_set ?_ GE390.out | refine below_set ?_ GE397.out | refine below_set ?_ GE406.out) | exact HB.out)⟩⟩
               replace c114 := Bool.eq_false_iff.mpr c114
               subst c114
               have H1 : (if 0 ≤ (rd t442 x113_5) then (if (rd t442 x113_5) < (x391000_19.length : Int) then (if x23_5 = true then (minecontrollaw18_FeederStories.l2 k5 (wrap64 (x5_1 + ((rd_T49 t391 x36_1).f2))) x104_4 (((rd_T32 x391000_19 (rd t442 x113_5)).f2) == (-1)) (((rd_T32 x391000_19 (rd t442 x113_5)).f2) == 1) t391 (t391.length : Int) x36_1 x391001_19 (x391001_19.length : Int) x104_4 t442 (t442.length : Int) (wrap64 (x113_5 + 1)) x391000_19 x391001_19 x391002_19) else (minecontrollaw18_FeederStories.l2 k5 (wrap64 (x5_1 + ((rd_T49 t391 x36_1).f2))) x104_4 (((rd_T32 x391000_19 (rd t442 x113_5)).f2) == (-1)) false t391 (t391.length : Int) x36_1 x391001_19 (x391001_19.length : Int) x104_4 t442 (t442.length : Int) (wrap64 (x113_5 + 1)) x391000_19 x391001_19 x391002_19)) else (none)) else (none)) = some r := by rw [if_neg (show ¬ (false = true) by decide)] at H; exact H
               clear H
               have H := H1
               clear H1
               by_cases c121 : 0 ≤ (rd t442 x113_5)
               rotate_left
               ·
                rw [if_neg c121] at H
                exact absurd H (by simp)
               rw [if_pos c121] at H
               have c121b0 : decide (0 ≤ (rd t442 x113_5)) = true := decide_eq_true c121
               clear c121
               by_cases c122 : (rd t442 x113_5) < (x391000_19.length : Int)
               rotate_left
               ·
                rw [if_neg c122] at H
                exact absurd H (by simp)
               rw [if_pos c122] at H
               have c122b0 : decide ((rd t442 x113_5) < (x391000_19.length : Int)) = true := decide_eq_true c122
               clear c122
               by_cases c123 : x23_5 = true
               ·
                subst c123
                have H1 : (minecontrollaw18_FeederStories.l2 k5 (wrap64 (x5_1 + ((rd_T49 t391 x36_1).f2))) x104_4 (((rd_T32 x391000_19 (rd t442 x113_5)).f2) == (-1)) (((rd_T32 x391000_19 (rd t442 x113_5)).f2) == 1) t391 (t391.length : Int) x36_1 x391001_19 (x391001_19.length : Int) x104_4 t442 (t442.length : Int) (wrap64 (x113_5 + 1)) x391000_19 x391001_19 x391002_19) = some r := by rw [if_pos rfl] at H; exact H
                clear H
                have H := H1
                clear H1
                have H' := aM H
                clear H
                have p445 : 0 ≤ (x113_5 : Int) := of_decide_eq_true (by first | (with_reducible assumption) | assumption)
                have q445 : x113_5 < (t442.length : Int) := of_decide_eq_true (by first | (with_reducible assumption) | assumption)
                obtain ⟨ad445, e445, hx445_0⟩ := Kd.at_int (Kd.R_reads' HO_111.out).2.2 x113_5 p445 q445
                cases e445
                replace p445 := eq_true p445
                replace q445 := eq_true q445
                have hnb124 := NB390_397.out
                have hnc124 := NB397_390.out
                have hnb125 := NB390_406.out
                have hnc125 := NB406_390.out
                obtain ⟨hcz126_0, hcz126_1, hcz126_2, hfz126_0, hfz126_1, hfz126_2⟩ := blk3 BK390.out
                have p447 : 0 ≤ ((rd t442 x113_5) : Int) := of_decide_eq_true (by first | (with_reducible assumption) | assumption)
                have q447 : (rd t442 x113_5) < (x391000_19.length : Int) := of_decide_eq_true (by first | (with_reducible assumption) | assumption)
                obtain ⟨ad447, e447, hx447_0, hx447_1, hx447_2, hx447_3, hx447_4⟩ := at_T32 (Kd.R_reads' HO_391000.out).2.2 (rd t442 x113_5) p447 q447
                cases e447
                replace p447 := eq_true p447
                replace q447 := eq_true q447
                have p448 : 0 ≤ ((rd t442 x113_5) : Int) := of_decide_eq_true (by first | (with_reducible assumption) | assumption)
                have q448 : (rd t442 x113_5) < (x391000_19.length : Int) := of_decide_eq_true (by first | (with_reducible assumption) | assumption)
                obtain ⟨ad448, e448, hx448_0, hx448_1, hx448_2, hx448_3, hx448_4⟩ := at_T32 (Kd.R_reads' HO_391000.out).2.2 (rd t442 x113_5) p448 q448
                obtain rfl : ad447 = ad448 := (by injection e448)
                replace p448 := eq_true p448
                replace q448 := eq_true q448
                go_wp2
                go_roundg k5
                case measure => have := HK1.out; have := HJ19.out; have := HJ42.out; have := HK4.out; have := HK5.out; omega
                case rel => exact ⟨((((rd_T32 x391000_19 (rd t442 x113_5)).f2) == (-1))), ((((rd_T32 x391000_19 (rd t442 x113_5)).f2) == 1)), (wrap64 (x113_5 + 1)), (by first | rfl | (simp; done) | (simp [*]; done)), (by first | rfl | (simp; done) | (simp [*]; done)), (by first | rfl | (simp; done) | (simp [*]; done)), H', ⟨by have := HK1.out; have := HJ19.out; have := HJ42.out; have := HK4.out; have := HK5.out; omega⟩, ⟨by (with_reducible repeat (first | apply Kd.R_alloc | apply Kd.R_drewN | apply Kd.R_drew)); exact HO_34.out⟩, ⟨by (with_reducible repeat (first | apply Kd.R_alloc | apply Kd.R_drewN | apply Kd.R_drew)); exact HO_102.out⟩, ⟨by (with_reducible repeat (first | apply Kd.R_alloc | apply Kd.R_drewN | apply Kd.R_drew)); exact HO_111.out⟩, ⟨by (with_reducible repeat (first | apply Kd.R_alloc | apply Kd.R_drewN | apply Kd.R_drew)); exact HO_391000.out⟩, ⟨by (with_reducible repeat (first | apply Kd.R_alloc | apply Kd.R_drewN | apply Kd.R_drew)); exact HO_391001.out⟩, ⟨by (with_reducible repeat (first | apply Kd.R_alloc | apply Kd.R_drewN | apply Kd.R_drew)); exact HO_407000.out⟩, ⟨by (with_reducible repeat (first | apply Kd.R_alloc | apply Kd.R_drewN | apply Kd.R_drew)); exact HO_407001.out⟩, ⟨blk_mv BK390.out⟩, ⟨blk_mv BK397.out⟩, ⟨blk_mv BK406.out⟩, ⟨by repeat (first | (with_reducible first | exact HB.out | apply bA | apply bN | apply bD | refine below_set ?_ GE390.out | refine below_set ?_ GE397.out | refine below_set ?_ GE406.out) | exact HB.out)⟩⟩
               replace c123 := Bool.eq_false_iff.mpr c123
               subst c123
               have H1 : (minecontrollaw18_FeederStories.l2 k5 (wrap64 (x5_1 + ((rd_T49 t391 x36_1).f2))) x104_4 (((rd_T32 x391000_19 (rd t442 x113_5)).f2) == (-1)) false t391 (t391.length : Int) x36_1 x391001_19 (x391001_19.length : Int) x104_4 t442 (t442.length : Int) (wrap64 (x113_5 + 1)) x391000_19 x391001_19 x391002_19) = some r := by rw [if_neg (show ¬ (false = true) by decide)] at H; exact H
               clear H
               have H := H1
               clear H1
               have H' := aM H
               clear H
               have p445 : 0 ≤ (x113_5 : Int) := of_decide_eq_true (by first | (with_reducible assumption) | assumption)
               have q445 : x113_5 < (t442.length : Int) := of_decide_eq_true (by first | (with_reducible assumption) | assumption)
               obtain ⟨ad445, e445, hx445_0⟩ := Kd.at_int (Kd.R_reads' HO_111.out).2.2 x113_5 p445 q445
               cases e445
               replace p445 := eq_true p445
               replace q445 := eq_true q445
               have hnb127 := NB390_397.out
               have hnc127 := NB397_390.out
               have hnb128 := NB390_406.out
               have hnc128 := NB406_390.out
               obtain ⟨hcz129_0, hcz129_1, hcz129_2, hfz129_0, hfz129_1, hfz129_2⟩ := blk3 BK390.out
               have p447 : 0 ≤ ((rd t442 x113_5) : Int) := of_decide_eq_true (by first | (with_reducible assumption) | assumption)
               have q447 : (rd t442 x113_5) < (x391000_19.length : Int) := of_decide_eq_true (by first | (with_reducible assumption) | assumption)
               obtain ⟨ad447, e447, hx447_0, hx447_1, hx447_2, hx447_3, hx447_4⟩ := at_T32 (Kd.R_reads' HO_391000.out).2.2 (rd t442 x113_5) p447 q447
               cases e447
               replace p447 := eq_true p447
               replace q447 := eq_true q447
               go_wp2
               go_roundg k5
               case measure => have := HK1.out; have := HJ19.out; have := HJ42.out; have := HK4.out; have := HK5.out; omega
               case rel => exact ⟨((((rd_T32 x391000_19 (rd t442 x113_5)).f2) == (-1))), (false), (wrap64 (x113_5 + 1)), (by first | rfl | (simp; done) | (simp [*]; done)), (by first | rfl | (simp; done) | (simp [*]; done)), (by first | rfl | (simp; done) | (simp [*]; done)), H', ⟨by have := HK1.out; have := HJ19.out; have := HJ42.out; have := HK4.out; have := HK5.out; omega⟩, ⟨by (with_reducible repeat (first | apply Kd.R_alloc | apply Kd.R_drewN | apply Kd.R_drew)); exact HO_34.out⟩, ⟨by (with_reducible repeat (first | apply Kd.R_alloc | apply Kd.R_drewN | apply Kd.R_drew)); exact HO_102.out⟩, ⟨by (with_reducible repeat (first | apply Kd.R_alloc | apply Kd.R_drewN | apply Kd.R_drew)); exact HO_111.out⟩, ⟨by (with_reducible repeat (first | apply Kd.R_alloc | apply Kd.R_drewN | apply Kd.R_drew)); exact HO_391000.out⟩, ⟨by (with_reducible repeat (first | apply Kd.R_alloc | apply Kd.R_drewN | apply Kd.R_drew)); exact HO_391001.out⟩, ⟨by (with_reducible repeat (first | apply Kd.R_alloc | apply Kd.R_drewN | apply Kd.R_drew)); exact HO_407000.out⟩, ⟨by (with_reducible repeat (first | apply Kd.R_alloc | apply Kd.R_drewN | apply Kd.R_drew)); exact HO_407001.out⟩, ⟨blk_mv BK390.out⟩, ⟨blk_mv BK397.out⟩, ⟨blk_mv BK406.out⟩, ⟨by repeat (first | (with_reducible first | exact HB.out | apply bA | apply bN | apply bD | refine below_set ?_ GE390.out | refine below_set ?_ GE397.out | refine below_set ?_ GE406.out) | exact HB.out)⟩⟩
              rw [if_neg c111] at H
              have c111b0 : decide (x113_5 < (t442.length : Int)) = false := decide_eq_false c111
              clear c111
              replace H := Option.bind_eq_some_iff.mp H
              obtain ⟨t449, A1300, H⟩ := H
              replace H : (if ((t449 == (-1)) != x22_5) = true then (some false) else (if ((t449 == 1) != x23_5) = true then (some false) else (minecontrollaw18_FeederStories.l1 k5 (wrap64 (x5_1 + ((rd_T49 t391 x36_1).f2))) t391 (t391.length : Int) x36_1 x391001_19 (x391001_19.length : Int) (wrap64 (x104_4 + 1)) x391000_19 x391001_19 x391002_19))) = some r := H
              have A130 := aM A1300
              clear A1300
              by_cases c131 : ((t449 == (-1)) != x22_5) = true
              ·
               rw [if_pos c131] at H
               have c131b0 : ((t449 == (-1)) != x22_5) = true := c131
               (try (have c131b1 : decide ((t449 == (-1)) = x22_5) = false := by simpa using c131))
               (try (have c131b2 : ((t449 == (-1)) == x22_5) = false := by simpa using c131))
               (try (have c131b3 : ¬ ((t449 == (-1)) = x22_5) := by simpa using c131))
               clear c131
               obtain rfl := Option.some.inj H
               exact absurd hr_.out (by decide)
              rw [if_neg c131] at H
              have c131b0 : ((t449 == (-1)) != x22_5) = false := by simpa using c131
              (try (have c131b1 : decide ((t449 == (-1)) = x22_5) = true := by simpa using c131))
              (try (have c131b2 : ((t449 == (-1)) == x22_5) = true := by simpa using c131))
              clear c131
              by_cases c132 : ((t449 == 1) != x23_5) = true
              ·
               rw [if_pos c132] at H
               have c132b0 : ((t449 == 1) != x23_5) = true := c132
               (try (have c132b1 : decide ((t449 == 1) = x23_5) = false := by simpa using c132))
               (try (have c132b2 : ((t449 == 1) == x23_5) = false := by simpa using c132))
               (try (have c132b3 : ¬ ((t449 == 1) = x23_5) := by simpa using c132))
               clear c132
               obtain rfl := Option.some.inj H
               exact absurd hr_.out (by decide)
              rw [if_neg c132] at H
              have c132b0 : ((t449 == 1) != x23_5) = false := by simpa using c132
              (try (have c132b1 : decide ((t449 == 1) = x23_5) = true := by simpa using c132))
              (try (have c132b2 : ((t449 == 1) == x23_5) = true := by simpa using c132))
              clear c132
              have H' := aM H
              clear H
              have hnb133 := NB390_397.out
              have hnc133 := NB397_390.out
              have hnb134 := NB390_406.out
              have hnc134 := NB406_390.out
              obtain ⟨hcz135_0, hcz135_1, hcz135_2, hfz135_0, hfz135_1, hfz135_2⟩ := blk3 BK390.out
              go_wp2_with (first | ((with_reducible refine gate_callee (f := 19) rfl ?_); refine goesL_ (some 140) rfl rfl Try.func19 (by kernel_rfl) rfl #[.agg #[.slice Ao47 x391000_19.length co47, .slice (some ad441) x391001_19.length co48, .int .i64 x391002_19], .int .i64 x104_4] rfl (by first | rfl | (simp only [List.map_toArray, List.map_cons, List.map_nil, List.length_drop, List.length_take]; try rfl)) ?_; (with_reducible refine (feeder_Live.calls k5 _ _ x391000_19 _ _ x391001_19 x391002_19 x104_4 t449 _ ?side1 ?side2 ?side3 ?side4 A130.out).mono ?_); (case side1 => repeat (first | exact (Kd.R_reads' HO_391000.out).2.2 | (with_reducible refine Kd.C_alloc ?_ _) | (with_reducible refine Kd.C_drewN ?_ _) | (with_reducible refine Kd.C_drew ?_))); (case side2 => exact (Kd.R_reads' HO_391000.out).2.1); (case side3 => repeat (first | exact (Kd.R_reads' HO_391001.out).2.2 | (with_reducible refine Kd.C_alloc ?_ _) | (with_reducible refine Kd.C_drewN ?_ _) | (with_reducible refine Kd.C_drew ?_))); (case side4 => exact (Kd.R_reads' HO_391001.out).2.1); rintro e w136 ⟨rfl, hb⟩; refine ⟨_, rfl, ?_⟩; replace HO_34 := aM (Kd.R_below (R_mv HO_34.out) hb); replace HO_102 := aM (Kd.R_below (R_mv HO_102.out) hb); replace HO_111 := aM (Kd.R_below (R_mv HO_111.out) hb); replace HO_391000 := aM (Kd.R_below (R_mv HO_391000.out) hb); replace HO_391001 := aM (Kd.R_below (R_mv HO_391001.out) hb); replace HO_407000 := aM (Kd.R_below (R_mv HO_407000.out) hb); replace HO_407001 := aM (Kd.R_below (R_mv HO_407001.out) hb); replace BK390 := aM (blk_below (blk_mv BK390.out) hb); replace BK397 := aM (blk_below (blk_mv BK397.out) hb); replace BK406 := aM (blk_below (blk_mv BK406.out) hb); replace HB := aM (below_step (by repeat (first | (with_reducible first | exact HB.out | apply bA | apply bN | apply bD | refine below_set ?_ GE390.out | refine below_set ?_ GE397.out | refine below_set ?_ GE406.out) | exact HB.out)) hb); (try clear hb); (try clear hb2); (try clear hge); (try clear hk); (try clear hi)))
              go_roundg k5
              case measure => have := HK1.out; have := HJ19.out; have := HJ42.out; have := HK4.out; have := HK5.out; omega
              case rel => exact ⟨(wrap64 (x104_4 + 1)), (by first | rfl | (simp; done) | (simp [*]; done)), H', ⟨by have := HK1.out; have := HJ19.out; have := HJ42.out; have := HK4.out; have := HK5.out; omega⟩, ⟨by (with_reducible repeat (first | apply Kd.R_alloc | apply Kd.R_drewN | apply Kd.R_drew)); exact HO_34.out⟩, ⟨by (with_reducible repeat (first | apply Kd.R_alloc | apply Kd.R_drewN | apply Kd.R_drew)); exact Kd.R_mono HO_102.out (fun _ hk => trivial)⟩, ⟨by (with_reducible repeat (first | apply Kd.R_alloc | apply Kd.R_drewN | apply Kd.R_drew)); exact HO_391000.out⟩, ⟨by (with_reducible repeat (first | apply Kd.R_alloc | apply Kd.R_drewN | apply Kd.R_drew)); exact Kd.R_mono HO_391001.out (fun _ hk => trivial)⟩, ⟨by (with_reducible repeat (first | apply Kd.R_alloc | apply Kd.R_drewN | apply Kd.R_drew)); exact HO_407000.out⟩, ⟨by (with_reducible repeat (first | apply Kd.R_alloc | apply Kd.R_drewN | apply Kd.R_drew)); exact Kd.R_mono HO_407001.out (fun _ hk => trivial)⟩, ⟨blk_mv BK390.out⟩, ⟨blk_mv BK397.out⟩, ⟨blk_mv BK406.out⟩, ⟨by repeat (first | (with_reducible first | exact HB.out | apply bA | apply bN | apply bD | refine below_set ?_ GE390.out | refine below_set ?_ GE397.out | refine below_set ?_ GE406.out) | exact HB.out)⟩⟩
           rw [if_neg c102] at H
           have c102b0 : decide (x104_4 < (x391001_19.length : Int)) = false := decide_eq_false c102
           clear c102
           have H' := aM H
           clear H
           go_wp2
           go_roundg k4
           case measure => have := HK1.out; have := HJ19.out; have := HJ42.out; have := HK4.out; omega
           case rel => exact ⟨((wrap64 (x5_1 + ((rd_T49 t391 x36_1).f2)))), (wrap64 (x36_1 + 1)), (x391000_19), (x391001_19), (x391002_19), (.slice Ao47 x391000_19.length co47), (.slice Ao48 x391001_19.length co48), (by first | rfl | (simp; done) | (simp [*]; done)), (by first | rfl | (simp; done) | (simp [*]; done)), H', ⟨by have := HK1.out; have := HJ19.out; have := HJ42.out; have := HK4.out; omega⟩, ⟨by (with_reducible repeat (first | apply Kd.R_alloc | apply Kd.R_drewN | apply Kd.R_drew)); exact Kd.R_mono HO_34.out (fun _ hk => trivial)⟩, ⟨by (with_reducible repeat (first | apply Kd.R_alloc | apply Kd.R_drewN | apply Kd.R_drew)); exact HO_391000.out⟩, ⟨by (with_reducible repeat (first | apply Kd.R_alloc | apply Kd.R_drewN | apply Kd.R_drew)); exact HO_391001.out⟩, ⟨blk_mv BK390.out⟩, ⟨by repeat (first | (with_reducible first | exact HB.out | apply bA | apply bN | apply bD | refine below_set ?_ GE390.out | refine below_set ?_ GE397.out | refine below_set ?_ GE406.out) | exact HB.out)⟩⟩
      rw [if_neg c41] at H
      have c41b0 : (t407 == 0) = false := beq_eq_false_iff_ne.mpr c41
      have c41b1 : (t407 != 0) = true := bne_iff_ne.mpr c41
      obtain rfl := Option.some.inj H
      exact absurd hr_.out (by decide)
   rw [if_neg c16] at H
   have c16b0 : decide (x36_1 < (t391.length : Int)) = false := decide_eq_false c16
   clear c16
   replace H := Option.bind_eq_some_iff.mp H
   obtain ⟨t395, A1370, H⟩ := H
   replace H : (some t395) = some r := H
   have A137 := aM A1370
   clear A1370
   obtain rfl := Option.some.inj H
   go_wp2_with (first | ((with_reducible refine gate_callee (f := 20) rfl ?_); refine goesL_ (some 153) rfl rfl Try.func20 (by kernel_rfl) rfl #[] rfl (by first | rfl | (simp only [List.map_toArray, List.map_cons, List.map_nil, List.length_drop, List.length_take]; try rfl)) ?_; (with_reducible refine (minecontrollaw18_awake.calls k1  t395 _ A137.out).mono ?_); rintro e w138 ⟨rfl, hb⟩; refine ⟨_, rfl, ?_⟩; replace HO_34 := aM (Kd.R_below (R_mv HO_34.out) hb); replace HO_391000 := aM (Kd.R_below (R_mv HO_391000.out) hb); replace HO_391001 := aM (Kd.R_below (R_mv HO_391001.out) hb); replace BK390 := aM (blk_below (blk_mv BK390.out) hb); replace HB := aM (below_step (by repeat (first | (with_reducible first | exact HB.out | apply bA | apply bN | apply bD | refine below_set ?_ GE390.out) | exact HB.out)) hb); (try clear hb); (try clear hb2); (try clear hge); (try clear hk); (try clear hi)))
   go_ret
   exact ⟨by first | rfl | (simp [errW_none, errW_some] <;> rfl) | (simp [*, errW_none, errW_some] <;> rfl), by repeat (first | (with_reducible first | exact HB.out | apply bA | apply bN | apply bD | refine below_set ?_ GE390.out) | exact HB.out)⟩

/-- THE ONE PURE STATEMENT of minecontrollaw18_FeederStories: yours. -/
def minecontrollaw18_FeederStories.Pure : Prop := ∀ (l0 : List Int), l0.length ≤ maxLen → l0.length * 1 ≤ 140737488351232 → (∀ x ∈ l0, (Lit.int .u8 x).wf = true) → ∃ k, minecontrollaw18_FeederStories.f k l0 = some true
theorem minecontrollaw18_FeederStories.walk (P : minecontrollaw18_FeederStories.Pure) (a0 : Option Addr) (len0 cap0 : Nat) (z0 : List Int) (w : World) (w0 : (a0 = none ∧ len0 = 0 ∧ cap0 = 0 ∧ z0 = []) ∨ ∃ x, a0 = some x ∧ len0 ≤ cap0 ∧ cap0 ≤ maxLen ∧ z0.length = cap0 ∧ (∀ i, i < z0.length → w.cell? (x.add i) = some (.int .u8 (z0.getD i 0))) ∧ ∀ n ∈ z0, (Lit.int .u8 n).wf = true) (y0 : len0 * 1 ≤ 140737488351232) :
  Calls Try.prog 4 #[.slice a0 len0 cap0] w fun e w' => e = .returned (.bool true) ∧ Below w.heap.size w w' := by
 obtain ⟨l0, rfl, hr0, hm0, hw0, hc0⟩ := ReadsInt.ofRowC w0
 obtain ⟨k, h⟩ := P l0 hm0 y0 hw0
 refine (minecontrollaw18_FeederStories.calls1 k _ _ l0 true w (Kd.C_of_reads (d := (0 : Int)) (h1 := fun _ => rfl) hr0) hc0 (.mk rfl) h).mono ?_
 rintro e w' ⟨rfl, hd⟩
 exact ⟨rfl, hd⟩

end Go.Proofs.Ytcgeflbifbaecaa.PFes
