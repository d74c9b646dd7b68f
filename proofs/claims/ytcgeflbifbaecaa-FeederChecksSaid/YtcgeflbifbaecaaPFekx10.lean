/- Functions of the given program as Lean functions, and proofs that its calls come to what these say. Written by a program of this seat (wip/mkprint.py); Lean checks it all. -/
import Derived.Test.YtcgeflbifbaecaaPFekx0
import Derived.Test.YtcgeflbifbaecaaPFekx1
import Derived.Test.YtcgeflbifbaecaaPFekx8
import Derived.Test.YtcgeflbifbaecaaPFekx9
namespace Go.Proofs.Ytcgeflbifbaecaa.PFek
open Go.RowKit Go.Proofs.YtcgeflbifbaecaaW.PrintWords Go.Proofs.YtcgeflbifbaecaaW.PrintLast Go.Proofs.YtcgeflbifbaecaaW.PrintMore
attribute [local go_sem] max2_int min2_int max_two min_two max_three min_three max_four min_four   -- for this text's walks alone
set_option linter.unusedVariables false
set_option linter.unusedSimpArgs false

/-! ### minecontrollaw18_made: function 28 -/
def minecontrollaw18_made.f (k : Nat) (l0 : List Int) (a1 : Int) (a2 : Int) : Option ((List (S32)) × List Int × Int) := (minecontroldraw_New.f l0).bind fun bt274 => ((minecontroldraw_Codes_Next.f k bt274.1 bt274.2 4).bind fun bt277 => ((minecontroldraw_Codes_Feeder.f k bt274.1 bt277.2 bt277.1).bind fun bt279 => ((minecontroldraw_Mod.f a1 (bt279.1.length : Int)).bind fun t288 => (if 0 ≤ t288 then (if t288 < (bt279.1.length : Int) then ((minecontroldraw_Codes_Next.f k bt274.1 bt279.2.2.2 12).bind fun bt290 => (if bt290.1 = 1 then (some ((bt279.1.set (t288 : Int).toNat (⟨a2, (rd_T32 bt279.1 t288).f1, (rd_T32 bt279.1 t288).f2, (rd_T32 bt279.1 t288).f3, (rd_T32 bt279.1 t288).f4⟩ : S32)), bt279.2.1, bt279.2.2.1)) else (if bt290.1 = 2 then (some ((bt279.1.set (t288 : Int).toNat (⟨(rd_T32 bt279.1 t288).f0, a2, (rd_T32 bt279.1 t288).f2, (rd_T32 bt279.1 t288).f3, (rd_T32 bt279.1 t288).f4⟩ : S32)), bt279.2.1, bt279.2.2.1)) else (if bt290.1 = 3 then (some ((bt279.1.set (t288 : Int).toNat (⟨(rd_T32 bt279.1 t288).f0, (rd_T32 bt279.1 t288).f1, a2, (rd_T32 bt279.1 t288).f3, (rd_T32 bt279.1 t288).f4⟩ : S32)), bt279.2.1, bt279.2.2.1)) else (if bt290.1 = 4 then (some ((bt279.1.set (t288 : Int).toNat (⟨(rd_T32 bt279.1 t288).f0, (rd_T32 bt279.1 t288).f1, (rd_T32 bt279.1 t288).f2, (rd_T32 bt279.1 t288).f3, true⟩ : S32)), bt279.2.1, bt279.2.2.1)) else (if bt290.1 = 5 then (some (bt279.1, bt279.2.1, a2)) else (if bt290.1 = 6 then ((minecontroldraw_Mod.f a2 6).bind fun t296 => (if bt279.2.1.length < 17592186044416 then (some (bt279.1, (bt279.2.1 ++ [t296]), bt279.2.2.1)) else (none))) else (some (bt279.1, bt279.2.1, bt279.2.2.1))))))))) else (none)) else (none)))))
theorem minecontrollaw18_made.mono : ∀ a0 a1 a2 k, LeO (minecontrollaw18_made.f k a0 a1 a2) (minecontrollaw18_made.f (k + 1) a0 a1 a2) := by
 intro a0 a1 a2 k
 unfold minecontrollaw18_made.f
 repeat' first
   | (with_reducible exact minecontroldraw_Codes_Feeder.mono _ _ _ _)
   | (with_reducible exact minecontroldraw_Codes_Next.mono _ _ _ _)
   | (with_reducible exact LeO.refl _)
   | (with_reducible exact LeO.none _)
   | (with_reducible refine LeO.ite ?_ ?_)
   | (with_reducible refine LeO.bind ?_ (fun _ => ?_))
   | exact LeO.none _
   | refine LeO.ite ?_ ?_
   | refine LeO.bind ?_ (fun _ => ?_)
def minecontrollaw18_made.T3 : Bool × List (List Nat × List Nat) := (true, [([], []), ([0], [0]), ([], []), ([], []), ([3], [3]), ([4], [4]), ([2, 5], [2, 5]), ([1, 6], [1, 6]), ([7, 6, 0, 1, 2, 3, 4, 5, 6, 7], [7])])
def minecontrollaw18_made.B3 : List Nat := [0, 1, 0, 0, 8, 24, 60, 127, 255]
theorem minecontrollaw18_made.tab3 : rtab .any (opsOf Try.f28 3) = minecontrollaw18_made.T3 := by kernel_rfl
theorem minecontrollaw18_made.bits3 : waitsOk minecontrollaw18_made.T3.2 minecontrollaw18_made.B3 = true := by kernel_rfl
def minecontrollaw18_made.T16 : Bool × List (List Nat × List Nat) := (true, [([], []), ([0], [0]), ([], []), ([2], [2]), ([3], [3]), ([1, 4, 3], [1, 4]), ([0, 1, 2, 3, 4, 5], []), ([6, 5, 5, 0, 1, 2, 3, 4, 5], [5, 6])])
def minecontrollaw18_made.B16 : List Nat := [0, 1, 0, 4, 12, 31, 63, 127]
theorem minecontrollaw18_made.tab16 : rtab .any (opsOf Try.f28 16) = minecontrollaw18_made.T16 := by kernel_rfl
theorem minecontrollaw18_made.bits16 : waitsOk minecontrollaw18_made.T16.2 minecontrollaw18_made.B16 = true := by kernel_rfl
set_option maxHeartbeats 8000000 in
set_option maxRecDepth 100000 in
theorem minecontrollaw18_made.calls (k : Nat) (A0 : Option Addr) (c0 : Nat) (l0 : List Int) (a1 : Int) (a2 : Int) (r1 : List (S32)) (r2 : List Int) (r3 : Int) (w : World) (hr0 : Kd.C (Kd.int .u8) w A0 l0.length l0) (hc0 : l0.length ≤ c0) (h : minecontrollaw18_made.f k l0 a1 a2 = some (r1, r2, r3)) :
  Calls Try.prog 28 #[.slice A0 l0.length c0, .int .i64 a1, .int .i64 a2] w fun e w' => ∃ v0_ v1_ : Value, e = .returned (.agg #[v0_, v1_, .int .i64 r3]) ∧ Kd.R k32 32 w' w.heap.size (fun _ => True) v0_ r1 ∧ Kd.R (Kd.int .i64) 3 w' w.heap.size (fun _ => True) v1_ r2 ∧ Below w.heap.size w w' := by
 have hu28 := Try.underlying28
 have HR0 := aM hr0
 have HC0 := aM hc0
 clear hr0 hc0
 have HB := aM (Below.refl w.heap.size w)
 have H : ((minecontroldraw_New.f l0).bind fun bt274 => ((minecontroldraw_Codes_Next.f k bt274.1 bt274.2 4).bind fun bt277 => ((minecontroldraw_Codes_Feeder.f k bt274.1 bt277.2 bt277.1).bind fun bt279 => ((minecontroldraw_Mod.f a1 (bt279.1.length : Int)).bind fun t288 => (if 0 ≤ t288 then (if t288 < (bt279.1.length : Int) then ((minecontroldraw_Codes_Next.f k bt274.1 bt279.2.2.2 12).bind fun bt290 => (if bt290.1 = 1 then (some ((bt279.1.set (t288 : Int).toNat (⟨a2, (rd_T32 bt279.1 t288).f1, (rd_T32 bt279.1 t288).f2, (rd_T32 bt279.1 t288).f3, (rd_T32 bt279.1 t288).f4⟩ : S32)), bt279.2.1, bt279.2.2.1)) else (if bt290.1 = 2 then (some ((bt279.1.set (t288 : Int).toNat (⟨(rd_T32 bt279.1 t288).f0, a2, (rd_T32 bt279.1 t288).f2, (rd_T32 bt279.1 t288).f3, (rd_T32 bt279.1 t288).f4⟩ : S32)), bt279.2.1, bt279.2.2.1)) else (if bt290.1 = 3 then (some ((bt279.1.set (t288 : Int).toNat (⟨(rd_T32 bt279.1 t288).f0, (rd_T32 bt279.1 t288).f1, a2, (rd_T32 bt279.1 t288).f3, (rd_T32 bt279.1 t288).f4⟩ : S32)), bt279.2.1, bt279.2.2.1)) else (if bt290.1 = 4 then (some ((bt279.1.set (t288 : Int).toNat (⟨(rd_T32 bt279.1 t288).f0, (rd_T32 bt279.1 t288).f1, (rd_T32 bt279.1 t288).f2, (rd_T32 bt279.1 t288).f3, true⟩ : S32)), bt279.2.1, bt279.2.2.1)) else (if bt290.1 = 5 then (some (bt279.1, bt279.2.1, a2)) else (if bt290.1 = 6 then ((minecontroldraw_Mod.f a2 6).bind fun t296 => (if bt279.2.1.length < 17592186044416 then (some (bt279.1, (bt279.2.1 ++ [t296]), bt279.2.2.1)) else (none))) else (some (bt279.1, bt279.2.1, bt279.2.2.1))))))))) else (none)) else (none)))))) = some (r1, r2, r3) := h
 clear h
 replace H := Option.bind_eq_some_iff.mp H
 obtain ⟨⟨t274, t275⟩, A40, H⟩ := H
 replace H : ((minecontroldraw_Codes_Next.f k t274 t275 4).bind fun bt277 => ((minecontroldraw_Codes_Feeder.f k t274 bt277.2 bt277.1).bind fun bt279 => ((minecontroldraw_Mod.f a1 (bt279.1.length : Int)).bind fun t288 => (if 0 ≤ t288 then (if t288 < (bt279.1.length : Int) then ((minecontroldraw_Codes_Next.f k t274 bt279.2.2.2 12).bind fun bt290 => (if bt290.1 = 1 then (some ((bt279.1.set (t288 : Int).toNat (⟨a2, (rd_T32 bt279.1 t288).f1, (rd_T32 bt279.1 t288).f2, (rd_T32 bt279.1 t288).f3, (rd_T32 bt279.1 t288).f4⟩ : S32)), bt279.2.1, bt279.2.2.1)) else (if bt290.1 = 2 then (some ((bt279.1.set (t288 : Int).toNat (⟨(rd_T32 bt279.1 t288).f0, a2, (rd_T32 bt279.1 t288).f2, (rd_T32 bt279.1 t288).f3, (rd_T32 bt279.1 t288).f4⟩ : S32)), bt279.2.1, bt279.2.2.1)) else (if bt290.1 = 3 then (some ((bt279.1.set (t288 : Int).toNat (⟨(rd_T32 bt279.1 t288).f0, (rd_T32 bt279.1 t288).f1, a2, (rd_T32 bt279.1 t288).f3, (rd_T32 bt279.1 t288).f4⟩ : S32)), bt279.2.1, bt279.2.2.1)) else (if bt290.1 = 4 then (some ((bt279.1.set (t288 : Int).toNat (⟨(rd_T32 bt279.1 t288).f0, (rd_T32 bt279.1 t288).f1, (rd_T32 bt279.1 t288).f2, (rd_T32 bt279.1 t288).f3, true⟩ : S32)), bt279.2.1, bt279.2.2.1)) else (if bt290.1 = 5 then (some (bt279.1, bt279.2.1, a2)) else (if bt290.1 = 6 then ((minecontroldraw_Mod.f a2 6).bind fun t296 => (if bt279.2.1.length < 17592186044416 then (some (bt279.1, (bt279.2.1 ++ [t296]), bt279.2.2.1)) else (none))) else (some (bt279.1, bt279.2.1, bt279.2.2.1))))))))) else (none)) else (none))))) = some (r1, r2, r3) := H
 have A4 := aM A40
 clear A40
 replace H := Option.bind_eq_some_iff.mp H
 obtain ⟨⟨t277, t278⟩, A50, H⟩ := H
 replace H : ((minecontroldraw_Codes_Feeder.f k t274 t278 t277).bind fun bt279 => ((minecontroldraw_Mod.f a1 (bt279.1.length : Int)).bind fun t288 => (if 0 ≤ t288 then (if t288 < (bt279.1.length : Int) then ((minecontroldraw_Codes_Next.f k t274 bt279.2.2.2 12).bind fun bt290 => (if bt290.1 = 1 then (some ((bt279.1.set (t288 : Int).toNat (⟨a2, (rd_T32 bt279.1 t288).f1, (rd_T32 bt279.1 t288).f2, (rd_T32 bt279.1 t288).f3, (rd_T32 bt279.1 t288).f4⟩ : S32)), bt279.2.1, bt279.2.2.1)) else (if bt290.1 = 2 then (some ((bt279.1.set (t288 : Int).toNat (⟨(rd_T32 bt279.1 t288).f0, a2, (rd_T32 bt279.1 t288).f2, (rd_T32 bt279.1 t288).f3, (rd_T32 bt279.1 t288).f4⟩ : S32)), bt279.2.1, bt279.2.2.1)) else (if bt290.1 = 3 then (some ((bt279.1.set (t288 : Int).toNat (⟨(rd_T32 bt279.1 t288).f0, (rd_T32 bt279.1 t288).f1, a2, (rd_T32 bt279.1 t288).f3, (rd_T32 bt279.1 t288).f4⟩ : S32)), bt279.2.1, bt279.2.2.1)) else (if bt290.1 = 4 then (some ((bt279.1.set (t288 : Int).toNat (⟨(rd_T32 bt279.1 t288).f0, (rd_T32 bt279.1 t288).f1, (rd_T32 bt279.1 t288).f2, (rd_T32 bt279.1 t288).f3, true⟩ : S32)), bt279.2.1, bt279.2.2.1)) else (if bt290.1 = 5 then (some (bt279.1, bt279.2.1, a2)) else (if bt290.1 = 6 then ((minecontroldraw_Mod.f a2 6).bind fun t296 => (if bt279.2.1.length < 17592186044416 then (some (bt279.1, (bt279.2.1 ++ [t296]), bt279.2.2.1)) else (none))) else (some (bt279.1, bt279.2.1, bt279.2.2.1))))))))) else (none)) else (none)))) = some (r1, r2, r3) := H
 have A5 := aM A50
 clear A50
 replace H := Option.bind_eq_some_iff.mp H
 obtain ⟨⟨t279, t282, t285, t286⟩, A60, H⟩ := H
 replace H : ((minecontroldraw_Mod.f a1 (t279.length : Int)).bind fun t288 => (if 0 ≤ t288 then (if t288 < (t279.length : Int) then ((minecontroldraw_Codes_Next.f k t274 t286 12).bind fun bt290 => (if bt290.1 = 1 then (some ((t279.set (t288 : Int).toNat (⟨a2, (rd_T32 t279 t288).f1, (rd_T32 t279 t288).f2, (rd_T32 t279 t288).f3, (rd_T32 t279 t288).f4⟩ : S32)), t282, t285)) else (if bt290.1 = 2 then (some ((t279.set (t288 : Int).toNat (⟨(rd_T32 t279 t288).f0, a2, (rd_T32 t279 t288).f2, (rd_T32 t279 t288).f3, (rd_T32 t279 t288).f4⟩ : S32)), t282, t285)) else (if bt290.1 = 3 then (some ((t279.set (t288 : Int).toNat (⟨(rd_T32 t279 t288).f0, (rd_T32 t279 t288).f1, a2, (rd_T32 t279 t288).f3, (rd_T32 t279 t288).f4⟩ : S32)), t282, t285)) else (if bt290.1 = 4 then (some ((t279.set (t288 : Int).toNat (⟨(rd_T32 t279 t288).f0, (rd_T32 t279 t288).f1, (rd_T32 t279 t288).f2, (rd_T32 t279 t288).f3, true⟩ : S32)), t282, t285)) else (if bt290.1 = 5 then (some (t279, t282, a2)) else (if bt290.1 = 6 then ((minecontroldraw_Mod.f a2 6).bind fun t296 => (if t282.length < 17592186044416 then (some (t279, (t282 ++ [t296]), t285)) else (none))) else (some (t279, t282, t285))))))))) else (none)) else (none))) = some (r1, r2, r3) := H
 have A6 := aM A60
 clear A60
 replace H := Option.bind_eq_some_iff.mp H
 obtain ⟨t288, A70, H⟩ := H
 replace H : (if 0 ≤ t288 then (if t288 < (t279.length : Int) then ((minecontroldraw_Codes_Next.f k t274 t286 12).bind fun bt290 => (if bt290.1 = 1 then (some ((t279.set (t288 : Int).toNat (⟨a2, (rd_T32 t279 t288).f1, (rd_T32 t279 t288).f2, (rd_T32 t279 t288).f3, (rd_T32 t279 t288).f4⟩ : S32)), t282, t285)) else (if bt290.1 = 2 then (some ((t279.set (t288 : Int).toNat (⟨(rd_T32 t279 t288).f0, a2, (rd_T32 t279 t288).f2, (rd_T32 t279 t288).f3, (rd_T32 t279 t288).f4⟩ : S32)), t282, t285)) else (if bt290.1 = 3 then (some ((t279.set (t288 : Int).toNat (⟨(rd_T32 t279 t288).f0, (rd_T32 t279 t288).f1, a2, (rd_T32 t279 t288).f3, (rd_T32 t279 t288).f4⟩ : S32)), t282, t285)) else (if bt290.1 = 4 then (some ((t279.set (t288 : Int).toNat (⟨(rd_T32 t279 t288).f0, (rd_T32 t279 t288).f1, (rd_T32 t279 t288).f2, (rd_T32 t279 t288).f3, true⟩ : S32)), t282, t285)) else (if bt290.1 = 5 then (some (t279, t282, a2)) else (if bt290.1 = 6 then ((minecontroldraw_Mod.f a2 6).bind fun t296 => (if t282.length < 17592186044416 then (some (t279, (t282 ++ [t296]), t285)) else (none))) else (some (t279, t282, t285))))))))) else (none)) else (none)) = some (r1, r2, r3) := H
 have A7 := aM A70
 clear A70
 by_cases c8 : 0 ≤ t288
 rotate_left
 ·
  rw [if_neg c8] at H
  exact absurd H (by simp)
 rw [if_pos c8] at H
 have c8b0 : decide (0 ≤ t288) = true := decide_eq_true c8
 clear c8
 by_cases c9 : t288 < (t279.length : Int)
 rotate_left
 ·
  rw [if_neg c9] at H
  exact absurd H (by simp)
 rw [if_pos c9] at H
 have c9b0 : decide (t288 < (t279.length : Int)) = true := decide_eq_true c9
 clear c9
 replace H := Option.bind_eq_some_iff.mp H
 obtain ⟨⟨t290, t291⟩, A100, H⟩ := H
 replace H : (if t290 = 1 then (some ((t279.set (t288 : Int).toNat (⟨a2, (rd_T32 t279 t288).f1, (rd_T32 t279 t288).f2, (rd_T32 t279 t288).f3, (rd_T32 t279 t288).f4⟩ : S32)), t282, t285)) else (if t290 = 2 then (some ((t279.set (t288 : Int).toNat (⟨(rd_T32 t279 t288).f0, a2, (rd_T32 t279 t288).f2, (rd_T32 t279 t288).f3, (rd_T32 t279 t288).f4⟩ : S32)), t282, t285)) else (if t290 = 3 then (some ((t279.set (t288 : Int).toNat (⟨(rd_T32 t279 t288).f0, (rd_T32 t279 t288).f1, a2, (rd_T32 t279 t288).f3, (rd_T32 t279 t288).f4⟩ : S32)), t282, t285)) else (if t290 = 4 then (some ((t279.set (t288 : Int).toNat (⟨(rd_T32 t279 t288).f0, (rd_T32 t279 t288).f1, (rd_T32 t279 t288).f2, (rd_T32 t279 t288).f3, true⟩ : S32)), t282, t285)) else (if t290 = 5 then (some (t279, t282, a2)) else (if t290 = 6 then ((minecontroldraw_Mod.f a2 6).bind fun t296 => (if t282.length < 17592186044416 then (some (t279, (t282 ++ [t296]), t285)) else (none))) else (some (t279, t282, t285)))))))) = some (r1, r2, r3) := H
 have A10 := aM A100
 clear A100
 by_cases c11 : t290 = 1
 ·
  rw [if_pos c11] at H
  have c11b0 : (t290 == 1) = true := beq_iff_eq.mpr c11
  have c11b1 : (t290 != 1) = false := bne_eq_false_iff_eq.mpr c11
  clear c11
  obtain ⟨y292, hy292⟩ : ∃ y_ : List (S32), y_ = (t279.set (t288 : Int).toNat (⟨a2, (rd_T32 t279 t288).f1, (rd_T32 t279 t288).f2, (rd_T32 t279 t288).f3, (rd_T32 t279 t288).f4⟩ : S32)) := ⟨_, rfl⟩
  replace H : (some (y292, t282, t285)) = some (r1, r2, r3) := by first | (rw [hy292]; with_reducible exact H) | (have H2_ := (Option.bind_some _ _).symm.trans H; rw [hy292]; with_reducible exact H2_) | (have H2_ := (Option.bind_some _ _).symm.trans H; with_reducible exact H2_) | with_reducible exact H | (rw [hy292]; exact H) | exact H
  have Ny292 := aM hy292
  clear hy292
  simp only [Option.some.injEq, Prod.mk.injEq] at H
  obtain ⟨rfl, rfl, rfl⟩ := H
  go_enter Try.func28, Try.ntmps28
  try go_wp2_with (first | ((with_reducible refine gate_dst (N := 6) rfl ?_); refine box_event ?hg (N := 6) ?hd (cs := #[.slice none 0 0, .slice none 0 0, .int .i64 0]) (t := 28) ?hr ?_; (case hd => rfl); (case hg => rfl); (case hr => first | (go_simp; done) | (go_simp; rfl)); intro gb273 hg w13 hbox hb; have BK273 := aM (hbox); have GW273 := aM ((by rw [hg]; exact (below_size (below_mv HB.out)) : w.heap.size ≤ gb273)); have GE273 := aM ((by rw [hg]; exact (below_size (below_mv HB.out)) : w.heap.size ≤ gb273)); replace HB := aM (below_step (below_mv HB.out) hb); clear hb hbox hg) | ((with_reducible refine gate_callee (f := 9) rfl ?_); refine goesL_ (some 11) rfl rfl Try.func9 (by kernel_rfl) rfl #[.slice A0 l0.length c0] rfl (by first | rfl | (simp only [List.map_toArray, List.map_cons, List.map_nil, List.length_drop, List.length_take]; rfl)) ?_; (with_reducible refine (minecontroldraw_New.calls _ _ l0 t274 t275 w _ ?side1 ?side2 ?side3 A4.out).mono ?_); (case side1 => repeat (first | (with_reducible first | exact HB.out | apply bA | apply bN | apply bD | refine below_set ?_ GE273.out) | exact HB.out)); (case side2 => exact HR0.out); (case side3 => exact HC0.out); rintro e w14 ⟨g276, rfl, hi, hb, hb2, hge⟩; refine ⟨_, rfl, ?_⟩; replace HB := aM (hb); have HI276 := aM (hi); have NB276_273 := aM (IsS61.ne_blk hi (blk_below (blk_mv BK273.out) hb2) (by decide)); have NB273_276 := aM (Ne.symm (IsS61.ne_blk hi (blk_below (blk_mv BK273.out) hb2) (by decide))); replace BK273 := aM (blk_below (blk_mv BK273.out) hb2); (try clear hb); (try clear hb2); (try clear hge); (try clear hk); (try clear hi)) | ((with_reducible refine gate_callee (f := 11) rfl ?_); refine goesL_ (some 14) rfl rfl Try.func11 (by kernel_rfl) rfl #[.pointer (some ⟨g276, 0, none⟩), .int .i64 4] rfl (by first | rfl | (simp only [List.map_toArray, List.map_cons, List.map_nil, List.length_drop, List.length_take]; rfl)) ?_; (with_reducible refine (minecontroldraw_Codes_Next.calls k g276 t274 t275 4 t277 t278 w _ ?side1 ?side2 A5.out).mono ?_); (case side1 => repeat (first | (with_reducible first | exact HI276.out | apply IsS61.alloc | apply IsS61.drewN | apply IsS61.drew | apply IsS61.set_1 | refine IsS61.far ?_ NB276_273.out _) | exact HI276.out)); (case side2 => repeat (first | (with_reducible first | exact HB.out | apply bA | apply bN | apply bD | refine below_set ?_ (IsS61.ge HI276.out) | refine below_set ?_ GE273.out) | exact HB.out)); rintro e w15 ⟨rfl, hi, hb, hk⟩; refine ⟨_, rfl, ?_⟩; replace BK273 := aM (KeepBut.blk hk (g' := gb273) (o := .cells #[.slice none 0 0, .slice none 0 0, .int .i64 0] 28 (0, 0)) (by (with_reducible repeat (first | refine kN ?_ _ | refine kD ?_ | refine kA ?_ _)); exact BK273.out) NB273_276.out (by simp)); replace HB := aM (hb); replace HI276 := aM (hi); (try clear hb); (try clear hb2); (try clear hge); (try clear hk); (try clear hi)) | ((with_reducible refine gate_callee (f := 10) rfl ?_); refine goesL_ (some 15) rfl rfl Try.func10 (by kernel_rfl) rfl #[.pointer (some ⟨g276, 0, none⟩), .int .i64 t277] rfl (by first | rfl | (simp only [List.map_toArray, List.map_cons, List.map_nil, List.length_drop, List.length_take]; rfl)) ?_; (with_reducible refine (minecontroldraw_Codes_Feeder.calls k g276 t274 t278 t277 t279 t282 t285 t286 w _ ?side1 ?side2 A6.out).mono ?_); (case side1 => repeat (first | (with_reducible first | exact HI276.out | apply IsS61.alloc | apply IsS61.drewN | apply IsS61.drew | apply IsS61.set_1 | refine IsS61.far ?_ NB276_273.out _) | exact HI276.out)); (case side2 => repeat (first | (with_reducible first | exact HB.out | apply bA | apply bN | apply bD | refine below_set ?_ (IsS61.ge HI276.out) | refine below_set ?_ GE273.out) | exact HB.out)); rintro e w16 ⟨v280, v283, rfl, ho0, ho1, hi, hb, hk⟩; refine ⟨_, rfl, ?_⟩; replace BK273 := aM (KeepBut.blk hk (g' := gb273) (o := .cells #[.slice none 0 0, .slice none 0 0, .int .i64 0] 28 (0, 0)) (by (with_reducible repeat (first | refine kN ?_ _ | refine kD ?_ | refine kA ?_ _)); exact BK273.out) NB273_276.out (by simp)); have HO281 := aM (Kd.R_lower ho0 (below_size (by repeat (first | (with_reducible first | exact HB.out | apply bA | apply bN | apply bD | refine below_set ?_ (IsS61.ge HI276.out) | refine below_set ?_ GE273.out) | exact HB.out)))); have HO284 := aM (Kd.R_lower ho1 (below_size (by repeat (first | (with_reducible first | exact HB.out | apply bA | apply bN | apply bD | refine below_set ?_ (IsS61.ge HI276.out) | refine below_set ?_ GE273.out) | exact HB.out)))); replace HB := aM (hb); replace HI276 := aM (hi); (try clear hb); (try clear hb2); (try clear hge); (try clear hk); (try clear hi); (try clear ho0); (try clear ho1)) | ((with_reducible refine gate_dst (N := 8) rfl ?_); refine box_event ?hg (N := 8) ?hd (cs := #[.slice none 0 0, .slice none 0 0, .int .i64 0]) (t := 28) ?hr ?_; (case hd => rfl); (case hg => rfl); (case hr => first | (go_simp; done) | (go_simp; rfl)); intro gb287 hg w17 hbox hb; replace HO281 := aM (Kd.R_below (R_mv HO281.out) hb); replace HO284 := aM (Kd.R_below (R_mv HO284.out) hb); have BK287 := aM (hbox); have GW287 := aM ((by rw [hg]; exact (below_size (by repeat (first | (with_reducible first | exact HB.out | apply bA | apply bN | apply bD | refine below_set ?_ (IsS61.ge HI276.out) | refine below_set ?_ GE273.out) | exact HB.out))) : w.heap.size ≤ gb287)); have GE287 := aM ((by rw [hg]; exact (below_size (by repeat (first | (with_reducible first | exact HB.out | apply bA | apply bN | apply bD | refine below_set ?_ (IsS61.ge HI276.out) | refine below_set ?_ GE273.out) | exact HB.out))) : w.heap.size ≤ gb287)); replace HB := aM (below_step (by repeat (first | (with_reducible first | exact HB.out | apply bA | apply bN | apply bD | refine below_set ?_ (IsS61.ge HI276.out) | refine below_set ?_ GE273.out) | exact HB.out)) hb); have NB273_287 := aM ((by rw [hg]; exact Nat.ne_of_lt (blk_lt (blk_mv BK273.out)) : gb273 ≠ gb287)); have NB287_273 := aM ((by rw [hg]; exact Nat.ne_of_gt (blk_lt (blk_mv BK273.out)) : gb287 ≠ gb273)); replace BK273 := aM (blk_below (blk_mv BK273.out) hb); have NB276_287 := aM ((by rw [hg]; exact Nat.ne_of_lt (IsS61.lt (show IsS61 w _ g276 t274 t286 from by repeat (first | (with_reducible first | exact HI276.out | apply IsS61.alloc | apply IsS61.drewN | apply IsS61.drew | apply IsS61.set_1 | refine IsS61.far ?_ NB276_273.out _) | exact HI276.out))) : g276 ≠ gb287)); have NB287_276 := aM ((by rw [hg]; exact Nat.ne_of_gt (IsS61.lt (show IsS61 w _ g276 t274 t286 from by repeat (first | (with_reducible first | exact HI276.out | apply IsS61.alloc | apply IsS61.drewN | apply IsS61.drew | apply IsS61.set_1 | refine IsS61.far ?_ NB276_273.out _) | exact HI276.out))) : gb287 ≠ g276)); replace HI276 := aM (IsS61.below (by repeat (first | (with_reducible first | exact HI276.out | apply IsS61.alloc | apply IsS61.drewN | apply IsS61.drew | apply IsS61.set_1 | refine IsS61.far ?_ NB276_273.out _) | exact HI276.out)) hb); clear hb hbox hg; obtain ⟨Ao18, co18, eo18⟩ := Kd.R_slice HO281.out; subst eo18; have hnb19 := NB287_273.out; have hnc19 := NB273_287.out; have hnb20 := NB287_276.out; have hnc20 := NB276_287.out; obtain ⟨hcz21_0, hcz21_1, hcz21_2, hfz21_0, hfz21_1, hfz21_2⟩ := blk3 BK287.out; obtain ⟨Ao22, co22, eo22⟩ := Kd.R_slice HO284.out; subst eo22))
  have n0_ : Aside0 (Kd.R k32 32 (((w17.setCell ⟨gb287, 0, none⟩ (.slice Ao18 t279.length co18)).setCell ⟨gb287, 1, none⟩ (.slice Ao22 t282.length co22)).setCell ⟨gb287, 2, none⟩ (.int .i64 t285)) w.heap.size (fun _ => True) (.slice Ao18 t279.length co18) t279) := ⟨by (with_reducible repeat (first | apply Kd.R_alloc | apply Kd.R_drewN | apply Kd.R_drew)); exact Kd.R_mono (Kd.R_far (p := ⟨gb287, 2, none⟩) (Kd.R_far (p := ⟨gb287, 1, none⟩) (Kd.R_far (p := ⟨gb287, 0, none⟩) (Kd.R_types HO281.out BK287.out (by decide)) (fun _ hk => hk.2) (.slice Ao18 t279.length co18)) (fun _ hk => hk.2) (.slice Ao22 t282.length co22)) (fun _ hk => hk.2) (.int .i64 t285)) (fun _ hk => trivial)⟩
  have n1_ : Aside0 (Kd.R (Kd.int .i64) 3 (((w17.setCell ⟨gb287, 0, none⟩ (.slice Ao18 t279.length co18)).setCell ⟨gb287, 1, none⟩ (.slice Ao22 t282.length co22)).setCell ⟨gb287, 2, none⟩ (.int .i64 t285)) w.heap.size (fun _ => True) (.slice Ao22 t282.length co22) t282) := ⟨by (with_reducible repeat (first | apply Kd.R_alloc | apply Kd.R_drewN | apply Kd.R_drew)); exact Kd.R_mono (Kd.R_far (p := ⟨gb287, 2, none⟩) (Kd.R_far (p := ⟨gb287, 1, none⟩) (Kd.R_far (p := ⟨gb287, 0, none⟩) (Kd.R_types HO284.out BK287.out (by decide)) (fun _ hk => hk.2) (.slice Ao18 t279.length co18)) (fun _ hk => hk.2) (.slice Ao22 t282.length co22)) (fun _ hk => hk.2) (.int .i64 t285)) (fun _ hk => trivial)⟩
  have n2_ : Aside0 ((((w17.setCell ⟨gb287, 0, none⟩ (.slice Ao18 t279.length co18)).setCell ⟨gb287, 1, none⟩ (.slice Ao22 t282.length co22)).setCell ⟨gb287, 2, none⟩ (.int .i64 t285)).heap[gb273]? = some (.cells #[.slice none 0 0, .slice none 0 0, .int .i64 0] 28 (0, 0))) := ⟨by (with_reducible repeat (first | refine kN ?_ _ | refine kD ?_ | refine kA ?_ _)); refine blk_far ?_ NB273_287.out _; (with_reducible repeat (first | refine kN ?_ _ | refine kD ?_ | refine kA ?_ _)); refine blk_far ?_ NB273_287.out _; (with_reducible repeat (first | refine kN ?_ _ | refine kD ?_ | refine kA ?_ _)); refine blk_far ?_ NB273_287.out _; (with_reducible repeat (first | refine kN ?_ _ | refine kD ?_ | refine kA ?_ _)); exact BK273.out⟩
  have n3_ : Aside0 ((((w17.setCell ⟨gb287, 0, none⟩ (.slice Ao18 t279.length co18)).setCell ⟨gb287, 1, none⟩ (.slice Ao22 t282.length co22)).setCell ⟨gb287, 2, none⟩ (.int .i64 t285)).heap[gb287]? = some (.cells #[.slice Ao18 t279.length co18, .slice Ao22 t282.length co22, .int .i64 t285] 28 (0, 0))) := ⟨by (with_reducible repeat (first | refine kN ?_ _ | refine kD ?_ | refine kA ?_ _)); refine blk_put (cs := #[.slice Ao18 t279.length co18, .slice Ao22 t282.length co22, .int .i64 0]) ?_ 2 _ rfl; (with_reducible repeat (first | refine kN ?_ _ | refine kD ?_ | refine kA ?_ _)); refine blk_put (cs := #[.slice Ao18 t279.length co18, .slice none 0 0, .int .i64 0]) ?_ 1 _ rfl; (with_reducible repeat (first | refine kN ?_ _ | refine kD ?_ | refine kA ?_ _)); refine blk_put (cs := #[.slice none 0 0, .slice none 0 0, .int .i64 0]) ?_ 0 _ rfl; (with_reducible repeat (first | refine kN ?_ _ | refine kD ?_ | refine kA ?_ _)); exact BK287.out⟩
  have n4_ : Aside0 (IsS61 w (((w17.setCell ⟨gb287, 0, none⟩ (.slice Ao18 t279.length co18)).setCell ⟨gb287, 1, none⟩ (.slice Ao22 t282.length co22)).setCell ⟨gb287, 2, none⟩ (.int .i64 t285)) g276 t274 t286) := ⟨by repeat (first | (with_reducible first | exact HI276.out | apply IsS61.alloc | apply IsS61.drewN | apply IsS61.drew | apply IsS61.set_1 | refine IsS61.far ?_ NB276_273.out _ | refine IsS61.far ?_ NB276_287.out _) | exact HI276.out)⟩
  have n5_ : Aside0 (Below w.heap.size w (((w17.setCell ⟨gb287, 0, none⟩ (.slice Ao18 t279.length co18)).setCell ⟨gb287, 1, none⟩ (.slice Ao22 t282.length co22)).setCell ⟨gb287, 2, none⟩ (.int .i64 t285))) := ⟨by repeat (first | (with_reducible first | exact HB.out | apply bA | apply bN | apply bD | refine below_set ?_ (IsS61.ge HI276.out) | refine below_set ?_ GE273.out | refine below_set ?_ GE287.out) | exact HB.out)⟩
  (try clear HO281)
  (try clear HO284)
  (try clear BK273)
  (try clear BK287)
  (try clear HI276)
  (try clear HB)
  generalize (((w17.setCell ⟨gb287, 0, none⟩ (.slice Ao18 t279.length co18)).setCell ⟨gb287, 1, none⟩ (.slice Ao22 t282.length co22)).setCell ⟨gb287, 2, none⟩ (.int .i64 t285)) = w23 at n0_ n1_ n2_ n3_ n4_ n5_ ⊢
  have HO281 := n0_
  have HO284 := n1_
  have BK273 := n2_
  have BK287 := n3_
  have HI276 := n4_
  have HB := n5_
  clear n0_ n1_ n2_ n3_ n4_ n5_
  replace HO281 := aM (Kd.R_drew HO281.out)
  replace HO284 := aM (Kd.R_drew HO284.out)
  replace BK273 := aM (blk_drew BK273.out)
  replace BK287 := aM (blk_drew BK287.out)
  replace HI276 := aM (IsS61.drew HI276.out)
  replace HB := aM (below_drew1 HB.out)
  have p289 : 0 ≤ (t288 : Int) := of_decide_eq_true (by first | (with_reducible assumption) | assumption)
  have q289 : t288 < (t279.length : Int) := of_decide_eq_true (by first | (with_reducible assumption) | assumption)
  obtain ⟨ad289, e289, hx289_0, hx289_1, hx289_2, hx289_3, hx289_4⟩ := at_T32 (Kd.R_reads' HO281.out).2.2 t288 p289 q289
  cases e289
  replace p289 := eq_true p289
  replace q289 := eq_true q289
  refine start_ (n := 9) (S := fun w' => w'.cell? ⟨gb287, 0, none⟩ = some (.slice (some ad289) t279.length co18) ∧ w'.cell? ⟨gb287, 1, none⟩ = some (.slice Ao22 t282.length co22) ∧ w'.cell? ⟨gb287, 2, none⟩ = some (.int .i64 t285) ∧ w'.cell? (ad289.add ((t288).toNat * 5)) = some (.int .i64 ((rd_T32 t279 t288).f0)) ∧ w'.cell? ⟨(ad289.add ((t288).toNat * 5)).block, (ad289.add ((t288).toNat * 5)).off + 1, none⟩ = some (.int .i64 ((rd_T32 t279 t288).f1)) ∧ w'.cell? ⟨(ad289.add ((t288).toNat * 5)).block, (ad289.add ((t288).toNat * 5)).off + 2, none⟩ = some (.int .i64 ((rd_T32 t279 t288).f2)) ∧ w'.cell? ⟨(ad289.add ((t288).toNat * 5)).block, (ad289.add ((t288).toNat * 5)).off + 3, none⟩ = some (.bool ((rd_T32 t279 t288).f3)) ∧ w'.cell? ⟨(ad289.add ((t288).toNat * 5)).block, (ad289.add ((t288).toNat * 5)).off + 4, none⟩ = some (.bool ((rd_T32 t279 t288).f4))) (ds := []) #[false, false, false, false, false, false, false, false, false] (by kernel_rfl) rfl rfl ⟨(blk_cell BK287.out 0).trans rfl, (blk_cell BK287.out 1).trans rfl, (blk_cell BK287.out 2).trans rfl, hx289_0, hx289_1, hx289_2, hx289_3, hx289_4⟩ (fun hHeld => ?_); refine with_tabW minecontrollaw18_made.tab3 minecontrollaw18_made.bits3 (fun HT_ HW_ => ?_)
  generalize w23.drew = w24 at HO281 HO284 BK273 BK287 HI276 HB hx289_0 hx289_1 hx289_2 hx289_3 hx289_4 hHeld ⊢
  refine pure_ (i := 0) (N := some 16) (v := ?_) (a' := ?_) #[true, false, false, false, false, false, false, false, false] rfl rfl (any_of HT_.out (by kernel_rfl)) (fun _ _ _ h => h) (Or.inl ⟨by rfl, ?_⟩) ?_ ?_
  rotate_left
  ·
   intro w'
   go_simp
   with_reducible rfl
  rotate_left
  ·
   simp only [Act.put, sT, sZ, sS, i64_w, i32_w]
   rfl
  refine pure_ (i := 2) (N := some 18) (v := ?_) (a' := ?_) #[true, false, true, false, false, false, false, false, false] rfl rfl (any_of HT_.out (by kernel_rfl)) (fun _ _ _ h => h) (Or.inl ⟨by rfl, ?_⟩) ?_ ?_
  rotate_left
  ·
   intro w'
   go_simp
   with_reducible rfl
  rotate_left
  ·
   simp only [Act.put, sT, sZ, sS, i64_w, i32_w]
   rfl
  refine pure_ (i := 3) (N := some 19) (v := ?_) (a' := ?_) #[true, false, true, true, false, false, false, false, false] rfl rfl (any_of HT_.out (by kernel_rfl)) (fun _ _ _ h => h) (Or.inl ⟨by rfl, ?_⟩) ?_ ?_
  rotate_left
  ·
   intro w'
   go_simp
   with_reducible rfl
  rotate_left
  ·
   simp only [Act.put, sT, sZ, sS, i64_w, i32_w]
   rfl
  refine take_ (i := 1) (N := some 17) (v := ?_) (a' := ?_) #[true, true, true, true, false, false, false, false, false] rfl rfl (take_ofW HT_.out HW_.out (by kernel_rfl)) (fun _ _ _ h => h) (Or.inl ⟨by rfl, ?_⟩) hHeld ?_ ?_
  rotate_left
  ·
   rintro w' ⟨s0, s1, s2, s3, s4, s5, s6, s7⟩
   go_simp
   with_reducible rfl
  rotate_left
  ·
   simp only [Act.put, sT, sZ, sS, i64_w, i32_w]
   rfl
  refine take_ (i := 4) (N := some 20) (v := ?_) (a' := ?_) #[true, true, true, true, true, false, false, false, false] rfl rfl (take_ofW HT_.out HW_.out (by kernel_rfl)) (fun _ _ _ h => h) (Or.inl ⟨by rfl, ?_⟩) hHeld ?_ ?_
  rotate_left
  ·
   rintro w' ⟨s0, s1, s2, s3, s4, s5, s6, s7⟩
   go_simp
   with_reducible rfl
  rotate_left
  ·
   simp only [Act.put, sT, sZ, sS, i64_w, i32_w]
   rfl
  refine pure_ (i := 5) (N := some 21) (v := ?_) (a' := ?_) #[true, true, true, true, true, true, false, false, false] rfl rfl (any_of HT_.out (by kernel_rfl)) (fun _ _ _ h => h) (Or.inl ⟨by rfl, ?_⟩) ?_ ?_
  rotate_left
  ·
   intro w'
   go_simp
   with_reducible rfl
  rotate_left
  ·
   simp only [Act.put, sT, sZ, sS, i64_w, i32_w]
   rfl
  refine one_ (i := 6) (N := some 22) #[true, true, true, true, true, true, true, false, false] rfl rfl (one_of HT_.out (by kernel_rfl)) (by decide) (fun K hK => ?_)
  refine goes_ Try.func12 (by kernel_rfl) rfl #[.int .i64 a1, .int .i64 (t279.length : Int)] (by rfl) rfl rfl (by first | rfl | (simp only [List.map_toArray, List.map_cons, List.map_nil, List.length_drop, List.length_take]; rfl)) ?_
  with_reducible refine (minecontroldraw_Mod.calls a1 (t279.length : Int) t288 _ A7.out).mono ?_
  rintro e w' ⟨rfl, ⟨nd, rfl⟩⟩
  refine ⟨_, rfl, ?_⟩
  refine hK.out _ _ ⟨(blk_cell BK287.out 0).trans rfl, (blk_cell BK287.out 1).trans rfl, (blk_cell BK287.out 2).trans rfl, hHeld.2.2.2.1, hHeld.2.2.2.2.1, hHeld.2.2.2.2.2.1, hHeld.2.2.2.2.2.2.1, hHeld.2.2.2.2.2.2.2⟩ (fun hHeld => ?_)
  clear hK K
  refine norm_ (a' := ?_) ?_ ?_
  rotate_left
  ·
   show Act.put _ (some 22) _ = _
   simp only [Act.put, sT, sZ, sS, i64_w, i32_w]
   rfl
  refine pure_ (i := 7) (N := some 23) (v := ?_) (a' := ?_) #[true, true, true, true, true, true, true, true, false] rfl rfl (any_of HT_.out (by kernel_rfl)) (fun _ _ _ h => h) (Or.inl ⟨by rfl, ?_⟩) ?_ ?_
  rotate_left
  ·
   intro w'
   go_simp
   with_reducible rfl
  rotate_left
  ·
   simp only [Act.put, sT, sZ, sS, i64_w, i32_w]
   rfl
  refine pure_ (i := 8) (N := some 9) (v := ?_) (a' := ?_) #[true, true, true, true, true, true, true, true, true] rfl rfl (any_of HT_.out (by kernel_rfl)) (fun _ _ _ h => h) (Or.inl ⟨by rfl, ?_⟩) ?_ ?_
  rotate_left
  ·
   intro w'
   go_simp
   with_reducible rfl
  rotate_left
  ·
   simp only [Act.put, sT, sZ, sS, i64_w, i32_w]
   rfl
  refine done_ (done_of HT_.out (by kernel_rfl)) ?_
  try go_wp2_with (first | ((with_reducible refine gate_callee (f := 11) rfl ?_); refine goesL_ (some 25) rfl rfl Try.func11 (by kernel_rfl) rfl #[.pointer (some ⟨g276, 0, none⟩), .int .i64 12] rfl (by first | rfl | (simp only [List.map_toArray, List.map_cons, List.map_nil, List.length_drop, List.length_take]; rfl)) ?_; (with_reducible refine (minecontroldraw_Codes_Next.calls k g276 t274 t286 12 t290 t291 w _ ?side1 ?side2 A10.out).mono ?_); (case side1 => repeat (first | (with_reducible first | exact HI276.out | apply IsS61.alloc | apply IsS61.drewN | apply IsS61.drew | apply IsS61.set_1 | refine IsS61.far ?_ NB276_273.out _ | refine IsS61.far ?_ NB276_287.out _) | exact HI276.out)); (case side2 => repeat (first | (with_reducible first | exact HB.out | apply bA | apply bN | apply bD | refine below_set ?_ (IsS61.ge HI276.out) | refine below_set ?_ GE273.out | refine below_set ?_ GE287.out) | exact HB.out)); rintro e w25 ⟨rfl, hi, hb, hk⟩; refine ⟨_, rfl, ?_⟩; replace BK273 := aM (KeepBut.blk hk (g' := gb273) (o := .cells #[.slice none 0 0, .slice none 0 0, .int .i64 0] 28 (0, 0)) (by (with_reducible repeat (first | refine kN ?_ _ | refine kD ?_ | refine kA ?_ _)); exact BK273.out) NB273_276.out (by simp)); replace HO281 := aM (Kd.R_mono (Kd.R_keep (IsS61.apart (show IsS61 w _ g276 t274 t286 from by repeat (first | (with_reducible first | exact HI276.out | apply IsS61.alloc | apply IsS61.drewN | apply IsS61.drew | apply IsS61.set_1 | refine IsS61.far ?_ NB276_273.out _ | refine IsS61.far ?_ NB276_287.out _) | exact HI276.out)) (R_mv HO281.out) (by decide)) hk (fun _ h => h.2)) (fun _ h => h.1)); replace HO284 := aM (Kd.R_mono (Kd.R_keep (IsS61.apart (show IsS61 w _ g276 t274 t286 from by repeat (first | (with_reducible first | exact HI276.out | apply IsS61.alloc | apply IsS61.drewN | apply IsS61.drew | apply IsS61.set_1 | refine IsS61.far ?_ NB276_273.out _ | refine IsS61.far ?_ NB276_287.out _) | exact HI276.out)) (R_mv HO284.out) (by decide)) hk (fun _ h => h.2)) (fun _ h => h.1)); replace BK287 := aM (KeepBut.blk hk (g' := gb287) (o := .cells #[.slice (some ad289) t279.length co18, .slice Ao22 t282.length co22, .int .i64 t285] 28 (0, 0)) (by (with_reducible repeat (first | refine kN ?_ _ | refine kD ?_ | refine kA ?_ _)); exact BK287.out) NB287_276.out (by simp)); replace HB := aM (hb); replace HI276 := aM (hi); (try clear hb); (try clear hb2); (try clear hge); (try clear hk); (try clear hi); have p12 : 0 ≤ (t288 : Int) := of_decide_eq_true (by first | (with_reducible assumption) | assumption); have q12 : (t288 : Int) < ((t279.length : Int) : Int) := of_decide_eq_true (by first | (with_reducible assumption) | assumption); obtain ⟨go12, co12, eo12, gb12, gl12, cl12, HG12⟩ := Kd.R_form HO281.out (by omega); (first | cases eo12 | (injection eo12 with ea_ en_ ec_; (first | subst ea_ | (injection ea_ with ea_; subst ea_)); subst ec_; clear en_)); have GB12 := aM gb12; have GG12 := aM HG12; clear gb12 gl12 HG12; (first | simp only [add_plain] at hx289_0 | skip); (first | simp only [add_plain] at hx289_1 | skip); (first | simp only [add_plain] at hx289_2 | skip); (first | simp only [add_plain] at hx289_3 | skip); (first | simp only [add_plain] at hx289_4 | skip); obtain ⟨ce12, hcl12, hM12, hcc12, hfr12⟩ := Kd.R_elem HO281.out z32 (t288 : Int) p12 q12; obtain rfl := k32_openM hM12; have hx12_0 : w25.cell? ⟨go12, (t288 : Int).toNat * 5, none⟩ = some (.int .i64 ((rd_T32 t279 t288).f0)) := hcc12 0 _ rfl; have hx12_1 : w25.cell? ⟨go12, (t288 : Int).toNat * 5 + 1, none⟩ = some (.int .i64 ((rd_T32 t279 t288).f1)) := hcc12 1 _ rfl; have hx12_2 : w25.cell? ⟨go12, (t288 : Int).toNat * 5 + 2, none⟩ = some (.int .i64 ((rd_T32 t279 t288).f2)) := hcc12 2 _ rfl; have hx12_3 : w25.cell? ⟨go12, (t288 : Int).toNat * 5 + 3, none⟩ = some (.bool ((rd_T32 t279 t288).f3)) := hcc12 3 _ rfl; have hx12_4 : w25.cell? ⟨go12, (t288 : Int).toNat * 5 + 4, none⟩ = some (.bool ((rd_T32 t279 t288).f4)) := hcc12 4 _ rfl; have hf12_0 : w25.frozen? ⟨go12, (t288 : Int).toNat * 5, none⟩ = false := hfr12 0; have hf12_1 : w25.frozen? ⟨go12, (t288 : Int).toNat * 5 + 1, none⟩ = false := hfr12 1; have hf12_2 : w25.frozen? ⟨go12, (t288 : Int).toNat * 5 + 2, none⟩ = false := hfr12 2; have hf12_3 : w25.frozen? ⟨go12, (t288 : Int).toNat * 5 + 3, none⟩ = false := hfr12 3; have hf12_4 : w25.frozen? ⟨go12, (t288 : Int).toNat * 5 + 4, none⟩ = false := hfr12 4; clear hcl12 hcc12 hfr12 hM12; replace p12 := eq_true p12; replace q12 := eq_true q12; have HX26 := aM (show Kd.R k32 32 w25 w.heap.size (fun _ => True) (.slice (some ⟨go12, 0, none⟩) t279.length co18) t279 from (R_mv HO281.out)); obtain ⟨ce26, hcl26, hM26, hcc26, hfr26⟩ := Kd.R_elem HX26.out z32 (t288 : Int) (of_decide_eq_true (by first | (with_reducible assumption) | assumption)) (by have h_ : (t288 : Int) < ((t279.length : Int) : Int) := of_decide_eq_true (by first | (with_reducible assumption) | assumption); first | exact h_ | (have e_ := (Kd.R_reads' HO281.out).1; omega) | simpa using h_); obtain rfl := k32_openM hM26; have HP26 := Kd.R_seg HX26.out (t288 : Int) (of_decide_eq_true (by first | (with_reducible assumption) | assumption)) (by have h_ : (t288 : Int) < ((t279.length : Int) : Int) := of_decide_eq_true (by first | (with_reducible assumption) | assumption); first | exact h_ | (have e_ := (Kd.R_reads' HO281.out).1; omega) | simpa using h_) (seg := [.int .i64 a2]) (j := 0) hcl26 hcc26 (show 1 ≤ 5 from by decide) (x' := (⟨a2, (rd_T32 t279 t288).f1, (rd_T32 t279 t288).f2, (rd_T32 t279 t288).f3, (rd_T32 t279 t288).f4⟩ : S32)) (k32_mkM _ _ _ (⟨a2, (rd_T32 t279 t288).f1, (rd_T32 t279 t288).f2, (rd_T32 t279 t288).f3, (rd_T32 t279 t288).f4⟩ : S32) ) (fun _ hk => hk); have hx26_0 := hcc26 0 _ rfl; (try simp only [show (k32).sz = 5 from rfl, Nat.mul_one, Nat.add_zero] at hx26_0); have hf26_0 := hfr26 0; (try simp only [show (k32).sz = 5 from rfl, Nat.mul_one, Nat.add_zero] at hf26_0); clear hcl26 hcc26 hfr26 hM26) | ((with_reducible refine gate_store (t := 3) (p := 31) rfl ?_); refine store_event (t := 3) (p := 31) (v := ?vo_w27) (w1 := (w25.setCell ⟨go12, (t288 : Int).toNat * 5, none⟩ (.int .i64 a2))) ?hg ?ho ?hn ?hr ?_; (case ho => rfl); (case hg => rfl); (case hn => rfl); (case hr => first | (go_simp; done) | (go_simp; rfl)); intro w27 hw; have hg : w25.grownBy w27 (some go12) := (by rw [hw]; exact HP26.2); have hp_ : Kd.R k32 32 w27 w.heap.size (fun _ => True) (.slice (some ⟨go12, 0, none⟩) t279.length co18) y292 := (by rw [hw, Ny292.out]; exact HP26.1); clear HP26; replace BK273 := aM (blk_grown (blk_mv BK273.out) hg (Kd.R_ne HO281.out BK273.out (by decide))); replace HI276 := aM (IsS61.grown (by repeat (first | (with_reducible first | exact HI276.out | apply IsS61.alloc | apply IsS61.drewN | apply IsS61.drew | apply IsS61.set_1 | refine IsS61.far ?_ NB276_273.out _ | refine IsS61.far ?_ NB276_287.out _) | exact HI276.out)) hg (IsS61.own_ne HI276.out HO281.out (by decide))); replace HO284 := aM (Kd.R_over' (v := (.slice (some ⟨go12, 0, none⟩) t279.length co18)) (R_mv HO284.out) (Kd.R_typed HO281.out) (by decide) hg); replace BK287 := aM (blk_grown (blk_mv BK287.out) hg (Kd.R_ne HO281.out BK287.out (by decide))); replace HO281 := aM (hp_); replace HB := aM ((by rw [hw]; exact below_set (HB.out) GB12.out : Below w.heap.size w w27)); clear hg hw hp_; obtain ⟨hcz28_0, hcz28_1, hcz28_2, hfz28_0, hfz28_1, hfz28_2⟩ := blk3 BK287.out; have hnb29 := NB273_276.out; have hnc29 := NB276_273.out; obtain ⟨hcz30_0, hcz30_1, hcz30_2, hfz30_0, hfz30_1, hfz30_2⟩ := blk3 BK273.out))
  refine bodyPost_ret (results_cell_row rfl _ _ gb273 28 #[.slice (some ⟨go12, 0, none⟩) t279.length co18, .slice Ao22 t282.length co22, .int .i64 t285] (0, 0) _ rfl (by (with_reducible repeat (first | refine kN ?_ _ | refine kD ?_ | refine kA ?_ _)); refine blk_put (cs := #[.slice (some ⟨go12, 0, none⟩) t279.length co18, .slice Ao22 t282.length co22, .int .i64 0]) ?_ 2 _ rfl; (with_reducible repeat (first | refine kN ?_ _ | refine kD ?_ | refine kA ?_ _)); refine blk_put (cs := #[.slice (some ⟨go12, 0, none⟩) t279.length co18, .slice none 0 0, .int .i64 0]) ?_ 1 _ rfl; (with_reducible repeat (first | refine kN ?_ _ | refine kD ?_ | refine kA ?_ _)); refine blk_put (cs := #[.slice none 0 0, .slice none 0 0, .int .i64 0]) ?_ 0 _ rfl; (with_reducible repeat (first | refine kN ?_ _ | refine kD ?_ | refine kA ?_ _)); exact BK273.out) Try.underlying28 rfl (by kernel_rfl)) rfl ?_
  exact ⟨_, _, by first | rfl | (simp [errW_none, errW_some] <;> rfl) | (simp [*, errW_none, errW_some] <;> rfl), by (with_reducible repeat (first | apply Kd.R_alloc | apply Kd.R_drewN | apply Kd.R_drew)); exact Kd.R_mono (Kd.R_far (p := ⟨gb273, 2, none⟩) (Kd.R_far (p := ⟨gb273, 1, none⟩) (Kd.R_far (p := ⟨gb273, 0, none⟩) (Kd.R_types HO281.out BK273.out (by decide)) (fun _ hk => hk.2) (.slice (some ⟨go12, 0, none⟩) t279.length co18)) (fun _ hk => hk.2) (.slice Ao22 t282.length co22)) (fun _ hk => hk.2) (.int .i64 t285)) (fun _ hk => trivial), by (with_reducible repeat (first | apply Kd.R_alloc | apply Kd.R_drewN | apply Kd.R_drew)); exact Kd.R_mono (Kd.R_far (p := ⟨gb273, 2, none⟩) (Kd.R_far (p := ⟨gb273, 1, none⟩) (Kd.R_far (p := ⟨gb273, 0, none⟩) (Kd.R_types HO284.out BK273.out (by decide)) (fun _ hk => hk.2) (.slice (some ⟨go12, 0, none⟩) t279.length co18)) (fun _ hk => hk.2) (.slice Ao22 t282.length co22)) (fun _ hk => hk.2) (.int .i64 t285)) (fun _ hk => trivial), by repeat (first | (with_reducible first | exact HB.out | apply bA | apply bN | apply bD | refine below_set ?_ (IsS61.ge HI276.out) | refine below_set ?_ GE273.out | refine below_set ?_ GE287.out) | exact HB.out)⟩
 rw [if_neg c11] at H
 have c11b0 : (t290 == 1) = false := beq_eq_false_iff_ne.mpr c11
 have c11b1 : (t290 != 1) = true := bne_iff_ne.mpr c11
 by_cases c31 : t290 = 2
 ·
  rw [if_pos c31] at H
  have c31b0 : (t290 == 2) = true := beq_iff_eq.mpr c31
  have c31b1 : (t290 != 2) = false := bne_eq_false_iff_eq.mpr c31
  clear c31
  obtain ⟨y293, hy293⟩ : ∃ y_ : List (S32), y_ = (t279.set (t288 : Int).toNat (⟨(rd_T32 t279 t288).f0, a2, (rd_T32 t279 t288).f2, (rd_T32 t279 t288).f3, (rd_T32 t279 t288).f4⟩ : S32)) := ⟨_, rfl⟩
  replace H : (some (y293, t282, t285)) = some (r1, r2, r3) := by first | (rw [hy293]; with_reducible exact H) | (have H2_ := (Option.bind_some _ _).symm.trans H; rw [hy293]; with_reducible exact H2_) | (have H2_ := (Option.bind_some _ _).symm.trans H; with_reducible exact H2_) | with_reducible exact H | (rw [hy293]; exact H) | exact H
  have Ny293 := aM hy293
  clear hy293
  simp only [Option.some.injEq, Prod.mk.injEq] at H
  obtain ⟨rfl, rfl, rfl⟩ := H
  go_enter Try.func28, Try.ntmps28
  try go_wp2_with (first | ((with_reducible refine gate_dst (N := 6) rfl ?_); refine box_event ?hg (N := 6) ?hd (cs := #[.slice none 0 0, .slice none 0 0, .int .i64 0]) (t := 28) ?hr ?_; (case hd => rfl); (case hg => rfl); (case hr => first | (go_simp; done) | (go_simp; rfl)); intro gb273 hg w33 hbox hb; have BK273 := aM (hbox); have GW273 := aM ((by rw [hg]; exact (below_size (below_mv HB.out)) : w.heap.size ≤ gb273)); have GE273 := aM ((by rw [hg]; exact (below_size (below_mv HB.out)) : w.heap.size ≤ gb273)); replace HB := aM (below_step (below_mv HB.out) hb); clear hb hbox hg) | ((with_reducible refine gate_callee (f := 9) rfl ?_); refine goesL_ (some 11) rfl rfl Try.func9 (by kernel_rfl) rfl #[.slice A0 l0.length c0] rfl (by first | rfl | (simp only [List.map_toArray, List.map_cons, List.map_nil, List.length_drop, List.length_take]; rfl)) ?_; (with_reducible refine (minecontroldraw_New.calls _ _ l0 t274 t275 w _ ?side1 ?side2 ?side3 A4.out).mono ?_); (case side1 => repeat (first | (with_reducible first | exact HB.out | apply bA | apply bN | apply bD | refine below_set ?_ GE273.out) | exact HB.out)); (case side2 => exact HR0.out); (case side3 => exact HC0.out); rintro e w34 ⟨g276, rfl, hi, hb, hb2, hge⟩; refine ⟨_, rfl, ?_⟩; replace HB := aM (hb); have HI276 := aM (hi); have NB276_273 := aM (IsS61.ne_blk hi (blk_below (blk_mv BK273.out) hb2) (by decide)); have NB273_276 := aM (Ne.symm (IsS61.ne_blk hi (blk_below (blk_mv BK273.out) hb2) (by decide))); replace BK273 := aM (blk_below (blk_mv BK273.out) hb2); (try clear hb); (try clear hb2); (try clear hge); (try clear hk); (try clear hi)) | ((with_reducible refine gate_callee (f := 11) rfl ?_); refine goesL_ (some 14) rfl rfl Try.func11 (by kernel_rfl) rfl #[.pointer (some ⟨g276, 0, none⟩), .int .i64 4] rfl (by first | rfl | (simp only [List.map_toArray, List.map_cons, List.map_nil, List.length_drop, List.length_take]; rfl)) ?_; (with_reducible refine (minecontroldraw_Codes_Next.calls k g276 t274 t275 4 t277 t278 w _ ?side1 ?side2 A5.out).mono ?_); (case side1 => repeat (first | (with_reducible first | exact HI276.out | apply IsS61.alloc | apply IsS61.drewN | apply IsS61.drew | apply IsS61.set_1 | refine IsS61.far ?_ NB276_273.out _) | exact HI276.out)); (case side2 => repeat (first | (with_reducible first | exact HB.out | apply bA | apply bN | apply bD | refine below_set ?_ (IsS61.ge HI276.out) | refine below_set ?_ GE273.out) | exact HB.out)); rintro e w35 ⟨rfl, hi, hb, hk⟩; refine ⟨_, rfl, ?_⟩; replace BK273 := aM (KeepBut.blk hk (g' := gb273) (o := .cells #[.slice none 0 0, .slice none 0 0, .int .i64 0] 28 (0, 0)) (by (with_reducible repeat (first | refine kN ?_ _ | refine kD ?_ | refine kA ?_ _)); exact BK273.out) NB273_276.out (by simp)); replace HB := aM (hb); replace HI276 := aM (hi); (try clear hb); (try clear hb2); (try clear hge); (try clear hk); (try clear hi)) | ((with_reducible refine gate_callee (f := 10) rfl ?_); refine goesL_ (some 15) rfl rfl Try.func10 (by kernel_rfl) rfl #[.pointer (some ⟨g276, 0, none⟩), .int .i64 t277] rfl (by first | rfl | (simp only [List.map_toArray, List.map_cons, List.map_nil, List.length_drop, List.length_take]; rfl)) ?_; (with_reducible refine (minecontroldraw_Codes_Feeder.calls k g276 t274 t278 t277 t279 t282 t285 t286 w _ ?side1 ?side2 A6.out).mono ?_); (case side1 => repeat (first | (with_reducible first | exact HI276.out | apply IsS61.alloc | apply IsS61.drewN | apply IsS61.drew | apply IsS61.set_1 | refine IsS61.far ?_ NB276_273.out _) | exact HI276.out)); (case side2 => repeat (first | (with_reducible first | exact HB.out | apply bA | apply bN | apply bD | refine below_set ?_ (IsS61.ge HI276.out) | refine below_set ?_ GE273.out) | exact HB.out)); rintro e w36 ⟨v280, v283, rfl, ho0, ho1, hi, hb, hk⟩; refine ⟨_, rfl, ?_⟩; replace BK273 := aM (KeepBut.blk hk (g' := gb273) (o := .cells #[.slice none 0 0, .slice none 0 0, .int .i64 0] 28 (0, 0)) (by (with_reducible repeat (first | refine kN ?_ _ | refine kD ?_ | refine kA ?_ _)); exact BK273.out) NB273_276.out (by simp)); have HO281 := aM (Kd.R_lower ho0 (below_size (by repeat (first | (with_reducible first | exact HB.out | apply bA | apply bN | apply bD | refine below_set ?_ (IsS61.ge HI276.out) | refine below_set ?_ GE273.out) | exact HB.out)))); have HO284 := aM (Kd.R_lower ho1 (below_size (by repeat (first | (with_reducible first | exact HB.out | apply bA | apply bN | apply bD | refine below_set ?_ (IsS61.ge HI276.out) | refine below_set ?_ GE273.out) | exact HB.out)))); replace HB := aM (hb); replace HI276 := aM (hi); (try clear hb); (try clear hb2); (try clear hge); (try clear hk); (try clear hi); (try clear ho0); (try clear ho1)) | ((with_reducible refine gate_dst (N := 8) rfl ?_); refine box_event ?hg (N := 8) ?hd (cs := #[.slice none 0 0, .slice none 0 0, .int .i64 0]) (t := 28) ?hr ?_; (case hd => rfl); (case hg => rfl); (case hr => first | (go_simp; done) | (go_simp; rfl)); intro gb287 hg w37 hbox hb; replace HO281 := aM (Kd.R_below (R_mv HO281.out) hb); replace HO284 := aM (Kd.R_below (R_mv HO284.out) hb); have BK287 := aM (hbox); have GW287 := aM ((by rw [hg]; exact (below_size (by repeat (first | (with_reducible first | exact HB.out | apply bA | apply bN | apply bD | refine below_set ?_ (IsS61.ge HI276.out) | refine below_set ?_ GE273.out) | exact HB.out))) : w.heap.size ≤ gb287)); have GE287 := aM ((by rw [hg]; exact (below_size (by repeat (first | (with_reducible first | exact HB.out | apply bA | apply bN | apply bD | refine below_set ?_ (IsS61.ge HI276.out) | refine below_set ?_ GE273.out) | exact HB.out))) : w.heap.size ≤ gb287)); replace HB := aM (below_step (by repeat (first | (with_reducible first | exact HB.out | apply bA | apply bN | apply bD | refine below_set ?_ (IsS61.ge HI276.out) | refine below_set ?_ GE273.out) | exact HB.out)) hb); have NB273_287 := aM ((by rw [hg]; exact Nat.ne_of_lt (blk_lt (blk_mv BK273.out)) : gb273 ≠ gb287)); have NB287_273 := aM ((by rw [hg]; exact Nat.ne_of_gt (blk_lt (blk_mv BK273.out)) : gb287 ≠ gb273)); replace BK273 := aM (blk_below (blk_mv BK273.out) hb); have NB276_287 := aM ((by rw [hg]; exact Nat.ne_of_lt (IsS61.lt (show IsS61 w _ g276 t274 t286 from by repeat (first | (with_reducible first | exact HI276.out | apply IsS61.alloc | apply IsS61.drewN | apply IsS61.drew | apply IsS61.set_1 | refine IsS61.far ?_ NB276_273.out _) | exact HI276.out))) : g276 ≠ gb287)); have NB287_276 := aM ((by rw [hg]; exact Nat.ne_of_gt (IsS61.lt (show IsS61 w _ g276 t274 t286 from by repeat (first | (with_reducible first | exact HI276.out | apply IsS61.alloc | apply IsS61.drewN | apply IsS61.drew | apply IsS61.set_1 | refine IsS61.far ?_ NB276_273.out _) | exact HI276.out))) : gb287 ≠ g276)); replace HI276 := aM (IsS61.below (by repeat (first | (with_reducible first | exact HI276.out | apply IsS61.alloc | apply IsS61.drewN | apply IsS61.drew | apply IsS61.set_1 | refine IsS61.far ?_ NB276_273.out _) | exact HI276.out)) hb); clear hb hbox hg; obtain ⟨Ao38, co38, eo38⟩ := Kd.R_slice HO281.out; subst eo38; have hnb39 := NB287_273.out; have hnc39 := NB273_287.out; have hnb40 := NB287_276.out; have hnc40 := NB276_287.out; obtain ⟨hcz41_0, hcz41_1, hcz41_2, hfz41_0, hfz41_1, hfz41_2⟩ := blk3 BK287.out; obtain ⟨Ao42, co42, eo42⟩ := Kd.R_slice HO284.out; subst eo42))
  have n0_ : Aside0 (Kd.R k32 32 (((w37.setCell ⟨gb287, 0, none⟩ (.slice Ao38 t279.length co38)).setCell ⟨gb287, 1, none⟩ (.slice Ao42 t282.length co42)).setCell ⟨gb287, 2, none⟩ (.int .i64 t285)) w.heap.size (fun _ => True) (.slice Ao38 t279.length co38) t279) := ⟨by (with_reducible repeat (first | apply Kd.R_alloc | apply Kd.R_drewN | apply Kd.R_drew)); exact Kd.R_mono (Kd.R_far (p := ⟨gb287, 2, none⟩) (Kd.R_far (p := ⟨gb287, 1, none⟩) (Kd.R_far (p := ⟨gb287, 0, none⟩) (Kd.R_types HO281.out BK287.out (by decide)) (fun _ hk => hk.2) (.slice Ao38 t279.length co38)) (fun _ hk => hk.2) (.slice Ao42 t282.length co42)) (fun _ hk => hk.2) (.int .i64 t285)) (fun _ hk => trivial)⟩
  have n1_ : Aside0 (Kd.R (Kd.int .i64) 3 (((w37.setCell ⟨gb287, 0, none⟩ (.slice Ao38 t279.length co38)).setCell ⟨gb287, 1, none⟩ (.slice Ao42 t282.length co42)).setCell ⟨gb287, 2, none⟩ (.int .i64 t285)) w.heap.size (fun _ => True) (.slice Ao42 t282.length co42) t282) := ⟨by (with_reducible repeat (first | apply Kd.R_alloc | apply Kd.R_drewN | apply Kd.R_drew)); exact Kd.R_mono (Kd.R_far (p := ⟨gb287, 2, none⟩) (Kd.R_far (p := ⟨gb287, 1, none⟩) (Kd.R_far (p := ⟨gb287, 0, none⟩) (Kd.R_types HO284.out BK287.out (by decide)) (fun _ hk => hk.2) (.slice Ao38 t279.length co38)) (fun _ hk => hk.2) (.slice Ao42 t282.length co42)) (fun _ hk => hk.2) (.int .i64 t285)) (fun _ hk => trivial)⟩
  have n2_ : Aside0 ((((w37.setCell ⟨gb287, 0, none⟩ (.slice Ao38 t279.length co38)).setCell ⟨gb287, 1, none⟩ (.slice Ao42 t282.length co42)).setCell ⟨gb287, 2, none⟩ (.int .i64 t285)).heap[gb273]? = some (.cells #[.slice none 0 0, .slice none 0 0, .int .i64 0] 28 (0, 0))) := ⟨by (with_reducible repeat (first | refine kN ?_ _ | refine kD ?_ | refine kA ?_ _)); refine blk_far ?_ NB273_287.out _; (with_reducible repeat (first | refine kN ?_ _ | refine kD ?_ | refine kA ?_ _)); refine blk_far ?_ NB273_287.out _; (with_reducible repeat (first | refine kN ?_ _ | refine kD ?_ | refine kA ?_ _)); refine blk_far ?_ NB273_287.out _; (with_reducible repeat (first | refine kN ?_ _ | refine kD ?_ | refine kA ?_ _)); exact BK273.out⟩
  have n3_ : Aside0 ((((w37.setCell ⟨gb287, 0, none⟩ (.slice Ao38 t279.length co38)).setCell ⟨gb287, 1, none⟩ (.slice Ao42 t282.length co42)).setCell ⟨gb287, 2, none⟩ (.int .i64 t285)).heap[gb287]? = some (.cells #[.slice Ao38 t279.length co38, .slice Ao42 t282.length co42, .int .i64 t285] 28 (0, 0))) := ⟨by (with_reducible repeat (first | refine kN ?_ _ | refine kD ?_ | refine kA ?_ _)); refine blk_put (cs := #[.slice Ao38 t279.length co38, .slice Ao42 t282.length co42, .int .i64 0]) ?_ 2 _ rfl; (with_reducible repeat (first | refine kN ?_ _ | refine kD ?_ | refine kA ?_ _)); refine blk_put (cs := #[.slice Ao38 t279.length co38, .slice none 0 0, .int .i64 0]) ?_ 1 _ rfl; (with_reducible repeat (first | refine kN ?_ _ | refine kD ?_ | refine kA ?_ _)); refine blk_put (cs := #[.slice none 0 0, .slice none 0 0, .int .i64 0]) ?_ 0 _ rfl; (with_reducible repeat (first | refine kN ?_ _ | refine kD ?_ | refine kA ?_ _)); exact BK287.out⟩
  have n4_ : Aside0 (IsS61 w (((w37.setCell ⟨gb287, 0, none⟩ (.slice Ao38 t279.length co38)).setCell ⟨gb287, 1, none⟩ (.slice Ao42 t282.length co42)).setCell ⟨gb287, 2, none⟩ (.int .i64 t285)) g276 t274 t286) := ⟨by repeat (first | (with_reducible first | exact HI276.out | apply IsS61.alloc | apply IsS61.drewN | apply IsS61.drew | apply IsS61.set_1 | refine IsS61.far ?_ NB276_273.out _ | refine IsS61.far ?_ NB276_287.out _) | exact HI276.out)⟩
  have n5_ : Aside0 (Below w.heap.size w (((w37.setCell ⟨gb287, 0, none⟩ (.slice Ao38 t279.length co38)).setCell ⟨gb287, 1, none⟩ (.slice Ao42 t282.length co42)).setCell ⟨gb287, 2, none⟩ (.int .i64 t285))) := ⟨by repeat (first | (with_reducible first | exact HB.out | apply bA | apply bN | apply bD | refine below_set ?_ (IsS61.ge HI276.out) | refine below_set ?_ GE273.out | refine below_set ?_ GE287.out) | exact HB.out)⟩
  (try clear HO281)
  (try clear HO284)
  (try clear BK273)
  (try clear BK287)
  (try clear HI276)
  (try clear HB)
  generalize (((w37.setCell ⟨gb287, 0, none⟩ (.slice Ao38 t279.length co38)).setCell ⟨gb287, 1, none⟩ (.slice Ao42 t282.length co42)).setCell ⟨gb287, 2, none⟩ (.int .i64 t285)) = w43 at n0_ n1_ n2_ n3_ n4_ n5_ ⊢
  have HO281 := n0_
  have HO284 := n1_
  have BK273 := n2_
  have BK287 := n3_
  have HI276 := n4_
  have HB := n5_
  clear n0_ n1_ n2_ n3_ n4_ n5_
  replace HO281 := aM (Kd.R_drew HO281.out)
  replace HO284 := aM (Kd.R_drew HO284.out)
  replace BK273 := aM (blk_drew BK273.out)
  replace BK287 := aM (blk_drew BK287.out)
  replace HI276 := aM (IsS61.drew HI276.out)
  replace HB := aM (below_drew1 HB.out)
  have p289 : 0 ≤ (t288 : Int) := of_decide_eq_true (by first | (with_reducible assumption) | assumption)
  have q289 : t288 < (t279.length : Int) := of_decide_eq_true (by first | (with_reducible assumption) | assumption)
  obtain ⟨ad289, e289, hx289_0, hx289_1, hx289_2, hx289_3, hx289_4⟩ := at_T32 (Kd.R_reads' HO281.out).2.2 t288 p289 q289
  cases e289
  replace p289 := eq_true p289
  replace q289 := eq_true q289
  refine start_ (n := 9) (S := fun w' => w'.cell? ⟨gb287, 0, none⟩ = some (.slice (some ad289) t279.length co38) ∧ w'.cell? ⟨gb287, 1, none⟩ = some (.slice Ao42 t282.length co42) ∧ w'.cell? ⟨gb287, 2, none⟩ = some (.int .i64 t285) ∧ w'.cell? (ad289.add ((t288).toNat * 5)) = some (.int .i64 ((rd_T32 t279 t288).f0)) ∧ w'.cell? ⟨(ad289.add ((t288).toNat * 5)).block, (ad289.add ((t288).toNat * 5)).off + 1, none⟩ = some (.int .i64 ((rd_T32 t279 t288).f1)) ∧ w'.cell? ⟨(ad289.add ((t288).toNat * 5)).block, (ad289.add ((t288).toNat * 5)).off + 2, none⟩ = some (.int .i64 ((rd_T32 t279 t288).f2)) ∧ w'.cell? ⟨(ad289.add ((t288).toNat * 5)).block, (ad289.add ((t288).toNat * 5)).off + 3, none⟩ = some (.bool ((rd_T32 t279 t288).f3)) ∧ w'.cell? ⟨(ad289.add ((t288).toNat * 5)).block, (ad289.add ((t288).toNat * 5)).off + 4, none⟩ = some (.bool ((rd_T32 t279 t288).f4))) (ds := []) #[false, false, false, false, false, false, false, false, false] (by kernel_rfl) rfl rfl ⟨(blk_cell BK287.out 0).trans rfl, (blk_cell BK287.out 1).trans rfl, (blk_cell BK287.out 2).trans rfl, hx289_0, hx289_1, hx289_2, hx289_3, hx289_4⟩ (fun hHeld => ?_); refine with_tabW minecontrollaw18_made.tab3 minecontrollaw18_made.bits3 (fun HT_ HW_ => ?_)
  generalize w43.drew = w44 at HO281 HO284 BK273 BK287 HI276 HB hx289_0 hx289_1 hx289_2 hx289_3 hx289_4 hHeld ⊢
  refine pure_ (i := 0) (N := some 16) (v := ?_) (a' := ?_) #[true, false, false, false, false, false, false, false, false] rfl rfl (any_of HT_.out (by kernel_rfl)) (fun _ _ _ h => h) (Or.inl ⟨by rfl, ?_⟩) ?_ ?_
  rotate_left
  ·
   intro w'
   go_simp
   with_reducible rfl
  rotate_left
  ·
   simp only [Act.put, sT, sZ, sS, i64_w, i32_w]
   rfl
  refine pure_ (i := 2) (N := some 18) (v := ?_) (a' := ?_) #[true, false, true, false, false, false, false, false, false] rfl rfl (any_of HT_.out (by kernel_rfl)) (fun _ _ _ h => h) (Or.inl ⟨by rfl, ?_⟩) ?_ ?_
  rotate_left
  ·
   intro w'
   go_simp
   with_reducible rfl
  rotate_left
  ·
   simp only [Act.put, sT, sZ, sS, i64_w, i32_w]
   rfl
  refine pure_ (i := 3) (N := some 19) (v := ?_) (a' := ?_) #[true, false, true, true, false, false, false, false, false] rfl rfl (any_of HT_.out (by kernel_rfl)) (fun _ _ _ h => h) (Or.inl ⟨by rfl, ?_⟩) ?_ ?_
  rotate_left
  ·
   intro w'
   go_simp
   with_reducible rfl
  rotate_left
  ·
   simp only [Act.put, sT, sZ, sS, i64_w, i32_w]
   rfl
  refine take_ (i := 1) (N := some 17) (v := ?_) (a' := ?_) #[true, true, true, true, false, false, false, false, false] rfl rfl (take_ofW HT_.out HW_.out (by kernel_rfl)) (fun _ _ _ h => h) (Or.inl ⟨by rfl, ?_⟩) hHeld ?_ ?_
  rotate_left
  ·
   rintro w' ⟨s0, s1, s2, s3, s4, s5, s6, s7⟩
   go_simp
   with_reducible rfl
  rotate_left
  ·
   simp only [Act.put, sT, sZ, sS, i64_w, i32_w]
   rfl
  refine take_ (i := 4) (N := some 20) (v := ?_) (a' := ?_) #[true, true, true, true, true, false, false, false, false] rfl rfl (take_ofW HT_.out HW_.out (by kernel_rfl)) (fun _ _ _ h => h) (Or.inl ⟨by rfl, ?_⟩) hHeld ?_ ?_
  rotate_left
  ·
   rintro w' ⟨s0, s1, s2, s3, s4, s5, s6, s7⟩
   go_simp
   with_reducible rfl
  rotate_left
  ·
   simp only [Act.put, sT, sZ, sS, i64_w, i32_w]
   rfl
  refine pure_ (i := 5) (N := some 21) (v := ?_) (a' := ?_) #[true, true, true, true, true, true, false, false, false] rfl rfl (any_of HT_.out (by kernel_rfl)) (fun _ _ _ h => h) (Or.inl ⟨by rfl, ?_⟩) ?_ ?_
  rotate_left
  ·
   intro w'
   go_simp
   with_reducible rfl
  rotate_left
  ·
   simp only [Act.put, sT, sZ, sS, i64_w, i32_w]
   rfl
  refine one_ (i := 6) (N := some 22) #[true, true, true, true, true, true, true, false, false] rfl rfl (one_of HT_.out (by kernel_rfl)) (by decide) (fun K hK => ?_)
  refine goes_ Try.func12 (by kernel_rfl) rfl #[.int .i64 a1, .int .i64 (t279.length : Int)] (by rfl) rfl rfl (by first | rfl | (simp only [List.map_toArray, List.map_cons, List.map_nil, List.length_drop, List.length_take]; rfl)) ?_
  with_reducible refine (minecontroldraw_Mod.calls a1 (t279.length : Int) t288 _ A7.out).mono ?_
  rintro e w' ⟨rfl, ⟨nd, rfl⟩⟩
  refine ⟨_, rfl, ?_⟩
  refine hK.out _ _ ⟨(blk_cell BK287.out 0).trans rfl, (blk_cell BK287.out 1).trans rfl, (blk_cell BK287.out 2).trans rfl, hHeld.2.2.2.1, hHeld.2.2.2.2.1, hHeld.2.2.2.2.2.1, hHeld.2.2.2.2.2.2.1, hHeld.2.2.2.2.2.2.2⟩ (fun hHeld => ?_)
  clear hK K
  refine norm_ (a' := ?_) ?_ ?_
  rotate_left
  ·
   show Act.put _ (some 22) _ = _
   simp only [Act.put, sT, sZ, sS, i64_w, i32_w]
   rfl
  refine pure_ (i := 7) (N := some 23) (v := ?_) (a' := ?_) #[true, true, true, true, true, true, true, true, false] rfl rfl (any_of HT_.out (by kernel_rfl)) (fun _ _ _ h => h) (Or.inl ⟨by rfl, ?_⟩) ?_ ?_
  rotate_left
  ·
   intro w'
   go_simp
   with_reducible rfl
  rotate_left
  ·
   simp only [Act.put, sT, sZ, sS, i64_w, i32_w]
   rfl
  refine pure_ (i := 8) (N := some 9) (v := ?_) (a' := ?_) #[true, true, true, true, true, true, true, true, true] rfl rfl (any_of HT_.out (by kernel_rfl)) (fun _ _ _ h => h) (Or.inl ⟨by rfl, ?_⟩) ?_ ?_
  rotate_left
  ·
   intro w'
   go_simp
   with_reducible rfl
  rotate_left
  ·
   simp only [Act.put, sT, sZ, sS, i64_w, i32_w]
   rfl
  refine done_ (done_of HT_.out (by kernel_rfl)) ?_
  try go_wp2_with (first | ((with_reducible refine gate_callee (f := 11) rfl ?_); refine goesL_ (some 25) rfl rfl Try.func11 (by kernel_rfl) rfl #[.pointer (some ⟨g276, 0, none⟩), .int .i64 12] rfl (by first | rfl | (simp only [List.map_toArray, List.map_cons, List.map_nil, List.length_drop, List.length_take]; rfl)) ?_; (with_reducible refine (minecontroldraw_Codes_Next.calls k g276 t274 t286 12 t290 t291 w _ ?side1 ?side2 A10.out).mono ?_); (case side1 => repeat (first | (with_reducible first | exact HI276.out | apply IsS61.alloc | apply IsS61.drewN | apply IsS61.drew | apply IsS61.set_1 | refine IsS61.far ?_ NB276_273.out _ | refine IsS61.far ?_ NB276_287.out _) | exact HI276.out)); (case side2 => repeat (first | (with_reducible first | exact HB.out | apply bA | apply bN | apply bD | refine below_set ?_ (IsS61.ge HI276.out) | refine below_set ?_ GE273.out | refine below_set ?_ GE287.out) | exact HB.out)); rintro e w45 ⟨rfl, hi, hb, hk⟩; refine ⟨_, rfl, ?_⟩; replace BK273 := aM (KeepBut.blk hk (g' := gb273) (o := .cells #[.slice none 0 0, .slice none 0 0, .int .i64 0] 28 (0, 0)) (by (with_reducible repeat (first | refine kN ?_ _ | refine kD ?_ | refine kA ?_ _)); exact BK273.out) NB273_276.out (by simp)); replace HO281 := aM (Kd.R_mono (Kd.R_keep (IsS61.apart (show IsS61 w _ g276 t274 t286 from by repeat (first | (with_reducible first | exact HI276.out | apply IsS61.alloc | apply IsS61.drewN | apply IsS61.drew | apply IsS61.set_1 | refine IsS61.far ?_ NB276_273.out _ | refine IsS61.far ?_ NB276_287.out _) | exact HI276.out)) (R_mv HO281.out) (by decide)) hk (fun _ h => h.2)) (fun _ h => h.1)); replace HO284 := aM (Kd.R_mono (Kd.R_keep (IsS61.apart (show IsS61 w _ g276 t274 t286 from by repeat (first | (with_reducible first | exact HI276.out | apply IsS61.alloc | apply IsS61.drewN | apply IsS61.drew | apply IsS61.set_1 | refine IsS61.far ?_ NB276_273.out _ | refine IsS61.far ?_ NB276_287.out _) | exact HI276.out)) (R_mv HO284.out) (by decide)) hk (fun _ h => h.2)) (fun _ h => h.1)); replace BK287 := aM (KeepBut.blk hk (g' := gb287) (o := .cells #[.slice (some ad289) t279.length co38, .slice Ao42 t282.length co42, .int .i64 t285] 28 (0, 0)) (by (with_reducible repeat (first | refine kN ?_ _ | refine kD ?_ | refine kA ?_ _)); exact BK287.out) NB287_276.out (by simp)); replace HB := aM (hb); replace HI276 := aM (hi); (try clear hb); (try clear hb2); (try clear hge); (try clear hk); (try clear hi); have p32 : 0 ≤ (t288 : Int) := of_decide_eq_true (by first | (with_reducible assumption) | assumption); have q32 : (t288 : Int) < ((t279.length : Int) : Int) := of_decide_eq_true (by first | (with_reducible assumption) | assumption); obtain ⟨go32, co32, eo32, gb32, gl32, cl32, HG32⟩ := Kd.R_form HO281.out (by omega); (first | cases eo32 | (injection eo32 with ea_ en_ ec_; (first | subst ea_ | (injection ea_ with ea_; subst ea_)); subst ec_; clear en_)); have GB32 := aM gb32; have GG32 := aM HG32; clear gb32 gl32 HG32; (first | simp only [add_plain] at hx289_0 | skip); (first | simp only [add_plain] at hx289_1 | skip); (first | simp only [add_plain] at hx289_2 | skip); (first | simp only [add_plain] at hx289_3 | skip); (first | simp only [add_plain] at hx289_4 | skip); obtain ⟨ce32, hcl32, hM32, hcc32, hfr32⟩ := Kd.R_elem HO281.out z32 (t288 : Int) p32 q32; obtain rfl := k32_openM hM32; have hx32_0 : w45.cell? ⟨go32, (t288 : Int).toNat * 5, none⟩ = some (.int .i64 ((rd_T32 t279 t288).f0)) := hcc32 0 _ rfl; have hx32_1 : w45.cell? ⟨go32, (t288 : Int).toNat * 5 + 1, none⟩ = some (.int .i64 ((rd_T32 t279 t288).f1)) := hcc32 1 _ rfl; have hx32_2 : w45.cell? ⟨go32, (t288 : Int).toNat * 5 + 2, none⟩ = some (.int .i64 ((rd_T32 t279 t288).f2)) := hcc32 2 _ rfl; have hx32_3 : w45.cell? ⟨go32, (t288 : Int).toNat * 5 + 3, none⟩ = some (.bool ((rd_T32 t279 t288).f3)) := hcc32 3 _ rfl; have hx32_4 : w45.cell? ⟨go32, (t288 : Int).toNat * 5 + 4, none⟩ = some (.bool ((rd_T32 t279 t288).f4)) := hcc32 4 _ rfl; have hf32_0 : w45.frozen? ⟨go32, (t288 : Int).toNat * 5, none⟩ = false := hfr32 0; have hf32_1 : w45.frozen? ⟨go32, (t288 : Int).toNat * 5 + 1, none⟩ = false := hfr32 1; have hf32_2 : w45.frozen? ⟨go32, (t288 : Int).toNat * 5 + 2, none⟩ = false := hfr32 2; have hf32_3 : w45.frozen? ⟨go32, (t288 : Int).toNat * 5 + 3, none⟩ = false := hfr32 3; have hf32_4 : w45.frozen? ⟨go32, (t288 : Int).toNat * 5 + 4, none⟩ = false := hfr32 4; clear hcl32 hcc32 hfr32 hM32; replace p32 := eq_true p32; replace q32 := eq_true q32; have HX46 := aM (show Kd.R k32 32 w45 w.heap.size (fun _ => True) (.slice (some ⟨go32, 0, none⟩) t279.length co38) t279 from (R_mv HO281.out)); obtain ⟨ce46, hcl46, hM46, hcc46, hfr46⟩ := Kd.R_elem HX46.out z32 (t288 : Int) (of_decide_eq_true (by first | (with_reducible assumption) | assumption)) (by have h_ : (t288 : Int) < ((t279.length : Int) : Int) := of_decide_eq_true (by first | (with_reducible assumption) | assumption); first | exact h_ | (have e_ := (Kd.R_reads' HO281.out).1; omega) | simpa using h_); obtain rfl := k32_openM hM46; have HP46 := Kd.R_seg HX46.out (t288 : Int) (of_decide_eq_true (by first | (with_reducible assumption) | assumption)) (by have h_ : (t288 : Int) < ((t279.length : Int) : Int) := of_decide_eq_true (by first | (with_reducible assumption) | assumption); first | exact h_ | (have e_ := (Kd.R_reads' HO281.out).1; omega) | simpa using h_) (seg := [.int .i64 a2]) (j := 1) hcl46 hcc46 (show 2 ≤ 5 from by decide) (x' := (⟨(rd_T32 t279 t288).f0, a2, (rd_T32 t279 t288).f2, (rd_T32 t279 t288).f3, (rd_T32 t279 t288).f4⟩ : S32)) (k32_mkM _ _ _ (⟨(rd_T32 t279 t288).f0, a2, (rd_T32 t279 t288).f2, (rd_T32 t279 t288).f3, (rd_T32 t279 t288).f4⟩ : S32) ) (fun _ hk => hk); have hx46_1 := hcc46 1 _ rfl; (try simp only [show (k32).sz = 5 from rfl, Nat.mul_one, Nat.add_zero] at hx46_1); have hf46_1 := hfr46 1; (try simp only [show (k32).sz = 5 from rfl, Nat.mul_one, Nat.add_zero] at hf46_1); clear hcl46 hcc46 hfr46 hM46) | ((with_reducible refine gate_store (t := 3) (p := 37) rfl ?_); refine store_event (t := 3) (p := 37) (v := ?vo_w47) (w1 := (w45.setCell ⟨go32, (t288 : Int).toNat * 5 + 1, none⟩ (.int .i64 a2))) ?hg ?ho ?hn ?hr ?_; (case ho => rfl); (case hg => rfl); (case hn => rfl); (case hr => first | (go_simp; done) | (go_simp; rfl)); intro w47 hw; have hg : w45.grownBy w47 (some go32) := (by rw [hw]; exact HP46.2); have hp_ : Kd.R k32 32 w47 w.heap.size (fun _ => True) (.slice (some ⟨go32, 0, none⟩) t279.length co38) y293 := (by rw [hw, Ny293.out]; exact HP46.1); clear HP46; replace BK273 := aM (blk_grown (blk_mv BK273.out) hg (Kd.R_ne HO281.out BK273.out (by decide))); replace HI276 := aM (IsS61.grown (by repeat (first | (with_reducible first | exact HI276.out | apply IsS61.alloc | apply IsS61.drewN | apply IsS61.drew | apply IsS61.set_1 | refine IsS61.far ?_ NB276_273.out _ | refine IsS61.far ?_ NB276_287.out _) | exact HI276.out)) hg (IsS61.own_ne HI276.out HO281.out (by decide))); replace HO284 := aM (Kd.R_over' (v := (.slice (some ⟨go32, 0, none⟩) t279.length co38)) (R_mv HO284.out) (Kd.R_typed HO281.out) (by decide) hg); replace BK287 := aM (blk_grown (blk_mv BK287.out) hg (Kd.R_ne HO281.out BK287.out (by decide))); replace HO281 := aM (hp_); replace HB := aM ((by rw [hw]; exact below_set (HB.out) GB32.out : Below w.heap.size w w47)); clear hg hw hp_; obtain ⟨hcz48_0, hcz48_1, hcz48_2, hfz48_0, hfz48_1, hfz48_2⟩ := blk3 BK287.out; have hnb49 := NB273_276.out; have hnc49 := NB276_273.out; obtain ⟨hcz50_0, hcz50_1, hcz50_2, hfz50_0, hfz50_1, hfz50_2⟩ := blk3 BK273.out))
  refine bodyPost_ret (results_cell_row rfl _ _ gb273 28 #[.slice (some ⟨go32, 0, none⟩) t279.length co38, .slice Ao42 t282.length co42, .int .i64 t285] (0, 0) _ rfl (by (with_reducible repeat (first | refine kN ?_ _ | refine kD ?_ | refine kA ?_ _)); refine blk_put (cs := #[.slice (some ⟨go32, 0, none⟩) t279.length co38, .slice Ao42 t282.length co42, .int .i64 0]) ?_ 2 _ rfl; (with_reducible repeat (first | refine kN ?_ _ | refine kD ?_ | refine kA ?_ _)); refine blk_put (cs := #[.slice (some ⟨go32, 0, none⟩) t279.length co38, .slice none 0 0, .int .i64 0]) ?_ 1 _ rfl; (with_reducible repeat (first | refine kN ?_ _ | refine kD ?_ | refine kA ?_ _)); refine blk_put (cs := #[.slice none 0 0, .slice none 0 0, .int .i64 0]) ?_ 0 _ rfl; (with_reducible repeat (first | refine kN ?_ _ | refine kD ?_ | refine kA ?_ _)); exact BK273.out) Try.underlying28 rfl (by kernel_rfl)) rfl ?_
  exact ⟨_, _, by first | rfl | (simp [errW_none, errW_some] <;> rfl) | (simp [*, errW_none, errW_some] <;> rfl), by (with_reducible repeat (first | apply Kd.R_alloc | apply Kd.R_drewN | apply Kd.R_drew)); exact Kd.R_mono (Kd.R_far (p := ⟨gb273, 2, none⟩) (Kd.R_far (p := ⟨gb273, 1, none⟩) (Kd.R_far (p := ⟨gb273, 0, none⟩) (Kd.R_types HO281.out BK273.out (by decide)) (fun _ hk => hk.2) (.slice (some ⟨go32, 0, none⟩) t279.length co38)) (fun _ hk => hk.2) (.slice Ao42 t282.length co42)) (fun _ hk => hk.2) (.int .i64 t285)) (fun _ hk => trivial), by (with_reducible repeat (first | apply Kd.R_alloc | apply Kd.R_drewN | apply Kd.R_drew)); exact Kd.R_mono (Kd.R_far (p := ⟨gb273, 2, none⟩) (Kd.R_far (p := ⟨gb273, 1, none⟩) (Kd.R_far (p := ⟨gb273, 0, none⟩) (Kd.R_types HO284.out BK273.out (by decide)) (fun _ hk => hk.2) (.slice (some ⟨go32, 0, none⟩) t279.length co38)) (fun _ hk => hk.2) (.slice Ao42 t282.length co42)) (fun _ hk => hk.2) (.int .i64 t285)) (fun _ hk => trivial), by repeat (first | (with_reducible first | exact HB.out | apply bA | apply bN | apply bD | refine below_set ?_ (IsS61.ge HI276.out) | refine below_set ?_ GE273.out | refine below_set ?_ GE287.out) | exact HB.out)⟩
 rw [if_neg c31] at H
 have c31b0 : (t290 == 2) = false := beq_eq_false_iff_ne.mpr c31
 have c31b1 : (t290 != 2) = true := bne_iff_ne.mpr c31
 by_cases c51 : t290 = 3
 ·
  rw [if_pos c51] at H
  have c51b0 : (t290 == 3) = true := beq_iff_eq.mpr c51
  have c51b1 : (t290 != 3) = false := bne_eq_false_iff_eq.mpr c51
  clear c51
  obtain ⟨y294, hy294⟩ : ∃ y_ : List (S32), y_ = (t279.set (t288 : Int).toNat (⟨(rd_T32 t279 t288).f0, (rd_T32 t279 t288).f1, a2, (rd_T32 t279 t288).f3, (rd_T32 t279 t288).f4⟩ : S32)) := ⟨_, rfl⟩
  replace H : (some (y294, t282, t285)) = some (r1, r2, r3) := by first | (rw [hy294]; with_reducible exact H) | (have H2_ := (Option.bind_some _ _).symm.trans H; rw [hy294]; with_reducible exact H2_) | (have H2_ := (Option.bind_some _ _).symm.trans H; with_reducible exact H2_) | with_reducible exact H | (rw [hy294]; exact H) | exact H
  have Ny294 := aM hy294
  clear hy294
  simp only [Option.some.injEq, Prod.mk.injEq] at H
  obtain ⟨rfl, rfl, rfl⟩ := H
  go_enter Try.func28, Try.ntmps28
  try go_wp2_with (first | ((with_reducible refine gate_dst (N := 6) rfl ?_); refine box_event ?hg (N := 6) ?hd (cs := #[.slice none 0 0, .slice none 0 0, .int .i64 0]) (t := 28) ?hr ?_; (case hd => rfl); (case hg => rfl); (case hr => first | (go_simp; done) | (go_simp; rfl)); intro gb273 hg w53 hbox hb; have BK273 := aM (hbox); have GW273 := aM ((by rw [hg]; exact (below_size (below_mv HB.out)) : w.heap.size ≤ gb273)); have GE273 := aM ((by rw [hg]; exact (below_size (below_mv HB.out)) : w.heap.size ≤ gb273)); replace HB := aM (below_step (below_mv HB.out) hb); clear hb hbox hg) | ((with_reducible refine gate_callee (f := 9) rfl ?_); refine goesL_ (some 11) rfl rfl Try.func9 (by kernel_rfl) rfl #[.slice A0 l0.length c0] rfl (by first | rfl | (simp only [List.map_toArray, List.map_cons, List.map_nil, List.length_drop, List.length_take]; rfl)) ?_; (with_reducible refine (minecontroldraw_New.calls _ _ l0 t274 t275 w _ ?side1 ?side2 ?side3 A4.out).mono ?_); (case side1 => repeat (first | (with_reducible first | exact HB.out | apply bA | apply bN | apply bD | refine below_set ?_ GE273.out) | exact HB.out)); (case side2 => exact HR0.out); (case side3 => exact HC0.out); rintro e w54 ⟨g276, rfl, hi, hb, hb2, hge⟩; refine ⟨_, rfl, ?_⟩; replace HB := aM (hb); have HI276 := aM (hi); have NB276_273 := aM (IsS61.ne_blk hi (blk_below (blk_mv BK273.out) hb2) (by decide)); have NB273_276 := aM (Ne.symm (IsS61.ne_blk hi (blk_below (blk_mv BK273.out) hb2) (by decide))); replace BK273 := aM (blk_below (blk_mv BK273.out) hb2); (try clear hb); (try clear hb2); (try clear hge); (try clear hk); (try clear hi)) | ((with_reducible refine gate_callee (f := 11) rfl ?_); refine goesL_ (some 14) rfl rfl Try.func11 (by kernel_rfl) rfl #[.pointer (some ⟨g276, 0, none⟩), .int .i64 4] rfl (by first | rfl | (simp only [List.map_toArray, List.map_cons, List.map_nil, List.length_drop, List.length_take]; rfl)) ?_; (with_reducible refine (minecontroldraw_Codes_Next.calls k g276 t274 t275 4 t277 t278 w _ ?side1 ?side2 A5.out).mono ?_); (case side1 => repeat (first | (with_reducible first | exact HI276.out | apply IsS61.alloc | apply IsS61.drewN | apply IsS61.drew | apply IsS61.set_1 | refine IsS61.far ?_ NB276_273.out _) | exact HI276.out)); (case side2 => repeat (first | (with_reducible first | exact HB.out | apply bA | apply bN | apply bD | refine below_set ?_ (IsS61.ge HI276.out) | refine below_set ?_ GE273.out) | exact HB.out)); rintro e w55 ⟨rfl, hi, hb, hk⟩; refine ⟨_, rfl, ?_⟩; replace BK273 := aM (KeepBut.blk hk (g' := gb273) (o := .cells #[.slice none 0 0, .slice none 0 0, .int .i64 0] 28 (0, 0)) (by (with_reducible repeat (first | refine kN ?_ _ | refine kD ?_ | refine kA ?_ _)); exact BK273.out) NB273_276.out (by simp)); replace HB := aM (hb); replace HI276 := aM (hi); (try clear hb); (try clear hb2); (try clear hge); (try clear hk); (try clear hi)) | ((with_reducible refine gate_callee (f := 10) rfl ?_); refine goesL_ (some 15) rfl rfl Try.func10 (by kernel_rfl) rfl #[.pointer (some ⟨g276, 0, none⟩), .int .i64 t277] rfl (by first | rfl | (simp only [List.map_toArray, List.map_cons, List.map_nil, List.length_drop, List.length_take]; rfl)) ?_; (with_reducible refine (minecontroldraw_Codes_Feeder.calls k g276 t274 t278 t277 t279 t282 t285 t286 w _ ?side1 ?side2 A6.out).mono ?_); (case side1 => repeat (first | (with_reducible first | exact HI276.out | apply IsS61.alloc | apply IsS61.drewN | apply IsS61.drew | apply IsS61.set_1 | refine IsS61.far ?_ NB276_273.out _) | exact HI276.out)); (case side2 => repeat (first | (with_reducible first | exact HB.out | apply bA | apply bN | apply bD | refine below_set ?_ (IsS61.ge HI276.out) | refine below_set ?_ GE273.out) | exact HB.out)); rintro e w56 ⟨v280, v283, rfl, ho0, ho1, hi, hb, hk⟩; refine ⟨_, rfl, ?_⟩; replace BK273 := aM (KeepBut.blk hk (g' := gb273) (o := .cells #[.slice none 0 0, .slice none 0 0, .int .i64 0] 28 (0, 0)) (by (with_reducible repeat (first | refine kN ?_ _ | refine kD ?_ | refine kA ?_ _)); exact BK273.out) NB273_276.out (by simp)); have HO281 := aM (Kd.R_lower ho0 (below_size (by repeat (first | (with_reducible first | exact HB.out | apply bA | apply bN | apply bD | refine below_set ?_ (IsS61.ge HI276.out) | refine below_set ?_ GE273.out) | exact HB.out)))); have HO284 := aM (Kd.R_lower ho1 (below_size (by repeat (first | (with_reducible first | exact HB.out | apply bA | apply bN | apply bD | refine below_set ?_ (IsS61.ge HI276.out) | refine below_set ?_ GE273.out) | exact HB.out)))); replace HB := aM (hb); replace HI276 := aM (hi); (try clear hb); (try clear hb2); (try clear hge); (try clear hk); (try clear hi); (try clear ho0); (try clear ho1)) | ((with_reducible refine gate_dst (N := 8) rfl ?_); refine box_event ?hg (N := 8) ?hd (cs := #[.slice none 0 0, .slice none 0 0, .int .i64 0]) (t := 28) ?hr ?_; (case hd => rfl); (case hg => rfl); (case hr => first | (go_simp; done) | (go_simp; rfl)); intro gb287 hg w57 hbox hb; replace HO281 := aM (Kd.R_below (R_mv HO281.out) hb); replace HO284 := aM (Kd.R_below (R_mv HO284.out) hb); have BK287 := aM (hbox); have GW287 := aM ((by rw [hg]; exact (below_size (by repeat (first | (with_reducible first | exact HB.out | apply bA | apply bN | apply bD | refine below_set ?_ (IsS61.ge HI276.out) | refine below_set ?_ GE273.out) | exact HB.out))) : w.heap.size ≤ gb287)); have GE287 := aM ((by rw [hg]; exact (below_size (by repeat (first | (with_reducible first | exact HB.out | apply bA | apply bN | apply bD | refine below_set ?_ (IsS61.ge HI276.out) | refine below_set ?_ GE273.out) | exact HB.out))) : w.heap.size ≤ gb287)); replace HB := aM (below_step (by repeat (first | (with_reducible first | exact HB.out | apply bA | apply bN | apply bD | refine below_set ?_ (IsS61.ge HI276.out) | refine below_set ?_ GE273.out) | exact HB.out)) hb); have NB273_287 := aM ((by rw [hg]; exact Nat.ne_of_lt (blk_lt (blk_mv BK273.out)) : gb273 ≠ gb287)); have NB287_273 := aM ((by rw [hg]; exact Nat.ne_of_gt (blk_lt (blk_mv BK273.out)) : gb287 ≠ gb273)); replace BK273 := aM (blk_below (blk_mv BK273.out) hb); have NB276_287 := aM ((by rw [hg]; exact Nat.ne_of_lt (IsS61.lt (show IsS61 w _ g276 t274 t286 from by repeat (first | (with_reducible first | exact HI276.out | apply IsS61.alloc | apply IsS61.drewN | apply IsS61.drew | apply IsS61.set_1 | refine IsS61.far ?_ NB276_273.out _) | exact HI276.out))) : g276 ≠ gb287)); have NB287_276 := aM ((by rw [hg]; exact Nat.ne_of_gt (IsS61.lt (show IsS61 w _ g276 t274 t286 from by repeat (first | (with_reducible first | exact HI276.out | apply IsS61.alloc | apply IsS61.drewN | apply IsS61.drew | apply IsS61.set_1 | refine IsS61.far ?_ NB276_273.out _) | exact HI276.out))) : gb287 ≠ g276)); replace HI276 := aM (IsS61.below (by repeat (first | (with_reducible first | exact HI276.out | apply IsS61.alloc | apply IsS61.drewN | apply IsS61.drew | apply IsS61.set_1 | refine IsS61.far ?_ NB276_273.out _) | exact HI276.out)) hb); clear hb hbox hg; obtain ⟨Ao58, co58, eo58⟩ := Kd.R_slice HO281.out; subst eo58; have hnb59 := NB287_273.out; have hnc59 := NB273_287.out; have hnb60 := NB287_276.out; have hnc60 := NB276_287.out; obtain ⟨hcz61_0, hcz61_1, hcz61_2, hfz61_0, hfz61_1, hfz61_2⟩ := blk3 BK287.out; obtain ⟨Ao62, co62, eo62⟩ := Kd.R_slice HO284.out; subst eo62))
  have n0_ : Aside0 (Kd.R k32 32 (((w57.setCell ⟨gb287, 0, none⟩ (.slice Ao58 t279.length co58)).setCell ⟨gb287, 1, none⟩ (.slice Ao62 t282.length co62)).setCell ⟨gb287, 2, none⟩ (.int .i64 t285)) w.heap.size (fun _ => True) (.slice Ao58 t279.length co58) t279) := ⟨by (with_reducible repeat (first | apply Kd.R_alloc | apply Kd.R_drewN | apply Kd.R_drew)); exact Kd.R_mono (Kd.R_far (p := ⟨gb287, 2, none⟩) (Kd.R_far (p := ⟨gb287, 1, none⟩) (Kd.R_far (p := ⟨gb287, 0, none⟩) (Kd.R_types HO281.out BK287.out (by decide)) (fun _ hk => hk.2) (.slice Ao58 t279.length co58)) (fun _ hk => hk.2) (.slice Ao62 t282.length co62)) (fun _ hk => hk.2) (.int .i64 t285)) (fun _ hk => trivial)⟩
  have n1_ : Aside0 (Kd.R (Kd.int .i64) 3 (((w57.setCell ⟨gb287, 0, none⟩ (.slice Ao58 t279.length co58)).setCell ⟨gb287, 1, none⟩ (.slice Ao62 t282.length co62)).setCell ⟨gb287, 2, none⟩ (.int .i64 t285)) w.heap.size (fun _ => True) (.slice Ao62 t282.length co62) t282) := ⟨by (with_reducible repeat (first | apply Kd.R_alloc | apply Kd.R_drewN | apply Kd.R_drew)); exact Kd.R_mono (Kd.R_far (p := ⟨gb287, 2, none⟩) (Kd.R_far (p := ⟨gb287, 1, none⟩) (Kd.R_far (p := ⟨gb287, 0, none⟩) (Kd.R_types HO284.out BK287.out (by decide)) (fun _ hk => hk.2) (.slice Ao58 t279.length co58)) (fun _ hk => hk.2) (.slice Ao62 t282.length co62)) (fun _ hk => hk.2) (.int .i64 t285)) (fun _ hk => trivial)⟩
  have n2_ : Aside0 ((((w57.setCell ⟨gb287, 0, none⟩ (.slice Ao58 t279.length co58)).setCell ⟨gb287, 1, none⟩ (.slice Ao62 t282.length co62)).setCell ⟨gb287, 2, none⟩ (.int .i64 t285)).heap[gb273]? = some (.cells #[.slice none 0 0, .slice none 0 0, .int .i64 0] 28 (0, 0))) := ⟨by (with_reducible repeat (first | refine kN ?_ _ | refine kD ?_ | refine kA ?_ _)); refine blk_far ?_ NB273_287.out _; (with_reducible repeat (first | refine kN ?_ _ | refine kD ?_ | refine kA ?_ _)); refine blk_far ?_ NB273_287.out _; (with_reducible repeat (first | refine kN ?_ _ | refine kD ?_ | refine kA ?_ _)); refine blk_far ?_ NB273_287.out _; (with_reducible repeat (first | refine kN ?_ _ | refine kD ?_ | refine kA ?_ _)); exact BK273.out⟩
  have n3_ : Aside0 ((((w57.setCell ⟨gb287, 0, none⟩ (.slice Ao58 t279.length co58)).setCell ⟨gb287, 1, none⟩ (.slice Ao62 t282.length co62)).setCell ⟨gb287, 2, none⟩ (.int .i64 t285)).heap[gb287]? = some (.cells #[.slice Ao58 t279.length co58, .slice Ao62 t282.length co62, .int .i64 t285] 28 (0, 0))) := ⟨by (with_reducible repeat (first | refine kN ?_ _ | refine kD ?_ | refine kA ?_ _)); refine blk_put (cs := #[.slice Ao58 t279.length co58, .slice Ao62 t282.length co62, .int .i64 0]) ?_ 2 _ rfl; (with_reducible repeat (first | refine kN ?_ _ | refine kD ?_ | refine kA ?_ _)); refine blk_put (cs := #[.slice Ao58 t279.length co58, .slice none 0 0, .int .i64 0]) ?_ 1 _ rfl; (with_reducible repeat (first | refine kN ?_ _ | refine kD ?_ | refine kA ?_ _)); refine blk_put (cs := #[.slice none 0 0, .slice none 0 0, .int .i64 0]) ?_ 0 _ rfl; (with_reducible repeat (first | refine kN ?_ _ | refine kD ?_ | refine kA ?_ _)); exact BK287.out⟩
  have n4_ : Aside0 (IsS61 w (((w57.setCell ⟨gb287, 0, none⟩ (.slice Ao58 t279.length co58)).setCell ⟨gb287, 1, none⟩ (.slice Ao62 t282.length co62)).setCell ⟨gb287, 2, none⟩ (.int .i64 t285)) g276 t274 t286) := ⟨by repeat (first | (with_reducible first | exact HI276.out | apply IsS61.alloc | apply IsS61.drewN | apply IsS61.drew | apply IsS61.set_1 | refine IsS61.far ?_ NB276_273.out _ | refine IsS61.far ?_ NB276_287.out _) | exact HI276.out)⟩
  have n5_ : Aside0 (Below w.heap.size w (((w57.setCell ⟨gb287, 0, none⟩ (.slice Ao58 t279.length co58)).setCell ⟨gb287, 1, none⟩ (.slice Ao62 t282.length co62)).setCell ⟨gb287, 2, none⟩ (.int .i64 t285))) := ⟨by repeat (first | (with_reducible first | exact HB.out | apply bA | apply bN | apply bD | refine below_set ?_ (IsS61.ge HI276.out) | refine below_set ?_ GE273.out | refine below_set ?_ GE287.out) | exact HB.out)⟩
  (try clear HO281)
  (try clear HO284)
  (try clear BK273)
  (try clear BK287)
  (try clear HI276)
  (try clear HB)
  generalize (((w57.setCell ⟨gb287, 0, none⟩ (.slice Ao58 t279.length co58)).setCell ⟨gb287, 1, none⟩ (.slice Ao62 t282.length co62)).setCell ⟨gb287, 2, none⟩ (.int .i64 t285)) = w63 at n0_ n1_ n2_ n3_ n4_ n5_ ⊢
  have HO281 := n0_
  have HO284 := n1_
  have BK273 := n2_
  have BK287 := n3_
  have HI276 := n4_
  have HB := n5_
  clear n0_ n1_ n2_ n3_ n4_ n5_
  replace HO281 := aM (Kd.R_drew HO281.out)
  replace HO284 := aM (Kd.R_drew HO284.out)
  replace BK273 := aM (blk_drew BK273.out)
  replace BK287 := aM (blk_drew BK287.out)
  replace HI276 := aM (IsS61.drew HI276.out)
  replace HB := aM (below_drew1 HB.out)
  have p289 : 0 ≤ (t288 : Int) := of_decide_eq_true (by first | (with_reducible assumption) | assumption)
  have q289 : t288 < (t279.length : Int) := of_decide_eq_true (by first | (with_reducible assumption) | assumption)
  obtain ⟨ad289, e289, hx289_0, hx289_1, hx289_2, hx289_3, hx289_4⟩ := at_T32 (Kd.R_reads' HO281.out).2.2 t288 p289 q289
  cases e289
  replace p289 := eq_true p289
  replace q289 := eq_true q289
  refine start_ (n := 9) (S := fun w' => w'.cell? ⟨gb287, 0, none⟩ = some (.slice (some ad289) t279.length co58) ∧ w'.cell? ⟨gb287, 1, none⟩ = some (.slice Ao62 t282.length co62) ∧ w'.cell? ⟨gb287, 2, none⟩ = some (.int .i64 t285) ∧ w'.cell? (ad289.add ((t288).toNat * 5)) = some (.int .i64 ((rd_T32 t279 t288).f0)) ∧ w'.cell? ⟨(ad289.add ((t288).toNat * 5)).block, (ad289.add ((t288).toNat * 5)).off + 1, none⟩ = some (.int .i64 ((rd_T32 t279 t288).f1)) ∧ w'.cell? ⟨(ad289.add ((t288).toNat * 5)).block, (ad289.add ((t288).toNat * 5)).off + 2, none⟩ = some (.int .i64 ((rd_T32 t279 t288).f2)) ∧ w'.cell? ⟨(ad289.add ((t288).toNat * 5)).block, (ad289.add ((t288).toNat * 5)).off + 3, none⟩ = some (.bool ((rd_T32 t279 t288).f3)) ∧ w'.cell? ⟨(ad289.add ((t288).toNat * 5)).block, (ad289.add ((t288).toNat * 5)).off + 4, none⟩ = some (.bool ((rd_T32 t279 t288).f4))) (ds := []) #[false, false, false, false, false, false, false, false, false] (by kernel_rfl) rfl rfl ⟨(blk_cell BK287.out 0).trans rfl, (blk_cell BK287.out 1).trans rfl, (blk_cell BK287.out 2).trans rfl, hx289_0, hx289_1, hx289_2, hx289_3, hx289_4⟩ (fun hHeld => ?_); refine with_tabW minecontrollaw18_made.tab3 minecontrollaw18_made.bits3 (fun HT_ HW_ => ?_)
  generalize w63.drew = w64 at HO281 HO284 BK273 BK287 HI276 HB hx289_0 hx289_1 hx289_2 hx289_3 hx289_4 hHeld ⊢
  refine pure_ (i := 0) (N := some 16) (v := ?_) (a' := ?_) #[true, false, false, false, false, false, false, false, false] rfl rfl (any_of HT_.out (by kernel_rfl)) (fun _ _ _ h => h) (Or.inl ⟨by rfl, ?_⟩) ?_ ?_
  rotate_left
  ·
   intro w'
   go_simp
   with_reducible rfl
  rotate_left
  ·
   simp only [Act.put, sT, sZ, sS, i64_w, i32_w]
   rfl
  refine pure_ (i := 2) (N := some 18) (v := ?_) (a' := ?_) #[true, false, true, false, false, false, false, false, false] rfl rfl (any_of HT_.out (by kernel_rfl)) (fun _ _ _ h => h) (Or.inl ⟨by rfl, ?_⟩) ?_ ?_
  rotate_left
  ·
   intro w'
   go_simp
   with_reducible rfl
  rotate_left
  ·
   simp only [Act.put, sT, sZ, sS, i64_w, i32_w]
   rfl
  refine pure_ (i := 3) (N := some 19) (v := ?_) (a' := ?_) #[true, false, true, true, false, false, false, false, false] rfl rfl (any_of HT_.out (by kernel_rfl)) (fun _ _ _ h => h) (Or.inl ⟨by rfl, ?_⟩) ?_ ?_
  rotate_left
  ·
   intro w'
   go_simp
   with_reducible rfl
  rotate_left
  ·
   simp only [Act.put, sT, sZ, sS, i64_w, i32_w]
   rfl
  refine take_ (i := 1) (N := some 17) (v := ?_) (a' := ?_) #[true, true, true, true, false, false, false, false, false] rfl rfl (take_ofW HT_.out HW_.out (by kernel_rfl)) (fun _ _ _ h => h) (Or.inl ⟨by rfl, ?_⟩) hHeld ?_ ?_
  rotate_left
  ·
   rintro w' ⟨s0, s1, s2, s3, s4, s5, s6, s7⟩
   go_simp
   with_reducible rfl
  rotate_left
  ·
   simp only [Act.put, sT, sZ, sS, i64_w, i32_w]
   rfl
  refine take_ (i := 4) (N := some 20) (v := ?_) (a' := ?_) #[true, true, true, true, true, false, false, false, false] rfl rfl (take_ofW HT_.out HW_.out (by kernel_rfl)) (fun _ _ _ h => h) (Or.inl ⟨by rfl, ?_⟩) hHeld ?_ ?_
  rotate_left
  ·
   rintro w' ⟨s0, s1, s2, s3, s4, s5, s6, s7⟩
   go_simp
   with_reducible rfl
  rotate_left
  ·
   simp only [Act.put, sT, sZ, sS, i64_w, i32_w]
   rfl
  refine pure_ (i := 5) (N := some 21) (v := ?_) (a' := ?_) #[true, true, true, true, true, true, false, false, false] rfl rfl (any_of HT_.out (by kernel_rfl)) (fun _ _ _ h => h) (Or.inl ⟨by rfl, ?_⟩) ?_ ?_
  rotate_left
  ·
   intro w'
   go_simp
   with_reducible rfl
  rotate_left
  ·
   simp only [Act.put, sT, sZ, sS, i64_w, i32_w]
   rfl
  refine one_ (i := 6) (N := some 22) #[true, true, true, true, true, true, true, false, false] rfl rfl (one_of HT_.out (by kernel_rfl)) (by decide) (fun K hK => ?_)
  refine goes_ Try.func12 (by kernel_rfl) rfl #[.int .i64 a1, .int .i64 (t279.length : Int)] (by rfl) rfl rfl (by first | rfl | (simp only [List.map_toArray, List.map_cons, List.map_nil, List.length_drop, List.length_take]; rfl)) ?_
  with_reducible refine (minecontroldraw_Mod.calls a1 (t279.length : Int) t288 _ A7.out).mono ?_
  rintro e w' ⟨rfl, ⟨nd, rfl⟩⟩
  refine ⟨_, rfl, ?_⟩
  refine hK.out _ _ ⟨(blk_cell BK287.out 0).trans rfl, (blk_cell BK287.out 1).trans rfl, (blk_cell BK287.out 2).trans rfl, hHeld.2.2.2.1, hHeld.2.2.2.2.1, hHeld.2.2.2.2.2.1, hHeld.2.2.2.2.2.2.1, hHeld.2.2.2.2.2.2.2⟩ (fun hHeld => ?_)
  clear hK K
  refine norm_ (a' := ?_) ?_ ?_
  rotate_left
  ·
   show Act.put _ (some 22) _ = _
   simp only [Act.put, sT, sZ, sS, i64_w, i32_w]
   rfl
  refine pure_ (i := 7) (N := some 23) (v := ?_) (a' := ?_) #[true, true, true, true, true, true, true, true, false] rfl rfl (any_of HT_.out (by kernel_rfl)) (fun _ _ _ h => h) (Or.inl ⟨by rfl, ?_⟩) ?_ ?_
  rotate_left
  ·
   intro w'
   go_simp
   with_reducible rfl
  rotate_left
  ·
   simp only [Act.put, sT, sZ, sS, i64_w, i32_w]
   rfl
  refine pure_ (i := 8) (N := some 9) (v := ?_) (a' := ?_) #[true, true, true, true, true, true, true, true, true] rfl rfl (any_of HT_.out (by kernel_rfl)) (fun _ _ _ h => h) (Or.inl ⟨by rfl, ?_⟩) ?_ ?_
  rotate_left
  ·
   intro w'
   go_simp
   with_reducible rfl
  rotate_left
  ·
   simp only [Act.put, sT, sZ, sS, i64_w, i32_w]
   rfl
  refine done_ (done_of HT_.out (by kernel_rfl)) ?_
  try go_wp2_with (first | ((with_reducible refine gate_callee (f := 11) rfl ?_); refine goesL_ (some 25) rfl rfl Try.func11 (by kernel_rfl) rfl #[.pointer (some ⟨g276, 0, none⟩), .int .i64 12] rfl (by first | rfl | (simp only [List.map_toArray, List.map_cons, List.map_nil, List.length_drop, List.length_take]; rfl)) ?_; (with_reducible refine (minecontroldraw_Codes_Next.calls k g276 t274 t286 12 t290 t291 w _ ?side1 ?side2 A10.out).mono ?_); (case side1 => repeat (first | (with_reducible first | exact HI276.out | apply IsS61.alloc | apply IsS61.drewN | apply IsS61.drew | apply IsS61.set_1 | refine IsS61.far ?_ NB276_273.out _ | refine IsS61.far ?_ NB276_287.out _) | exact HI276.out)); (case side2 => repeat (first | (with_reducible first | exact HB.out | apply bA | apply bN | apply bD | refine below_set ?_ (IsS61.ge HI276.out) | refine below_set ?_ GE273.out | refine below_set ?_ GE287.out) | exact HB.out)); rintro e w65 ⟨rfl, hi, hb, hk⟩; refine ⟨_, rfl, ?_⟩; replace BK273 := aM (KeepBut.blk hk (g' := gb273) (o := .cells #[.slice none 0 0, .slice none 0 0, .int .i64 0] 28 (0, 0)) (by (with_reducible repeat (first | refine kN ?_ _ | refine kD ?_ | refine kA ?_ _)); exact BK273.out) NB273_276.out (by simp)); replace HO281 := aM (Kd.R_mono (Kd.R_keep (IsS61.apart (show IsS61 w _ g276 t274 t286 from by repeat (first | (with_reducible first | exact HI276.out | apply IsS61.alloc | apply IsS61.drewN | apply IsS61.drew | apply IsS61.set_1 | refine IsS61.far ?_ NB276_273.out _ | refine IsS61.far ?_ NB276_287.out _) | exact HI276.out)) (R_mv HO281.out) (by decide)) hk (fun _ h => h.2)) (fun _ h => h.1)); replace HO284 := aM (Kd.R_mono (Kd.R_keep (IsS61.apart (show IsS61 w _ g276 t274 t286 from by repeat (first | (with_reducible first | exact HI276.out | apply IsS61.alloc | apply IsS61.drewN | apply IsS61.drew | apply IsS61.set_1 | refine IsS61.far ?_ NB276_273.out _ | refine IsS61.far ?_ NB276_287.out _) | exact HI276.out)) (R_mv HO284.out) (by decide)) hk (fun _ h => h.2)) (fun _ h => h.1)); replace BK287 := aM (KeepBut.blk hk (g' := gb287) (o := .cells #[.slice (some ad289) t279.length co58, .slice Ao62 t282.length co62, .int .i64 t285] 28 (0, 0)) (by (with_reducible repeat (first | refine kN ?_ _ | refine kD ?_ | refine kA ?_ _)); exact BK287.out) NB287_276.out (by simp)); replace HB := aM (hb); replace HI276 := aM (hi); (try clear hb); (try clear hb2); (try clear hge); (try clear hk); (try clear hi); have p52 : 0 ≤ (t288 : Int) := of_decide_eq_true (by first | (with_reducible assumption) | assumption); have q52 : (t288 : Int) < ((t279.length : Int) : Int) := of_decide_eq_true (by first | (with_reducible assumption) | assumption); obtain ⟨go52, co52, eo52, gb52, gl52, cl52, HG52⟩ := Kd.R_form HO281.out (by omega); (first | cases eo52 | (injection eo52 with ea_ en_ ec_; (first | subst ea_ | (injection ea_ with ea_; subst ea_)); subst ec_; clear en_)); have GB52 := aM gb52; have GG52 := aM HG52; clear gb52 gl52 HG52; (first | simp only [add_plain] at hx289_0 | skip); (first | simp only [add_plain] at hx289_1 | skip); (first | simp only [add_plain] at hx289_2 | skip); (first | simp only [add_plain] at hx289_3 | skip); (first | simp only [add_plain] at hx289_4 | skip); obtain ⟨ce52, hcl52, hM52, hcc52, hfr52⟩ := Kd.R_elem HO281.out z32 (t288 : Int) p52 q52; obtain rfl := k32_openM hM52; have hx52_0 : w65.cell? ⟨go52, (t288 : Int).toNat * 5, none⟩ = some (.int .i64 ((rd_T32 t279 t288).f0)) := hcc52 0 _ rfl; have hx52_1 : w65.cell? ⟨go52, (t288 : Int).toNat * 5 + 1, none⟩ = some (.int .i64 ((rd_T32 t279 t288).f1)) := hcc52 1 _ rfl; have hx52_2 : w65.cell? ⟨go52, (t288 : Int).toNat * 5 + 2, none⟩ = some (.int .i64 ((rd_T32 t279 t288).f2)) := hcc52 2 _ rfl; have hx52_3 : w65.cell? ⟨go52, (t288 : Int).toNat * 5 + 3, none⟩ = some (.bool ((rd_T32 t279 t288).f3)) := hcc52 3 _ rfl; have hx52_4 : w65.cell? ⟨go52, (t288 : Int).toNat * 5 + 4, none⟩ = some (.bool ((rd_T32 t279 t288).f4)) := hcc52 4 _ rfl; have hf52_0 : w65.frozen? ⟨go52, (t288 : Int).toNat * 5, none⟩ = false := hfr52 0; have hf52_1 : w65.frozen? ⟨go52, (t288 : Int).toNat * 5 + 1, none⟩ = false := hfr52 1; have hf52_2 : w65.frozen? ⟨go52, (t288 : Int).toNat * 5 + 2, none⟩ = false := hfr52 2; have hf52_3 : w65.frozen? ⟨go52, (t288 : Int).toNat * 5 + 3, none⟩ = false := hfr52 3; have hf52_4 : w65.frozen? ⟨go52, (t288 : Int).toNat * 5 + 4, none⟩ = false := hfr52 4; clear hcl52 hcc52 hfr52 hM52; replace p52 := eq_true p52; replace q52 := eq_true q52; have HX66 := aM (show Kd.R k32 32 w65 w.heap.size (fun _ => True) (.slice (some ⟨go52, 0, none⟩) t279.length co58) t279 from (R_mv HO281.out)); obtain ⟨ce66, hcl66, hM66, hcc66, hfr66⟩ := Kd.R_elem HX66.out z32 (t288 : Int) (of_decide_eq_true (by first | (with_reducible assumption) | assumption)) (by have h_ : (t288 : Int) < ((t279.length : Int) : Int) := of_decide_eq_true (by first | (with_reducible assumption) | assumption); first | exact h_ | (have e_ := (Kd.R_reads' HO281.out).1; omega) | simpa using h_); obtain rfl := k32_openM hM66; have HP66 := Kd.R_seg HX66.out (t288 : Int) (of_decide_eq_true (by first | (with_reducible assumption) | assumption)) (by have h_ : (t288 : Int) < ((t279.length : Int) : Int) := of_decide_eq_true (by first | (with_reducible assumption) | assumption); first | exact h_ | (have e_ := (Kd.R_reads' HO281.out).1; omega) | simpa using h_) (seg := [.int .i64 a2]) (j := 2) hcl66 hcc66 (show 3 ≤ 5 from by decide) (x' := (⟨(rd_T32 t279 t288).f0, (rd_T32 t279 t288).f1, a2, (rd_T32 t279 t288).f3, (rd_T32 t279 t288).f4⟩ : S32)) (k32_mkM _ _ _ (⟨(rd_T32 t279 t288).f0, (rd_T32 t279 t288).f1, a2, (rd_T32 t279 t288).f3, (rd_T32 t279 t288).f4⟩ : S32) ) (fun _ hk => hk); have hx66_2 := hcc66 2 _ rfl; (try simp only [show (k32).sz = 5 from rfl, Nat.mul_one, Nat.add_zero] at hx66_2); have hf66_2 := hfr66 2; (try simp only [show (k32).sz = 5 from rfl, Nat.mul_one, Nat.add_zero] at hf66_2); clear hcl66 hcc66 hfr66 hM66) | ((with_reducible refine gate_store (t := 3) (p := 43) rfl ?_); refine store_event (t := 3) (p := 43) (v := ?vo_w67) (w1 := (w65.setCell ⟨go52, (t288 : Int).toNat * 5 + 2, none⟩ (.int .i64 a2))) ?hg ?ho ?hn ?hr ?_; (case ho => rfl); (case hg => rfl); (case hn => rfl); (case hr => first | (go_simp; done) | (go_simp; rfl)); intro w67 hw; have hg : w65.grownBy w67 (some go52) := (by rw [hw]; exact HP66.2); have hp_ : Kd.R k32 32 w67 w.heap.size (fun _ => True) (.slice (some ⟨go52, 0, none⟩) t279.length co58) y294 := (by rw [hw, Ny294.out]; exact HP66.1); clear HP66; replace BK273 := aM (blk_grown (blk_mv BK273.out) hg (Kd.R_ne HO281.out BK273.out (by decide))); replace HI276 := aM (IsS61.grown (by repeat (first | (with_reducible first | exact HI276.out | apply IsS61.alloc | apply IsS61.drewN | apply IsS61.drew | apply IsS61.set_1 | refine IsS61.far ?_ NB276_273.out _ | refine IsS61.far ?_ NB276_287.out _) | exact HI276.out)) hg (IsS61.own_ne HI276.out HO281.out (by decide))); replace HO284 := aM (Kd.R_over' (v := (.slice (some ⟨go52, 0, none⟩) t279.length co58)) (R_mv HO284.out) (Kd.R_typed HO281.out) (by decide) hg); replace BK287 := aM (blk_grown (blk_mv BK287.out) hg (Kd.R_ne HO281.out BK287.out (by decide))); replace HO281 := aM (hp_); replace HB := aM ((by rw [hw]; exact below_set (HB.out) GB52.out : Below w.heap.size w w67)); clear hg hw hp_; obtain ⟨hcz68_0, hcz68_1, hcz68_2, hfz68_0, hfz68_1, hfz68_2⟩ := blk3 BK287.out; have hnb69 := NB273_276.out; have hnc69 := NB276_273.out; obtain ⟨hcz70_0, hcz70_1, hcz70_2, hfz70_0, hfz70_1, hfz70_2⟩ := blk3 BK273.out))
  refine bodyPost_ret (results_cell_row rfl _ _ gb273 28 #[.slice (some ⟨go52, 0, none⟩) t279.length co58, .slice Ao62 t282.length co62, .int .i64 t285] (0, 0) _ rfl (by (with_reducible repeat (first | refine kN ?_ _ | refine kD ?_ | refine kA ?_ _)); refine blk_put (cs := #[.slice (some ⟨go52, 0, none⟩) t279.length co58, .slice Ao62 t282.length co62, .int .i64 0]) ?_ 2 _ rfl; (with_reducible repeat (first | refine kN ?_ _ | refine kD ?_ | refine kA ?_ _)); refine blk_put (cs := #[.slice (some ⟨go52, 0, none⟩) t279.length co58, .slice none 0 0, .int .i64 0]) ?_ 1 _ rfl; (with_reducible repeat (first | refine kN ?_ _ | refine kD ?_ | refine kA ?_ _)); refine blk_put (cs := #[.slice none 0 0, .slice none 0 0, .int .i64 0]) ?_ 0 _ rfl; (with_reducible repeat (first | refine kN ?_ _ | refine kD ?_ | refine kA ?_ _)); exact BK273.out) Try.underlying28 rfl (by kernel_rfl)) rfl ?_
  exact ⟨_, _, by first | rfl | (simp [errW_none, errW_some] <;> rfl) | (simp [*, errW_none, errW_some] <;> rfl), by (with_reducible repeat (first | apply Kd.R_alloc | apply Kd.R_drewN | apply Kd.R_drew)); exact Kd.R_mono (Kd.R_far (p := ⟨gb273, 2, none⟩) (Kd.R_far (p := ⟨gb273, 1, none⟩) (Kd.R_far (p := ⟨gb273, 0, none⟩) (Kd.R_types HO281.out BK273.out (by decide)) (fun _ hk => hk.2) (.slice (some ⟨go52, 0, none⟩) t279.length co58)) (fun _ hk => hk.2) (.slice Ao62 t282.length co62)) (fun _ hk => hk.2) (.int .i64 t285)) (fun _ hk => trivial), by (with_reducible repeat (first | apply Kd.R_alloc | apply Kd.R_drewN | apply Kd.R_drew)); exact Kd.R_mono (Kd.R_far (p := ⟨gb273, 2, none⟩) (Kd.R_far (p := ⟨gb273, 1, none⟩) (Kd.R_far (p := ⟨gb273, 0, none⟩) (Kd.R_types HO284.out BK273.out (by decide)) (fun _ hk => hk.2) (.slice (some ⟨go52, 0, none⟩) t279.length co58)) (fun _ hk => hk.2) (.slice Ao62 t282.length co62)) (fun _ hk => hk.2) (.int .i64 t285)) (fun _ hk => trivial), by repeat (first | (with_reducible first | exact HB.out | apply bA | apply bN | apply bD | refine below_set ?_ (IsS61.ge HI276.out) | refine below_set ?_ GE273.out | refine below_set ?_ GE287.out) | exact HB.out)⟩
 rw [if_neg c51] at H
 have c51b0 : (t290 == 3) = false := beq_eq_false_iff_ne.mpr c51
 have c51b1 : (t290 != 3) = true := bne_iff_ne.mpr c51
 by_cases c71 : t290 = 4
 ·
  rw [if_pos c71] at H
  have c71b0 : (t290 == 4) = true := beq_iff_eq.mpr c71
  have c71b1 : (t290 != 4) = false := bne_eq_false_iff_eq.mpr c71
  clear c71
  obtain ⟨y295, hy295⟩ : ∃ y_ : List (S32), y_ = (t279.set (t288 : Int).toNat (⟨(rd_T32 t279 t288).f0, (rd_T32 t279 t288).f1, (rd_T32 t279 t288).f2, (rd_T32 t279 t288).f3, true⟩ : S32)) := ⟨_, rfl⟩
  replace H : (some (y295, t282, t285)) = some (r1, r2, r3) := by first | (rw [hy295]; with_reducible exact H) | (have H2_ := (Option.bind_some _ _).symm.trans H; rw [hy295]; with_reducible exact H2_) | (have H2_ := (Option.bind_some _ _).symm.trans H; with_reducible exact H2_) | with_reducible exact H | (rw [hy295]; exact H) | exact H
  have Ny295 := aM hy295
  clear hy295
  simp only [Option.some.injEq, Prod.mk.injEq] at H
  obtain ⟨rfl, rfl, rfl⟩ := H
  go_enter Try.func28, Try.ntmps28
  try go_wp2_with (first | ((with_reducible refine gate_dst (N := 6) rfl ?_); refine box_event ?hg (N := 6) ?hd (cs := #[.slice none 0 0, .slice none 0 0, .int .i64 0]) (t := 28) ?hr ?_; (case hd => rfl); (case hg => rfl); (case hr => first | (go_simp; done) | (go_simp; rfl)); intro gb273 hg w73 hbox hb; have BK273 := aM (hbox); have GW273 := aM ((by rw [hg]; exact (below_size (below_mv HB.out)) : w.heap.size ≤ gb273)); have GE273 := aM ((by rw [hg]; exact (below_size (below_mv HB.out)) : w.heap.size ≤ gb273)); replace HB := aM (below_step (below_mv HB.out) hb); clear hb hbox hg) | ((with_reducible refine gate_callee (f := 9) rfl ?_); refine goesL_ (some 11) rfl rfl Try.func9 (by kernel_rfl) rfl #[.slice A0 l0.length c0] rfl (by first | rfl | (simp only [List.map_toArray, List.map_cons, List.map_nil, List.length_drop, List.length_take]; rfl)) ?_; (with_reducible refine (minecontroldraw_New.calls _ _ l0 t274 t275 w _ ?side1 ?side2 ?side3 A4.out).mono ?_); (case side1 => repeat (first | (with_reducible first | exact HB.out | apply bA | apply bN | apply bD | refine below_set ?_ GE273.out) | exact HB.out)); (case side2 => exact HR0.out); (case side3 => exact HC0.out); rintro e w74 ⟨g276, rfl, hi, hb, hb2, hge⟩; refine ⟨_, rfl, ?_⟩; replace HB := aM (hb); have HI276 := aM (hi); have NB276_273 := aM (IsS61.ne_blk hi (blk_below (blk_mv BK273.out) hb2) (by decide)); have NB273_276 := aM (Ne.symm (IsS61.ne_blk hi (blk_below (blk_mv BK273.out) hb2) (by decide))); replace BK273 := aM (blk_below (blk_mv BK273.out) hb2); (try clear hb); (try clear hb2); (try clear hge); (try clear hk); (try clear hi)) | ((with_reducible refine gate_callee (f := 11) rfl ?_); refine goesL_ (some 14) rfl rfl Try.func11 (by kernel_rfl) rfl #[.pointer (some ⟨g276, 0, none⟩), .int .i64 4] rfl (by first | rfl | (simp only [List.map_toArray, List.map_cons, List.map_nil, List.length_drop, List.length_take]; rfl)) ?_; (with_reducible refine (minecontroldraw_Codes_Next.calls k g276 t274 t275 4 t277 t278 w _ ?side1 ?side2 A5.out).mono ?_); (case side1 => repeat (first | (with_reducible first | exact HI276.out | apply IsS61.alloc | apply IsS61.drewN | apply IsS61.drew | apply IsS61.set_1 | refine IsS61.far ?_ NB276_273.out _) | exact HI276.out)); (case side2 => repeat (first | (with_reducible first | exact HB.out | apply bA | apply bN | apply bD | refine below_set ?_ (IsS61.ge HI276.out) | refine below_set ?_ GE273.out) | exact HB.out)); rintro e w75 ⟨rfl, hi, hb, hk⟩; refine ⟨_, rfl, ?_⟩; replace BK273 := aM (KeepBut.blk hk (g' := gb273) (o := .cells #[.slice none 0 0, .slice none 0 0, .int .i64 0] 28 (0, 0)) (by (with_reducible repeat (first | refine kN ?_ _ | refine kD ?_ | refine kA ?_ _)); exact BK273.out) NB273_276.out (by simp)); replace HB := aM (hb); replace HI276 := aM (hi); (try clear hb); (try clear hb2); (try clear hge); (try clear hk); (try clear hi)) | ((with_reducible refine gate_callee (f := 10) rfl ?_); refine goesL_ (some 15) rfl rfl Try.func10 (by kernel_rfl) rfl #[.pointer (some ⟨g276, 0, none⟩), .int .i64 t277] rfl (by first | rfl | (simp only [List.map_toArray, List.map_cons, List.map_nil, List.length_drop, List.length_take]; rfl)) ?_; (with_reducible refine (minecontroldraw_Codes_Feeder.calls k g276 t274 t278 t277 t279 t282 t285 t286 w _ ?side1 ?side2 A6.out).mono ?_); (case side1 => repeat (first | (with_reducible first | exact HI276.out | apply IsS61.alloc | apply IsS61.drewN | apply IsS61.drew | apply IsS61.set_1 | refine IsS61.far ?_ NB276_273.out _) | exact HI276.out)); (case side2 => repeat (first | (with_reducible first | exact HB.out | apply bA | apply bN | apply bD | refine below_set ?_ (IsS61.ge HI276.out) | refine below_set ?_ GE273.out) | exact HB.out)); rintro e w76 ⟨v280, v283, rfl, ho0, ho1, hi, hb, hk⟩; refine ⟨_, rfl, ?_⟩; replace BK273 := aM (KeepBut.blk hk (g' := gb273) (o := .cells #[.slice none 0 0, .slice none 0 0, .int .i64 0] 28 (0, 0)) (by (with_reducible repeat (first | refine kN ?_ _ | refine kD ?_ | refine kA ?_ _)); exact BK273.out) NB273_276.out (by simp)); have HO281 := aM (Kd.R_lower ho0 (below_size (by repeat (first | (with_reducible first | exact HB.out | apply bA | apply bN | apply bD | refine below_set ?_ (IsS61.ge HI276.out) | refine below_set ?_ GE273.out) | exact HB.out)))); have HO284 := aM (Kd.R_lower ho1 (below_size (by repeat (first | (with_reducible first | exact HB.out | apply bA | apply bN | apply bD | refine below_set ?_ (IsS61.ge HI276.out) | refine below_set ?_ GE273.out) | exact HB.out)))); replace HB := aM (hb); replace HI276 := aM (hi); (try clear hb); (try clear hb2); (try clear hge); (try clear hk); (try clear hi); (try clear ho0); (try clear ho1)) | ((with_reducible refine gate_dst (N := 8) rfl ?_); refine box_event ?hg (N := 8) ?hd (cs := #[.slice none 0 0, .slice none 0 0, .int .i64 0]) (t := 28) ?hr ?_; (case hd => rfl); (case hg => rfl); (case hr => first | (go_simp; done) | (go_simp; rfl)); intro gb287 hg w77 hbox hb; replace HO281 := aM (Kd.R_below (R_mv HO281.out) hb); replace HO284 := aM (Kd.R_below (R_mv HO284.out) hb); have BK287 := aM (hbox); have GW287 := aM ((by rw [hg]; exact (below_size (by repeat (first | (with_reducible first | exact HB.out | apply bA | apply bN | apply bD | refine below_set ?_ (IsS61.ge HI276.out) | refine below_set ?_ GE273.out) | exact HB.out))) : w.heap.size ≤ gb287)); have GE287 := aM ((by rw [hg]; exact (below_size (by repeat (first | (with_reducible first | exact HB.out | apply bA | apply bN | apply bD | refine below_set ?_ (IsS61.ge HI276.out) | refine below_set ?_ GE273.out) | exact HB.out))) : w.heap.size ≤ gb287)); replace HB := aM (below_step (by repeat (first | (with_reducible first | exact HB.out | apply bA | apply bN | apply bD | refine below_set ?_ (IsS61.ge HI276.out) | refine below_set ?_ GE273.out) | exact HB.out)) hb); have NB273_287 := aM ((by rw [hg]; exact Nat.ne_of_lt (blk_lt (blk_mv BK273.out)) : gb273 ≠ gb287)); have NB287_273 := aM ((by rw [hg]; exact Nat.ne_of_gt (blk_lt (blk_mv BK273.out)) : gb287 ≠ gb273)); replace BK273 := aM (blk_below (blk_mv BK273.out) hb); have NB276_287 := aM ((by rw [hg]; exact Nat.ne_of_lt (IsS61.lt (show IsS61 w _ g276 t274 t286 from by repeat (first | (with_reducible first | exact HI276.out | apply IsS61.alloc | apply IsS61.drewN | apply IsS61.drew | apply IsS61.set_1 | refine IsS61.far ?_ NB276_273.out _) | exact HI276.out))) : g276 ≠ gb287)); have NB287_276 := aM ((by rw [hg]; exact Nat.ne_of_gt (IsS61.lt (show IsS61 w _ g276 t274 t286 from by repeat (first | (with_reducible first | exact HI276.out | apply IsS61.alloc | apply IsS61.drewN | apply IsS61.drew | apply IsS61.set_1 | refine IsS61.far ?_ NB276_273.out _) | exact HI276.out))) : gb287 ≠ g276)); replace HI276 := aM (IsS61.below (by repeat (first | (with_reducible first | exact HI276.out | apply IsS61.alloc | apply IsS61.drewN | apply IsS61.drew | apply IsS61.set_1 | refine IsS61.far ?_ NB276_273.out _) | exact HI276.out)) hb); clear hb hbox hg; obtain ⟨Ao78, co78, eo78⟩ := Kd.R_slice HO281.out; subst eo78; have hnb79 := NB287_273.out; have hnc79 := NB273_287.out; have hnb80 := NB287_276.out; have hnc80 := NB276_287.out; obtain ⟨hcz81_0, hcz81_1, hcz81_2, hfz81_0, hfz81_1, hfz81_2⟩ := blk3 BK287.out; obtain ⟨Ao82, co82, eo82⟩ := Kd.R_slice HO284.out; subst eo82))
  have n0_ : Aside0 (Kd.R k32 32 (((w77.setCell ⟨gb287, 0, none⟩ (.slice Ao78 t279.length co78)).setCell ⟨gb287, 1, none⟩ (.slice Ao82 t282.length co82)).setCell ⟨gb287, 2, none⟩ (.int .i64 t285)) w.heap.size (fun _ => True) (.slice Ao78 t279.length co78) t279) := ⟨by (with_reducible repeat (first | apply Kd.R_alloc | apply Kd.R_drewN | apply Kd.R_drew)); exact Kd.R_mono (Kd.R_far (p := ⟨gb287, 2, none⟩) (Kd.R_far (p := ⟨gb287, 1, none⟩) (Kd.R_far (p := ⟨gb287, 0, none⟩) (Kd.R_types HO281.out BK287.out (by decide)) (fun _ hk => hk.2) (.slice Ao78 t279.length co78)) (fun _ hk => hk.2) (.slice Ao82 t282.length co82)) (fun _ hk => hk.2) (.int .i64 t285)) (fun _ hk => trivial)⟩
  have n1_ : Aside0 (Kd.R (Kd.int .i64) 3 (((w77.setCell ⟨gb287, 0, none⟩ (.slice Ao78 t279.length co78)).setCell ⟨gb287, 1, none⟩ (.slice Ao82 t282.length co82)).setCell ⟨gb287, 2, none⟩ (.int .i64 t285)) w.heap.size (fun _ => True) (.slice Ao82 t282.length co82) t282) := ⟨by (with_reducible repeat (first | apply Kd.R_alloc | apply Kd.R_drewN | apply Kd.R_drew)); exact Kd.R_mono (Kd.R_far (p := ⟨gb287, 2, none⟩) (Kd.R_far (p := ⟨gb287, 1, none⟩) (Kd.R_far (p := ⟨gb287, 0, none⟩) (Kd.R_types HO284.out BK287.out (by decide)) (fun _ hk => hk.2) (.slice Ao78 t279.length co78)) (fun _ hk => hk.2) (.slice Ao82 t282.length co82)) (fun _ hk => hk.2) (.int .i64 t285)) (fun _ hk => trivial)⟩
  have n2_ : Aside0 ((((w77.setCell ⟨gb287, 0, none⟩ (.slice Ao78 t279.length co78)).setCell ⟨gb287, 1, none⟩ (.slice Ao82 t282.length co82)).setCell ⟨gb287, 2, none⟩ (.int .i64 t285)).heap[gb273]? = some (.cells #[.slice none 0 0, .slice none 0 0, .int .i64 0] 28 (0, 0))) := ⟨by (with_reducible repeat (first | refine kN ?_ _ | refine kD ?_ | refine kA ?_ _)); refine blk_far ?_ NB273_287.out _; (with_reducible repeat (first | refine kN ?_ _ | refine kD ?_ | refine kA ?_ _)); refine blk_far ?_ NB273_287.out _; (with_reducible repeat (first | refine kN ?_ _ | refine kD ?_ | refine kA ?_ _)); refine blk_far ?_ NB273_287.out _; (with_reducible repeat (first | refine kN ?_ _ | refine kD ?_ | refine kA ?_ _)); exact BK273.out⟩
  have n3_ : Aside0 ((((w77.setCell ⟨gb287, 0, none⟩ (.slice Ao78 t279.length co78)).setCell ⟨gb287, 1, none⟩ (.slice Ao82 t282.length co82)).setCell ⟨gb287, 2, none⟩ (.int .i64 t285)).heap[gb287]? = some (.cells #[.slice Ao78 t279.length co78, .slice Ao82 t282.length co82, .int .i64 t285] 28 (0, 0))) := ⟨by (with_reducible repeat (first | refine kN ?_ _ | refine kD ?_ | refine kA ?_ _)); refine blk_put (cs := #[.slice Ao78 t279.length co78, .slice Ao82 t282.length co82, .int .i64 0]) ?_ 2 _ rfl; (with_reducible repeat (first | refine kN ?_ _ | refine kD ?_ | refine kA ?_ _)); refine blk_put (cs := #[.slice Ao78 t279.length co78, .slice none 0 0, .int .i64 0]) ?_ 1 _ rfl; (with_reducible repeat (first | refine kN ?_ _ | refine kD ?_ | refine kA ?_ _)); refine blk_put (cs := #[.slice none 0 0, .slice none 0 0, .int .i64 0]) ?_ 0 _ rfl; (with_reducible repeat (first | refine kN ?_ _ | refine kD ?_ | refine kA ?_ _)); exact BK287.out⟩
  have n4_ : Aside0 (IsS61 w (((w77.setCell ⟨gb287, 0, none⟩ (.slice Ao78 t279.length co78)).setCell ⟨gb287, 1, none⟩ (.slice Ao82 t282.length co82)).setCell ⟨gb287, 2, none⟩ (.int .i64 t285)) g276 t274 t286) := ⟨by repeat (first | (with_reducible first | exact HI276.out | apply IsS61.alloc | apply IsS61.drewN | apply IsS61.drew | apply IsS61.set_1 | refine IsS61.far ?_ NB276_273.out _ | refine IsS61.far ?_ NB276_287.out _) | exact HI276.out)⟩
  have n5_ : Aside0 (Below w.heap.size w (((w77.setCell ⟨gb287, 0, none⟩ (.slice Ao78 t279.length co78)).setCell ⟨gb287, 1, none⟩ (.slice Ao82 t282.length co82)).setCell ⟨gb287, 2, none⟩ (.int .i64 t285))) := ⟨by repeat (first | (with_reducible first | exact HB.out | apply bA | apply bN | apply bD | refine below_set ?_ (IsS61.ge HI276.out) | refine below_set ?_ GE273.out | refine below_set ?_ GE287.out) | exact HB.out)⟩
  (try clear HO281)
  (try clear HO284)
  (try clear BK273)
  (try clear BK287)
  (try clear HI276)
  (try clear HB)
  generalize (((w77.setCell ⟨gb287, 0, none⟩ (.slice Ao78 t279.length co78)).setCell ⟨gb287, 1, none⟩ (.slice Ao82 t282.length co82)).setCell ⟨gb287, 2, none⟩ (.int .i64 t285)) = w83 at n0_ n1_ n2_ n3_ n4_ n5_ ⊢
  have HO281 := n0_
  have HO284 := n1_
  have BK273 := n2_
  have BK287 := n3_
  have HI276 := n4_
  have HB := n5_
  clear n0_ n1_ n2_ n3_ n4_ n5_
  replace HO281 := aM (Kd.R_drew HO281.out)
  replace HO284 := aM (Kd.R_drew HO284.out)
  replace BK273 := aM (blk_drew BK273.out)
  replace BK287 := aM (blk_drew BK287.out)
  replace HI276 := aM (IsS61.drew HI276.out)
  replace HB := aM (below_drew1 HB.out)
  have p289 : 0 ≤ (t288 : Int) := of_decide_eq_true (by first | (with_reducible assumption) | assumption)
  have q289 : t288 < (t279.length : Int) := of_decide_eq_true (by first | (with_reducible assumption) | assumption)
  obtain ⟨ad289, e289, hx289_0, hx289_1, hx289_2, hx289_3, hx289_4⟩ := at_T32 (Kd.R_reads' HO281.out).2.2 t288 p289 q289
  cases e289
  replace p289 := eq_true p289
  replace q289 := eq_true q289
  refine start_ (n := 9) (S := fun w' => w'.cell? ⟨gb287, 0, none⟩ = some (.slice (some ad289) t279.length co78) ∧ w'.cell? ⟨gb287, 1, none⟩ = some (.slice Ao82 t282.length co82) ∧ w'.cell? ⟨gb287, 2, none⟩ = some (.int .i64 t285) ∧ w'.cell? (ad289.add ((t288).toNat * 5)) = some (.int .i64 ((rd_T32 t279 t288).f0)) ∧ w'.cell? ⟨(ad289.add ((t288).toNat * 5)).block, (ad289.add ((t288).toNat * 5)).off + 1, none⟩ = some (.int .i64 ((rd_T32 t279 t288).f1)) ∧ w'.cell? ⟨(ad289.add ((t288).toNat * 5)).block, (ad289.add ((t288).toNat * 5)).off + 2, none⟩ = some (.int .i64 ((rd_T32 t279 t288).f2)) ∧ w'.cell? ⟨(ad289.add ((t288).toNat * 5)).block, (ad289.add ((t288).toNat * 5)).off + 3, none⟩ = some (.bool ((rd_T32 t279 t288).f3)) ∧ w'.cell? ⟨(ad289.add ((t288).toNat * 5)).block, (ad289.add ((t288).toNat * 5)).off + 4, none⟩ = some (.bool ((rd_T32 t279 t288).f4))) (ds := []) #[false, false, false, false, false, false, false, false, false] (by kernel_rfl) rfl rfl ⟨(blk_cell BK287.out 0).trans rfl, (blk_cell BK287.out 1).trans rfl, (blk_cell BK287.out 2).trans rfl, hx289_0, hx289_1, hx289_2, hx289_3, hx289_4⟩ (fun hHeld => ?_); refine with_tabW minecontrollaw18_made.tab3 minecontrollaw18_made.bits3 (fun HT_ HW_ => ?_)
  generalize w83.drew = w84 at HO281 HO284 BK273 BK287 HI276 HB hx289_0 hx289_1 hx289_2 hx289_3 hx289_4 hHeld ⊢
  refine pure_ (i := 0) (N := some 16) (v := ?_) (a' := ?_) #[true, false, false, false, false, false, false, false, false] rfl rfl (any_of HT_.out (by kernel_rfl)) (fun _ _ _ h => h) (Or.inl ⟨by rfl, ?_⟩) ?_ ?_
  rotate_left
  ·
   intro w'
   go_simp
   with_reducible rfl
  rotate_left
  ·
   simp only [Act.put, sT, sZ, sS, i64_w, i32_w]
   rfl
  refine pure_ (i := 2) (N := some 18) (v := ?_) (a' := ?_) #[true, false, true, false, false, false, false, false, false] rfl rfl (any_of HT_.out (by kernel_rfl)) (fun _ _ _ h => h) (Or.inl ⟨by rfl, ?_⟩) ?_ ?_
  rotate_left
  ·
   intro w'
   go_simp
   with_reducible rfl
  rotate_left
  ·
   simp only [Act.put, sT, sZ, sS, i64_w, i32_w]
   rfl
  refine pure_ (i := 3) (N := some 19) (v := ?_) (a' := ?_) #[true, false, true, true, false, false, false, false, false] rfl rfl (any_of HT_.out (by kernel_rfl)) (fun _ _ _ h => h) (Or.inl ⟨by rfl, ?_⟩) ?_ ?_
  rotate_left
  ·
   intro w'
   go_simp
   with_reducible rfl
  rotate_left
  ·
   simp only [Act.put, sT, sZ, sS, i64_w, i32_w]
   rfl
  refine take_ (i := 1) (N := some 17) (v := ?_) (a' := ?_) #[true, true, true, true, false, false, false, false, false] rfl rfl (take_ofW HT_.out HW_.out (by kernel_rfl)) (fun _ _ _ h => h) (Or.inl ⟨by rfl, ?_⟩) hHeld ?_ ?_
  rotate_left
  ·
   rintro w' ⟨s0, s1, s2, s3, s4, s5, s6, s7⟩
   go_simp
   with_reducible rfl
  rotate_left
  ·
   simp only [Act.put, sT, sZ, sS, i64_w, i32_w]
   rfl
  refine take_ (i := 4) (N := some 20) (v := ?_) (a' := ?_) #[true, true, true, true, true, false, false, false, false] rfl rfl (take_ofW HT_.out HW_.out (by kernel_rfl)) (fun _ _ _ h => h) (Or.inl ⟨by rfl, ?_⟩) hHeld ?_ ?_
  rotate_left
  ·
   rintro w' ⟨s0, s1, s2, s3, s4, s5, s6, s7⟩
   go_simp
   with_reducible rfl
  rotate_left
  ·
   simp only [Act.put, sT, sZ, sS, i64_w, i32_w]
   rfl
  refine pure_ (i := 5) (N := some 21) (v := ?_) (a' := ?_) #[true, true, true, true, true, true, false, false, false] rfl rfl (any_of HT_.out (by kernel_rfl)) (fun _ _ _ h => h) (Or.inl ⟨by rfl, ?_⟩) ?_ ?_
  rotate_left
  ·
   intro w'
   go_simp
   with_reducible rfl
  rotate_left
  ·
   simp only [Act.put, sT, sZ, sS, i64_w, i32_w]
   rfl
  refine one_ (i := 6) (N := some 22) #[true, true, true, true, true, true, true, false, false] rfl rfl (one_of HT_.out (by kernel_rfl)) (by decide) (fun K hK => ?_)
  refine goes_ Try.func12 (by kernel_rfl) rfl #[.int .i64 a1, .int .i64 (t279.length : Int)] (by rfl) rfl rfl (by first | rfl | (simp only [List.map_toArray, List.map_cons, List.map_nil, List.length_drop, List.length_take]; rfl)) ?_
  with_reducible refine (minecontroldraw_Mod.calls a1 (t279.length : Int) t288 _ A7.out).mono ?_
  rintro e w' ⟨rfl, ⟨nd, rfl⟩⟩
  refine ⟨_, rfl, ?_⟩
  refine hK.out _ _ ⟨(blk_cell BK287.out 0).trans rfl, (blk_cell BK287.out 1).trans rfl, (blk_cell BK287.out 2).trans rfl, hHeld.2.2.2.1, hHeld.2.2.2.2.1, hHeld.2.2.2.2.2.1, hHeld.2.2.2.2.2.2.1, hHeld.2.2.2.2.2.2.2⟩ (fun hHeld => ?_)
  clear hK K
  refine norm_ (a' := ?_) ?_ ?_
  rotate_left
  ·
   show Act.put _ (some 22) _ = _
   simp only [Act.put, sT, sZ, sS, i64_w, i32_w]
   rfl
  refine pure_ (i := 7) (N := some 23) (v := ?_) (a' := ?_) #[true, true, true, true, true, true, true, true, false] rfl rfl (any_of HT_.out (by kernel_rfl)) (fun _ _ _ h => h) (Or.inl ⟨by rfl, ?_⟩) ?_ ?_
  rotate_left
  ·
   intro w'
   go_simp
   with_reducible rfl
  rotate_left
  ·
   simp only [Act.put, sT, sZ, sS, i64_w, i32_w]
   rfl
  refine pure_ (i := 8) (N := some 9) (v := ?_) (a' := ?_) #[true, true, true, true, true, true, true, true, true] rfl rfl (any_of HT_.out (by kernel_rfl)) (fun _ _ _ h => h) (Or.inl ⟨by rfl, ?_⟩) ?_ ?_
  rotate_left
  ·
   intro w'
   go_simp
   with_reducible rfl
  rotate_left
  ·
   simp only [Act.put, sT, sZ, sS, i64_w, i32_w]
   rfl
  refine done_ (done_of HT_.out (by kernel_rfl)) ?_
  try go_wp2_with (first | ((with_reducible refine gate_callee (f := 11) rfl ?_); refine goesL_ (some 25) rfl rfl Try.func11 (by kernel_rfl) rfl #[.pointer (some ⟨g276, 0, none⟩), .int .i64 12] rfl (by first | rfl | (simp only [List.map_toArray, List.map_cons, List.map_nil, List.length_drop, List.length_take]; rfl)) ?_; (with_reducible refine (minecontroldraw_Codes_Next.calls k g276 t274 t286 12 t290 t291 w _ ?side1 ?side2 A10.out).mono ?_); (case side1 => repeat (first | (with_reducible first | exact HI276.out | apply IsS61.alloc | apply IsS61.drewN | apply IsS61.drew | apply IsS61.set_1 | refine IsS61.far ?_ NB276_273.out _ | refine IsS61.far ?_ NB276_287.out _) | exact HI276.out)); (case side2 => repeat (first | (with_reducible first | exact HB.out | apply bA | apply bN | apply bD | refine below_set ?_ (IsS61.ge HI276.out) | refine below_set ?_ GE273.out | refine below_set ?_ GE287.out) | exact HB.out)); rintro e w85 ⟨rfl, hi, hb, hk⟩; refine ⟨_, rfl, ?_⟩; replace BK273 := aM (KeepBut.blk hk (g' := gb273) (o := .cells #[.slice none 0 0, .slice none 0 0, .int .i64 0] 28 (0, 0)) (by (with_reducible repeat (first | refine kN ?_ _ | refine kD ?_ | refine kA ?_ _)); exact BK273.out) NB273_276.out (by simp)); replace HO281 := aM (Kd.R_mono (Kd.R_keep (IsS61.apart (show IsS61 w _ g276 t274 t286 from by repeat (first | (with_reducible first | exact HI276.out | apply IsS61.alloc | apply IsS61.drewN | apply IsS61.drew | apply IsS61.set_1 | refine IsS61.far ?_ NB276_273.out _ | refine IsS61.far ?_ NB276_287.out _) | exact HI276.out)) (R_mv HO281.out) (by decide)) hk (fun _ h => h.2)) (fun _ h => h.1)); replace HO284 := aM (Kd.R_mono (Kd.R_keep (IsS61.apart (show IsS61 w _ g276 t274 t286 from by repeat (first | (with_reducible first | exact HI276.out | apply IsS61.alloc | apply IsS61.drewN | apply IsS61.drew | apply IsS61.set_1 | refine IsS61.far ?_ NB276_273.out _ | refine IsS61.far ?_ NB276_287.out _) | exact HI276.out)) (R_mv HO284.out) (by decide)) hk (fun _ h => h.2)) (fun _ h => h.1)); replace BK287 := aM (KeepBut.blk hk (g' := gb287) (o := .cells #[.slice (some ad289) t279.length co78, .slice Ao82 t282.length co82, .int .i64 t285] 28 (0, 0)) (by (with_reducible repeat (first | refine kN ?_ _ | refine kD ?_ | refine kA ?_ _)); exact BK287.out) NB287_276.out (by simp)); replace HB := aM (hb); replace HI276 := aM (hi); (try clear hb); (try clear hb2); (try clear hge); (try clear hk); (try clear hi); have p72 : 0 ≤ (t288 : Int) := of_decide_eq_true (by first | (with_reducible assumption) | assumption); have q72 : (t288 : Int) < ((t279.length : Int) : Int) := of_decide_eq_true (by first | (with_reducible assumption) | assumption); obtain ⟨go72, co72, eo72, gb72, gl72, cl72, HG72⟩ := Kd.R_form HO281.out (by omega); (first | cases eo72 | (injection eo72 with ea_ en_ ec_; (first | subst ea_ | (injection ea_ with ea_; subst ea_)); subst ec_; clear en_)); have GB72 := aM gb72; have GG72 := aM HG72; clear gb72 gl72 HG72; (first | simp only [add_plain] at hx289_0 | skip); (first | simp only [add_plain] at hx289_1 | skip); (first | simp only [add_plain] at hx289_2 | skip); (first | simp only [add_plain] at hx289_3 | skip); (first | simp only [add_plain] at hx289_4 | skip); obtain ⟨ce72, hcl72, hM72, hcc72, hfr72⟩ := Kd.R_elem HO281.out z32 (t288 : Int) p72 q72; obtain rfl := k32_openM hM72; have hx72_0 : w85.cell? ⟨go72, (t288 : Int).toNat * 5, none⟩ = some (.int .i64 ((rd_T32 t279 t288).f0)) := hcc72 0 _ rfl; have hx72_1 : w85.cell? ⟨go72, (t288 : Int).toNat * 5 + 1, none⟩ = some (.int .i64 ((rd_T32 t279 t288).f1)) := hcc72 1 _ rfl; have hx72_2 : w85.cell? ⟨go72, (t288 : Int).toNat * 5 + 2, none⟩ = some (.int .i64 ((rd_T32 t279 t288).f2)) := hcc72 2 _ rfl; have hx72_3 : w85.cell? ⟨go72, (t288 : Int).toNat * 5 + 3, none⟩ = some (.bool ((rd_T32 t279 t288).f3)) := hcc72 3 _ rfl; have hx72_4 : w85.cell? ⟨go72, (t288 : Int).toNat * 5 + 4, none⟩ = some (.bool ((rd_T32 t279 t288).f4)) := hcc72 4 _ rfl; have hf72_0 : w85.frozen? ⟨go72, (t288 : Int).toNat * 5, none⟩ = false := hfr72 0; have hf72_1 : w85.frozen? ⟨go72, (t288 : Int).toNat * 5 + 1, none⟩ = false := hfr72 1; have hf72_2 : w85.frozen? ⟨go72, (t288 : Int).toNat * 5 + 2, none⟩ = false := hfr72 2; have hf72_3 : w85.frozen? ⟨go72, (t288 : Int).toNat * 5 + 3, none⟩ = false := hfr72 3; have hf72_4 : w85.frozen? ⟨go72, (t288 : Int).toNat * 5 + 4, none⟩ = false := hfr72 4; clear hcl72 hcc72 hfr72 hM72; replace p72 := eq_true p72; replace q72 := eq_true q72; have HX86 := aM (show Kd.R k32 32 w85 w.heap.size (fun _ => True) (.slice (some ⟨go72, 0, none⟩) t279.length co78) t279 from (R_mv HO281.out)); obtain ⟨ce86, hcl86, hM86, hcc86, hfr86⟩ := Kd.R_elem HX86.out z32 (t288 : Int) (of_decide_eq_true (by first | (with_reducible assumption) | assumption)) (by have h_ : (t288 : Int) < ((t279.length : Int) : Int) := of_decide_eq_true (by first | (with_reducible assumption) | assumption); first | exact h_ | (have e_ := (Kd.R_reads' HO281.out).1; omega) | simpa using h_); obtain rfl := k32_openM hM86; have HP86 := Kd.R_seg HX86.out (t288 : Int) (of_decide_eq_true (by first | (with_reducible assumption) | assumption)) (by have h_ : (t288 : Int) < ((t279.length : Int) : Int) := of_decide_eq_true (by first | (with_reducible assumption) | assumption); first | exact h_ | (have e_ := (Kd.R_reads' HO281.out).1; omega) | simpa using h_) (seg := [.bool true]) (j := 4) hcl86 hcc86 (show 5 ≤ 5 from by decide) (x' := (⟨(rd_T32 t279 t288).f0, (rd_T32 t279 t288).f1, (rd_T32 t279 t288).f2, (rd_T32 t279 t288).f3, true⟩ : S32)) (k32_mkM _ _ _ (⟨(rd_T32 t279 t288).f0, (rd_T32 t279 t288).f1, (rd_T32 t279 t288).f2, (rd_T32 t279 t288).f3, true⟩ : S32) ) (fun _ hk => hk); have hx86_4 := hcc86 4 _ rfl; (try simp only [show (k32).sz = 5 from rfl, Nat.mul_one, Nat.add_zero] at hx86_4); have hf86_4 := hfr86 4; (try simp only [show (k32).sz = 5 from rfl, Nat.mul_one, Nat.add_zero] at hf86_4); clear hcl86 hcc86 hfr86 hM86) | ((with_reducible refine gate_store (t := 4) (p := 48) rfl ?_); refine store_event (t := 4) (p := 48) (v := ?vo_w87) (w1 := (w85.setCell ⟨go72, (t288 : Int).toNat * 5 + 4, none⟩ (.bool true))) ?hg ?ho ?hn ?hr ?_; (case ho => rfl); (case hg => rfl); (case hn => rfl); (case hr => first | (go_simp; done) | (go_simp; rfl)); intro w87 hw; have hg : w85.grownBy w87 (some go72) := (by rw [hw]; exact HP86.2); have hp_ : Kd.R k32 32 w87 w.heap.size (fun _ => True) (.slice (some ⟨go72, 0, none⟩) t279.length co78) y295 := (by rw [hw, Ny295.out]; exact HP86.1); clear HP86; replace BK273 := aM (blk_grown (blk_mv BK273.out) hg (Kd.R_ne HO281.out BK273.out (by decide))); replace HI276 := aM (IsS61.grown (by repeat (first | (with_reducible first | exact HI276.out | apply IsS61.alloc | apply IsS61.drewN | apply IsS61.drew | apply IsS61.set_1 | refine IsS61.far ?_ NB276_273.out _ | refine IsS61.far ?_ NB276_287.out _) | exact HI276.out)) hg (IsS61.own_ne HI276.out HO281.out (by decide))); replace HO284 := aM (Kd.R_over' (v := (.slice (some ⟨go72, 0, none⟩) t279.length co78)) (R_mv HO284.out) (Kd.R_typed HO281.out) (by decide) hg); replace BK287 := aM (blk_grown (blk_mv BK287.out) hg (Kd.R_ne HO281.out BK287.out (by decide))); replace HO281 := aM (hp_); replace HB := aM ((by rw [hw]; exact below_set (HB.out) GB72.out : Below w.heap.size w w87)); clear hg hw hp_; obtain ⟨hcz88_0, hcz88_1, hcz88_2, hfz88_0, hfz88_1, hfz88_2⟩ := blk3 BK287.out; have hnb89 := NB273_276.out; have hnc89 := NB276_273.out; obtain ⟨hcz90_0, hcz90_1, hcz90_2, hfz90_0, hfz90_1, hfz90_2⟩ := blk3 BK273.out))
  refine bodyPost_ret (results_cell_row rfl _ _ gb273 28 #[.slice (some ⟨go72, 0, none⟩) t279.length co78, .slice Ao82 t282.length co82, .int .i64 t285] (0, 0) _ rfl (by (with_reducible repeat (first | refine kN ?_ _ | refine kD ?_ | refine kA ?_ _)); refine blk_put (cs := #[.slice (some ⟨go72, 0, none⟩) t279.length co78, .slice Ao82 t282.length co82, .int .i64 0]) ?_ 2 _ rfl; (with_reducible repeat (first | refine kN ?_ _ | refine kD ?_ | refine kA ?_ _)); refine blk_put (cs := #[.slice (some ⟨go72, 0, none⟩) t279.length co78, .slice none 0 0, .int .i64 0]) ?_ 1 _ rfl; (with_reducible repeat (first | refine kN ?_ _ | refine kD ?_ | refine kA ?_ _)); refine blk_put (cs := #[.slice none 0 0, .slice none 0 0, .int .i64 0]) ?_ 0 _ rfl; (with_reducible repeat (first | refine kN ?_ _ | refine kD ?_ | refine kA ?_ _)); exact BK273.out) Try.underlying28 rfl (by kernel_rfl)) rfl ?_
  exact ⟨_, _, by first | rfl | (simp [errW_none, errW_some] <;> rfl) | (simp [*, errW_none, errW_some] <;> rfl), by (with_reducible repeat (first | apply Kd.R_alloc | apply Kd.R_drewN | apply Kd.R_drew)); exact Kd.R_mono (Kd.R_far (p := ⟨gb273, 2, none⟩) (Kd.R_far (p := ⟨gb273, 1, none⟩) (Kd.R_far (p := ⟨gb273, 0, none⟩) (Kd.R_types HO281.out BK273.out (by decide)) (fun _ hk => hk.2) (.slice (some ⟨go72, 0, none⟩) t279.length co78)) (fun _ hk => hk.2) (.slice Ao82 t282.length co82)) (fun _ hk => hk.2) (.int .i64 t285)) (fun _ hk => trivial), by (with_reducible repeat (first | apply Kd.R_alloc | apply Kd.R_drewN | apply Kd.R_drew)); exact Kd.R_mono (Kd.R_far (p := ⟨gb273, 2, none⟩) (Kd.R_far (p := ⟨gb273, 1, none⟩) (Kd.R_far (p := ⟨gb273, 0, none⟩) (Kd.R_types HO284.out BK273.out (by decide)) (fun _ hk => hk.2) (.slice (some ⟨go72, 0, none⟩) t279.length co78)) (fun _ hk => hk.2) (.slice Ao82 t282.length co82)) (fun _ hk => hk.2) (.int .i64 t285)) (fun _ hk => trivial), by repeat (first | (with_reducible first | exact HB.out | apply bA | apply bN | apply bD | refine below_set ?_ (IsS61.ge HI276.out) | refine below_set ?_ GE273.out | refine below_set ?_ GE287.out) | exact HB.out)⟩
 rw [if_neg c71] at H
 have c71b0 : (t290 == 4) = false := beq_eq_false_iff_ne.mpr c71
 have c71b1 : (t290 != 4) = true := bne_iff_ne.mpr c71
 by_cases c91 : t290 = 5
 ·
  rw [if_pos c91] at H
  have c91b0 : (t290 == 5) = true := beq_iff_eq.mpr c91
  have c91b1 : (t290 != 5) = false := bne_eq_false_iff_eq.mpr c91
  clear c91
  simp only [Option.some.injEq, Prod.mk.injEq] at H
  obtain ⟨rfl, rfl, rfl⟩ := H
  go_enter Try.func28, Try.ntmps28
  try go_wp2_with (first | ((with_reducible refine gate_dst (N := 6) rfl ?_); refine box_event ?hg (N := 6) ?hd (cs := #[.slice none 0 0, .slice none 0 0, .int .i64 0]) (t := 28) ?hr ?_; (case hd => rfl); (case hg => rfl); (case hr => first | (go_simp; done) | (go_simp; rfl)); intro gb273 hg w92 hbox hb; have BK273 := aM (hbox); have GW273 := aM ((by rw [hg]; exact (below_size (below_mv HB.out)) : w.heap.size ≤ gb273)); have GE273 := aM ((by rw [hg]; exact (below_size (below_mv HB.out)) : w.heap.size ≤ gb273)); replace HB := aM (below_step (below_mv HB.out) hb); clear hb hbox hg) | ((with_reducible refine gate_callee (f := 9) rfl ?_); refine goesL_ (some 11) rfl rfl Try.func9 (by kernel_rfl) rfl #[.slice A0 l0.length c0] rfl (by first | rfl | (simp only [List.map_toArray, List.map_cons, List.map_nil, List.length_drop, List.length_take]; rfl)) ?_; (with_reducible refine (minecontroldraw_New.calls _ _ l0 t274 t275 w _ ?side1 ?side2 ?side3 A4.out).mono ?_); (case side1 => repeat (first | (with_reducible first | exact HB.out | apply bA | apply bN | apply bD | refine below_set ?_ GE273.out) | exact HB.out)); (case side2 => exact HR0.out); (case side3 => exact HC0.out); rintro e w93 ⟨g276, rfl, hi, hb, hb2, hge⟩; refine ⟨_, rfl, ?_⟩; replace HB := aM (hb); have HI276 := aM (hi); have NB276_273 := aM (IsS61.ne_blk hi (blk_below (blk_mv BK273.out) hb2) (by decide)); have NB273_276 := aM (Ne.symm (IsS61.ne_blk hi (blk_below (blk_mv BK273.out) hb2) (by decide))); replace BK273 := aM (blk_below (blk_mv BK273.out) hb2); (try clear hb); (try clear hb2); (try clear hge); (try clear hk); (try clear hi)) | ((with_reducible refine gate_callee (f := 11) rfl ?_); refine goesL_ (some 14) rfl rfl Try.func11 (by kernel_rfl) rfl #[.pointer (some ⟨g276, 0, none⟩), .int .i64 4] rfl (by first | rfl | (simp only [List.map_toArray, List.map_cons, List.map_nil, List.length_drop, List.length_take]; rfl)) ?_; (with_reducible refine (minecontroldraw_Codes_Next.calls k g276 t274 t275 4 t277 t278 w _ ?side1 ?side2 A5.out).mono ?_); (case side1 => repeat (first | (with_reducible first | exact HI276.out | apply IsS61.alloc | apply IsS61.drewN | apply IsS61.drew | apply IsS61.set_1 | refine IsS61.far ?_ NB276_273.out _) | exact HI276.out)); (case side2 => repeat (first | (with_reducible first | exact HB.out | apply bA | apply bN | apply bD | refine below_set ?_ (IsS61.ge HI276.out) | refine below_set ?_ GE273.out) | exact HB.out)); rintro e w94 ⟨rfl, hi, hb, hk⟩; refine ⟨_, rfl, ?_⟩; replace BK273 := aM (KeepBut.blk hk (g' := gb273) (o := .cells #[.slice none 0 0, .slice none 0 0, .int .i64 0] 28 (0, 0)) (by (with_reducible repeat (first | refine kN ?_ _ | refine kD ?_ | refine kA ?_ _)); exact BK273.out) NB273_276.out (by simp)); replace HB := aM (hb); replace HI276 := aM (hi); (try clear hb); (try clear hb2); (try clear hge); (try clear hk); (try clear hi)) | ((with_reducible refine gate_callee (f := 10) rfl ?_); refine goesL_ (some 15) rfl rfl Try.func10 (by kernel_rfl) rfl #[.pointer (some ⟨g276, 0, none⟩), .int .i64 t277] rfl (by first | rfl | (simp only [List.map_toArray, List.map_cons, List.map_nil, List.length_drop, List.length_take]; rfl)) ?_; (with_reducible refine (minecontroldraw_Codes_Feeder.calls k g276 t274 t278 t277 t279 t282 t285 t286 w _ ?side1 ?side2 A6.out).mono ?_); (case side1 => repeat (first | (with_reducible first | exact HI276.out | apply IsS61.alloc | apply IsS61.drewN | apply IsS61.drew | apply IsS61.set_1 | refine IsS61.far ?_ NB276_273.out _) | exact HI276.out)); (case side2 => repeat (first | (with_reducible first | exact HB.out | apply bA | apply bN | apply bD | refine below_set ?_ (IsS61.ge HI276.out) | refine below_set ?_ GE273.out) | exact HB.out)); rintro e w95 ⟨v280, v283, rfl, ho0, ho1, hi, hb, hk⟩; refine ⟨_, rfl, ?_⟩; replace BK273 := aM (KeepBut.blk hk (g' := gb273) (o := .cells #[.slice none 0 0, .slice none 0 0, .int .i64 0] 28 (0, 0)) (by (with_reducible repeat (first | refine kN ?_ _ | refine kD ?_ | refine kA ?_ _)); exact BK273.out) NB273_276.out (by simp)); have HO281 := aM (Kd.R_lower ho0 (below_size (by repeat (first | (with_reducible first | exact HB.out | apply bA | apply bN | apply bD | refine below_set ?_ (IsS61.ge HI276.out) | refine below_set ?_ GE273.out) | exact HB.out)))); have HO284 := aM (Kd.R_lower ho1 (below_size (by repeat (first | (with_reducible first | exact HB.out | apply bA | apply bN | apply bD | refine below_set ?_ (IsS61.ge HI276.out) | refine below_set ?_ GE273.out) | exact HB.out)))); replace HB := aM (hb); replace HI276 := aM (hi); (try clear hb); (try clear hb2); (try clear hge); (try clear hk); (try clear hi); (try clear ho0); (try clear ho1)) | ((with_reducible refine gate_dst (N := 8) rfl ?_); refine box_event ?hg (N := 8) ?hd (cs := #[.slice none 0 0, .slice none 0 0, .int .i64 0]) (t := 28) ?hr ?_; (case hd => rfl); (case hg => rfl); (case hr => first | (go_simp; done) | (go_simp; rfl)); intro gb287 hg w96 hbox hb; replace HO281 := aM (Kd.R_below (R_mv HO281.out) hb); replace HO284 := aM (Kd.R_below (R_mv HO284.out) hb); have BK287 := aM (hbox); have GW287 := aM ((by rw [hg]; exact (below_size (by repeat (first | (with_reducible first | exact HB.out | apply bA | apply bN | apply bD | refine below_set ?_ (IsS61.ge HI276.out) | refine below_set ?_ GE273.out) | exact HB.out))) : w.heap.size ≤ gb287)); have GE287 := aM ((by rw [hg]; exact (below_size (by repeat (first | (with_reducible first | exact HB.out | apply bA | apply bN | apply bD | refine below_set ?_ (IsS61.ge HI276.out) | refine below_set ?_ GE273.out) | exact HB.out))) : w.heap.size ≤ gb287)); replace HB := aM (below_step (by repeat (first | (with_reducible first | exact HB.out | apply bA | apply bN | apply bD | refine below_set ?_ (IsS61.ge HI276.out) | refine below_set ?_ GE273.out) | exact HB.out)) hb); have NB273_287 := aM ((by rw [hg]; exact Nat.ne_of_lt (blk_lt (blk_mv BK273.out)) : gb273 ≠ gb287)); have NB287_273 := aM ((by rw [hg]; exact Nat.ne_of_gt (blk_lt (blk_mv BK273.out)) : gb287 ≠ gb273)); replace BK273 := aM (blk_below (blk_mv BK273.out) hb); have NB276_287 := aM ((by rw [hg]; exact Nat.ne_of_lt (IsS61.lt (show IsS61 w _ g276 t274 t286 from by repeat (first | (with_reducible first | exact HI276.out | apply IsS61.alloc | apply IsS61.drewN | apply IsS61.drew | apply IsS61.set_1 | refine IsS61.far ?_ NB276_273.out _) | exact HI276.out))) : g276 ≠ gb287)); have NB287_276 := aM ((by rw [hg]; exact Nat.ne_of_gt (IsS61.lt (show IsS61 w _ g276 t274 t286 from by repeat (first | (with_reducible first | exact HI276.out | apply IsS61.alloc | apply IsS61.drewN | apply IsS61.drew | apply IsS61.set_1 | refine IsS61.far ?_ NB276_273.out _) | exact HI276.out))) : gb287 ≠ g276)); replace HI276 := aM (IsS61.below (by repeat (first | (with_reducible first | exact HI276.out | apply IsS61.alloc | apply IsS61.drewN | apply IsS61.drew | apply IsS61.set_1 | refine IsS61.far ?_ NB276_273.out _) | exact HI276.out)) hb); clear hb hbox hg; obtain ⟨Ao97, co97, eo97⟩ := Kd.R_slice HO281.out; subst eo97; have hnb98 := NB287_273.out; have hnc98 := NB273_287.out; have hnb99 := NB287_276.out; have hnc99 := NB276_287.out; obtain ⟨hcz100_0, hcz100_1, hcz100_2, hfz100_0, hfz100_1, hfz100_2⟩ := blk3 BK287.out; obtain ⟨Ao101, co101, eo101⟩ := Kd.R_slice HO284.out; subst eo101))
  have n0_ : Aside0 (Kd.R k32 32 (((w96.setCell ⟨gb287, 0, none⟩ (.slice Ao97 t279.length co97)).setCell ⟨gb287, 1, none⟩ (.slice Ao101 t282.length co101)).setCell ⟨gb287, 2, none⟩ (.int .i64 t285)) w.heap.size (fun _ => True) (.slice Ao97 t279.length co97) t279) := ⟨by (with_reducible repeat (first | apply Kd.R_alloc | apply Kd.R_drewN | apply Kd.R_drew)); exact Kd.R_mono (Kd.R_far (p := ⟨gb287, 2, none⟩) (Kd.R_far (p := ⟨gb287, 1, none⟩) (Kd.R_far (p := ⟨gb287, 0, none⟩) (Kd.R_types HO281.out BK287.out (by decide)) (fun _ hk => hk.2) (.slice Ao97 t279.length co97)) (fun _ hk => hk.2) (.slice Ao101 t282.length co101)) (fun _ hk => hk.2) (.int .i64 t285)) (fun _ hk => trivial)⟩
  have n1_ : Aside0 (Kd.R (Kd.int .i64) 3 (((w96.setCell ⟨gb287, 0, none⟩ (.slice Ao97 t279.length co97)).setCell ⟨gb287, 1, none⟩ (.slice Ao101 t282.length co101)).setCell ⟨gb287, 2, none⟩ (.int .i64 t285)) w.heap.size (fun _ => True) (.slice Ao101 t282.length co101) t282) := ⟨by (with_reducible repeat (first | apply Kd.R_alloc | apply Kd.R_drewN | apply Kd.R_drew)); exact Kd.R_mono (Kd.R_far (p := ⟨gb287, 2, none⟩) (Kd.R_far (p := ⟨gb287, 1, none⟩) (Kd.R_far (p := ⟨gb287, 0, none⟩) (Kd.R_types HO284.out BK287.out (by decide)) (fun _ hk => hk.2) (.slice Ao97 t279.length co97)) (fun _ hk => hk.2) (.slice Ao101 t282.length co101)) (fun _ hk => hk.2) (.int .i64 t285)) (fun _ hk => trivial)⟩
  have n2_ : Aside0 ((((w96.setCell ⟨gb287, 0, none⟩ (.slice Ao97 t279.length co97)).setCell ⟨gb287, 1, none⟩ (.slice Ao101 t282.length co101)).setCell ⟨gb287, 2, none⟩ (.int .i64 t285)).heap[gb273]? = some (.cells #[.slice none 0 0, .slice none 0 0, .int .i64 0] 28 (0, 0))) := ⟨by (with_reducible repeat (first | refine kN ?_ _ | refine kD ?_ | refine kA ?_ _)); refine blk_far ?_ NB273_287.out _; (with_reducible repeat (first | refine kN ?_ _ | refine kD ?_ | refine kA ?_ _)); refine blk_far ?_ NB273_287.out _; (with_reducible repeat (first | refine kN ?_ _ | refine kD ?_ | refine kA ?_ _)); refine blk_far ?_ NB273_287.out _; (with_reducible repeat (first | refine kN ?_ _ | refine kD ?_ | refine kA ?_ _)); exact BK273.out⟩
  have n3_ : Aside0 ((((w96.setCell ⟨gb287, 0, none⟩ (.slice Ao97 t279.length co97)).setCell ⟨gb287, 1, none⟩ (.slice Ao101 t282.length co101)).setCell ⟨gb287, 2, none⟩ (.int .i64 t285)).heap[gb287]? = some (.cells #[.slice Ao97 t279.length co97, .slice Ao101 t282.length co101, .int .i64 t285] 28 (0, 0))) := ⟨by (with_reducible repeat (first | refine kN ?_ _ | refine kD ?_ | refine kA ?_ _)); refine blk_put (cs := #[.slice Ao97 t279.length co97, .slice Ao101 t282.length co101, .int .i64 0]) ?_ 2 _ rfl; (with_reducible repeat (first | refine kN ?_ _ | refine kD ?_ | refine kA ?_ _)); refine blk_put (cs := #[.slice Ao97 t279.length co97, .slice none 0 0, .int .i64 0]) ?_ 1 _ rfl; (with_reducible repeat (first | refine kN ?_ _ | refine kD ?_ | refine kA ?_ _)); refine blk_put (cs := #[.slice none 0 0, .slice none 0 0, .int .i64 0]) ?_ 0 _ rfl; (with_reducible repeat (first | refine kN ?_ _ | refine kD ?_ | refine kA ?_ _)); exact BK287.out⟩
  have n4_ : Aside0 (IsS61 w (((w96.setCell ⟨gb287, 0, none⟩ (.slice Ao97 t279.length co97)).setCell ⟨gb287, 1, none⟩ (.slice Ao101 t282.length co101)).setCell ⟨gb287, 2, none⟩ (.int .i64 t285)) g276 t274 t286) := ⟨by repeat (first | (with_reducible first | exact HI276.out | apply IsS61.alloc | apply IsS61.drewN | apply IsS61.drew | apply IsS61.set_1 | refine IsS61.far ?_ NB276_273.out _ | refine IsS61.far ?_ NB276_287.out _) | exact HI276.out)⟩
  have n5_ : Aside0 (Below w.heap.size w (((w96.setCell ⟨gb287, 0, none⟩ (.slice Ao97 t279.length co97)).setCell ⟨gb287, 1, none⟩ (.slice Ao101 t282.length co101)).setCell ⟨gb287, 2, none⟩ (.int .i64 t285))) := ⟨by repeat (first | (with_reducible first | exact HB.out | apply bA | apply bN | apply bD | refine below_set ?_ (IsS61.ge HI276.out) | refine below_set ?_ GE273.out | refine below_set ?_ GE287.out) | exact HB.out)⟩
  (try clear HO281)
  (try clear HO284)
  (try clear BK273)
  (try clear BK287)
  (try clear HI276)
  (try clear HB)
  generalize (((w96.setCell ⟨gb287, 0, none⟩ (.slice Ao97 t279.length co97)).setCell ⟨gb287, 1, none⟩ (.slice Ao101 t282.length co101)).setCell ⟨gb287, 2, none⟩ (.int .i64 t285)) = w102 at n0_ n1_ n2_ n3_ n4_ n5_ ⊢
  have HO281 := n0_
  have HO284 := n1_
  have BK273 := n2_
  have BK287 := n3_
  have HI276 := n4_
  have HB := n5_
  clear n0_ n1_ n2_ n3_ n4_ n5_
  replace HO281 := aM (Kd.R_drew HO281.out)
  replace HO284 := aM (Kd.R_drew HO284.out)
  replace BK273 := aM (blk_drew BK273.out)
  replace BK287 := aM (blk_drew BK287.out)
  replace HI276 := aM (IsS61.drew HI276.out)
  replace HB := aM (below_drew1 HB.out)
  have p289 : 0 ≤ (t288 : Int) := of_decide_eq_true (by first | (with_reducible assumption) | assumption)
  have q289 : t288 < (t279.length : Int) := of_decide_eq_true (by first | (with_reducible assumption) | assumption)
  obtain ⟨ad289, e289, hx289_0, hx289_1, hx289_2, hx289_3, hx289_4⟩ := at_T32 (Kd.R_reads' HO281.out).2.2 t288 p289 q289
  cases e289
  replace p289 := eq_true p289
  replace q289 := eq_true q289
  refine start_ (n := 9) (S := fun w' => w'.cell? ⟨gb287, 0, none⟩ = some (.slice (some ad289) t279.length co97) ∧ w'.cell? ⟨gb287, 1, none⟩ = some (.slice Ao101 t282.length co101) ∧ w'.cell? ⟨gb287, 2, none⟩ = some (.int .i64 t285) ∧ w'.cell? (ad289.add ((t288).toNat * 5)) = some (.int .i64 ((rd_T32 t279 t288).f0)) ∧ w'.cell? ⟨(ad289.add ((t288).toNat * 5)).block, (ad289.add ((t288).toNat * 5)).off + 1, none⟩ = some (.int .i64 ((rd_T32 t279 t288).f1)) ∧ w'.cell? ⟨(ad289.add ((t288).toNat * 5)).block, (ad289.add ((t288).toNat * 5)).off + 2, none⟩ = some (.int .i64 ((rd_T32 t279 t288).f2)) ∧ w'.cell? ⟨(ad289.add ((t288).toNat * 5)).block, (ad289.add ((t288).toNat * 5)).off + 3, none⟩ = some (.bool ((rd_T32 t279 t288).f3)) ∧ w'.cell? ⟨(ad289.add ((t288).toNat * 5)).block, (ad289.add ((t288).toNat * 5)).off + 4, none⟩ = some (.bool ((rd_T32 t279 t288).f4))) (ds := []) #[false, false, false, false, false, false, false, false, false] (by kernel_rfl) rfl rfl ⟨(blk_cell BK287.out 0).trans rfl, (blk_cell BK287.out 1).trans rfl, (blk_cell BK287.out 2).trans rfl, hx289_0, hx289_1, hx289_2, hx289_3, hx289_4⟩ (fun hHeld => ?_); refine with_tabW minecontrollaw18_made.tab3 minecontrollaw18_made.bits3 (fun HT_ HW_ => ?_)
  generalize w102.drew = w103 at HO281 HO284 BK273 BK287 HI276 HB hx289_0 hx289_1 hx289_2 hx289_3 hx289_4 hHeld ⊢
  refine pure_ (i := 0) (N := some 16) (v := ?_) (a' := ?_) #[true, false, false, false, false, false, false, false, false] rfl rfl (any_of HT_.out (by kernel_rfl)) (fun _ _ _ h => h) (Or.inl ⟨by rfl, ?_⟩) ?_ ?_
  rotate_left
  ·
   intro w'
   go_simp
   with_reducible rfl
  rotate_left
  ·
   simp only [Act.put, sT, sZ, sS, i64_w, i32_w]
   rfl
  refine pure_ (i := 2) (N := some 18) (v := ?_) (a' := ?_) #[true, false, true, false, false, false, false, false, false] rfl rfl (any_of HT_.out (by kernel_rfl)) (fun _ _ _ h => h) (Or.inl ⟨by rfl, ?_⟩) ?_ ?_
  rotate_left
  ·
   intro w'
   go_simp
   with_reducible rfl
  rotate_left
  ·
   simp only [Act.put, sT, sZ, sS, i64_w, i32_w]
   rfl
  refine pure_ (i := 3) (N := some 19) (v := ?_) (a' := ?_) #[true, false, true, true, false, false, false, false, false] rfl rfl (any_of HT_.out (by kernel_rfl)) (fun _ _ _ h => h) (Or.inl ⟨by rfl, ?_⟩) ?_ ?_
  rotate_left
  ·
   intro w'
   go_simp
   with_reducible rfl
  rotate_left
  ·
   simp only [Act.put, sT, sZ, sS, i64_w, i32_w]
   rfl
  refine take_ (i := 1) (N := some 17) (v := ?_) (a' := ?_) #[true, true, true, true, false, false, false, false, false] rfl rfl (take_ofW HT_.out HW_.out (by kernel_rfl)) (fun _ _ _ h => h) (Or.inl ⟨by rfl, ?_⟩) hHeld ?_ ?_
  rotate_left
  ·
   rintro w' ⟨s0, s1, s2, s3, s4, s5, s6, s7⟩
   go_simp
   with_reducible rfl
  rotate_left
  ·
   simp only [Act.put, sT, sZ, sS, i64_w, i32_w]
   rfl
  refine take_ (i := 4) (N := some 20) (v := ?_) (a' := ?_) #[true, true, true, true, true, false, false, false, false] rfl rfl (take_ofW HT_.out HW_.out (by kernel_rfl)) (fun _ _ _ h => h) (Or.inl ⟨by rfl, ?_⟩) hHeld ?_ ?_
  rotate_left
  ·
   rintro w' ⟨s0, s1, s2, s3, s4, s5, s6, s7⟩
   go_simp
   with_reducible rfl
  rotate_left
  ·
   simp only [Act.put, sT, sZ, sS, i64_w, i32_w]
   rfl
  refine pure_ (i := 5) (N := some 21) (v := ?_) (a' := ?_) #[true, true, true, true, true, true, false, false, false] rfl rfl (any_of HT_.out (by kernel_rfl)) (fun _ _ _ h => h) (Or.inl ⟨by rfl, ?_⟩) ?_ ?_
  rotate_left
  ·
   intro w'
   go_simp
   with_reducible rfl
  rotate_left
  ·
   simp only [Act.put, sT, sZ, sS, i64_w, i32_w]
   rfl
  refine one_ (i := 6) (N := some 22) #[true, true, true, true, true, true, true, false, false] rfl rfl (one_of HT_.out (by kernel_rfl)) (by decide) (fun K hK => ?_)
  refine goes_ Try.func12 (by kernel_rfl) rfl #[.int .i64 a1, .int .i64 (t279.length : Int)] (by rfl) rfl rfl (by first | rfl | (simp only [List.map_toArray, List.map_cons, List.map_nil, List.length_drop, List.length_take]; rfl)) ?_
  with_reducible refine (minecontroldraw_Mod.calls a1 (t279.length : Int) t288 _ A7.out).mono ?_
  rintro e w' ⟨rfl, ⟨nd, rfl⟩⟩
  refine ⟨_, rfl, ?_⟩
  refine hK.out _ _ ⟨(blk_cell BK287.out 0).trans rfl, (blk_cell BK287.out 1).trans rfl, (blk_cell BK287.out 2).trans rfl, hHeld.2.2.2.1, hHeld.2.2.2.2.1, hHeld.2.2.2.2.2.1, hHeld.2.2.2.2.2.2.1, hHeld.2.2.2.2.2.2.2⟩ (fun hHeld => ?_)
  clear hK K
  refine norm_ (a' := ?_) ?_ ?_
  rotate_left
  ·
   show Act.put _ (some 22) _ = _
   simp only [Act.put, sT, sZ, sS, i64_w, i32_w]
   rfl
  refine pure_ (i := 7) (N := some 23) (v := ?_) (a' := ?_) #[true, true, true, true, true, true, true, true, false] rfl rfl (any_of HT_.out (by kernel_rfl)) (fun _ _ _ h => h) (Or.inl ⟨by rfl, ?_⟩) ?_ ?_
  rotate_left
  ·
   intro w'
   go_simp
   with_reducible rfl
  rotate_left
  ·
   simp only [Act.put, sT, sZ, sS, i64_w, i32_w]
   rfl
  refine pure_ (i := 8) (N := some 9) (v := ?_) (a' := ?_) #[true, true, true, true, true, true, true, true, true] rfl rfl (any_of HT_.out (by kernel_rfl)) (fun _ _ _ h => h) (Or.inl ⟨by rfl, ?_⟩) ?_ ?_
  rotate_left
  ·
   intro w'
   go_simp
   with_reducible rfl
  rotate_left
  ·
   simp only [Act.put, sT, sZ, sS, i64_w, i32_w]
   rfl
  refine done_ (done_of HT_.out (by kernel_rfl)) ?_
  try go_wp2_with (first | ((with_reducible refine gate_callee (f := 11) rfl ?_); refine goesL_ (some 25) rfl rfl Try.func11 (by kernel_rfl) rfl #[.pointer (some ⟨g276, 0, none⟩), .int .i64 12] rfl (by first | rfl | (simp only [List.map_toArray, List.map_cons, List.map_nil, List.length_drop, List.length_take]; rfl)) ?_; (with_reducible refine (minecontroldraw_Codes_Next.calls k g276 t274 t286 12 t290 t291 w _ ?side1 ?side2 A10.out).mono ?_); (case side1 => repeat (first | (with_reducible first | exact HI276.out | apply IsS61.alloc | apply IsS61.drewN | apply IsS61.drew | apply IsS61.set_1 | refine IsS61.far ?_ NB276_273.out _ | refine IsS61.far ?_ NB276_287.out _) | exact HI276.out)); (case side2 => repeat (first | (with_reducible first | exact HB.out | apply bA | apply bN | apply bD | refine below_set ?_ (IsS61.ge HI276.out) | refine below_set ?_ GE273.out | refine below_set ?_ GE287.out) | exact HB.out)); rintro e w104 ⟨rfl, hi, hb, hk⟩; refine ⟨_, rfl, ?_⟩; replace BK273 := aM (KeepBut.blk hk (g' := gb273) (o := .cells #[.slice none 0 0, .slice none 0 0, .int .i64 0] 28 (0, 0)) (by (with_reducible repeat (first | refine kN ?_ _ | refine kD ?_ | refine kA ?_ _)); exact BK273.out) NB273_276.out (by simp)); replace HO281 := aM (Kd.R_mono (Kd.R_keep (IsS61.apart (show IsS61 w _ g276 t274 t286 from by repeat (first | (with_reducible first | exact HI276.out | apply IsS61.alloc | apply IsS61.drewN | apply IsS61.drew | apply IsS61.set_1 | refine IsS61.far ?_ NB276_273.out _ | refine IsS61.far ?_ NB276_287.out _) | exact HI276.out)) (R_mv HO281.out) (by decide)) hk (fun _ h => h.2)) (fun _ h => h.1)); replace HO284 := aM (Kd.R_mono (Kd.R_keep (IsS61.apart (show IsS61 w _ g276 t274 t286 from by repeat (first | (with_reducible first | exact HI276.out | apply IsS61.alloc | apply IsS61.drewN | apply IsS61.drew | apply IsS61.set_1 | refine IsS61.far ?_ NB276_273.out _ | refine IsS61.far ?_ NB276_287.out _) | exact HI276.out)) (R_mv HO284.out) (by decide)) hk (fun _ h => h.2)) (fun _ h => h.1)); replace BK287 := aM (KeepBut.blk hk (g' := gb287) (o := .cells #[.slice (some ad289) t279.length co97, .slice Ao101 t282.length co101, .int .i64 t285] 28 (0, 0)) (by (with_reducible repeat (first | refine kN ?_ _ | refine kD ?_ | refine kA ?_ _)); exact BK287.out) NB287_276.out (by simp)); replace HB := aM (hb); replace HI276 := aM (hi); (try clear hb); (try clear hb2); (try clear hge); (try clear hk); (try clear hi); obtain ⟨hcz105_0, hcz105_1, hcz105_2, hfz105_0, hfz105_1, hfz105_2⟩ := blk3 BK287.out; have hnb106 := NB273_276.out; have hnc106 := NB276_273.out; obtain ⟨hcz107_0, hcz107_1, hcz107_2, hfz107_0, hfz107_1, hfz107_2⟩ := blk3 BK273.out))
  refine bodyPost_ret (results_cell_row rfl _ _ gb273 28 #[.slice (some ad289) t279.length co97, .slice Ao101 t282.length co101, .int .i64 a2] (0, 0) _ rfl (by (with_reducible repeat (first | refine kN ?_ _ | refine kD ?_ | refine kA ?_ _)); refine blk_put (cs := #[.slice (some ad289) t279.length co97, .slice Ao101 t282.length co101, .int .i64 0]) ?_ 2 _ rfl; (with_reducible repeat (first | refine kN ?_ _ | refine kD ?_ | refine kA ?_ _)); refine blk_put (cs := #[.slice (some ad289) t279.length co97, .slice none 0 0, .int .i64 0]) ?_ 1 _ rfl; (with_reducible repeat (first | refine kN ?_ _ | refine kD ?_ | refine kA ?_ _)); refine blk_put (cs := #[.slice none 0 0, .slice none 0 0, .int .i64 0]) ?_ 0 _ rfl; (with_reducible repeat (first | refine kN ?_ _ | refine kD ?_ | refine kA ?_ _)); refine blk_far ?_ NB273_287.out _; (with_reducible repeat (first | refine kN ?_ _ | refine kD ?_ | refine kA ?_ _)); exact BK273.out) Try.underlying28 rfl (by kernel_rfl)) rfl ?_
  exact ⟨_, _, by first | rfl | (simp [errW_none, errW_some] <;> rfl) | (simp [*, errW_none, errW_some] <;> rfl), by (with_reducible repeat (first | apply Kd.R_alloc | apply Kd.R_drewN | apply Kd.R_drew)); exact Kd.R_mono (Kd.R_far (p := ⟨gb273, 2, none⟩) (Kd.R_far (p := ⟨gb273, 1, none⟩) (Kd.R_far (p := ⟨gb273, 0, none⟩) (Kd.R_far (p := ⟨gb287, 2, none⟩) (Kd.R_types (Kd.R_types HO281.out BK287.out (by decide)) BK273.out (by decide)) (fun _ hk => hk.1.2) (.int .i64 a2)) (fun _ hk => hk.2) (.slice (some ad289) t279.length co97)) (fun _ hk => hk.2) (.slice Ao101 t282.length co101)) (fun _ hk => hk.2) (.int .i64 a2)) (fun _ hk => trivial), by (with_reducible repeat (first | apply Kd.R_alloc | apply Kd.R_drewN | apply Kd.R_drew)); exact Kd.R_mono (Kd.R_far (p := ⟨gb273, 2, none⟩) (Kd.R_far (p := ⟨gb273, 1, none⟩) (Kd.R_far (p := ⟨gb273, 0, none⟩) (Kd.R_far (p := ⟨gb287, 2, none⟩) (Kd.R_types (Kd.R_types HO284.out BK287.out (by decide)) BK273.out (by decide)) (fun _ hk => hk.1.2) (.int .i64 a2)) (fun _ hk => hk.2) (.slice (some ad289) t279.length co97)) (fun _ hk => hk.2) (.slice Ao101 t282.length co101)) (fun _ hk => hk.2) (.int .i64 a2)) (fun _ hk => trivial), by repeat (first | (with_reducible first | exact HB.out | apply bA | apply bN | apply bD | refine below_set ?_ (IsS61.ge HI276.out) | refine below_set ?_ GE273.out | refine below_set ?_ GE287.out) | exact HB.out)⟩
 rw [if_neg c91] at H
 have c91b0 : (t290 == 5) = false := beq_eq_false_iff_ne.mpr c91
 have c91b1 : (t290 != 5) = true := bne_iff_ne.mpr c91
 by_cases c108 : t290 = 6
 ·
  rw [if_pos c108] at H
  have c108b0 : (t290 == 6) = true := beq_iff_eq.mpr c108
  have c108b1 : (t290 != 6) = false := bne_eq_false_iff_eq.mpr c108
  clear c108
  replace H := Option.bind_eq_some_iff.mp H
  obtain ⟨t296, A1090, H⟩ := H
  replace H : (if t282.length < 17592186044416 then (some (t279, (t282 ++ [t296]), t285)) else (none)) = some (r1, r2, r3) := H
  have A109 := aM A1090
  clear A1090
  by_cases c110 : t282.length < 17592186044416
  rotate_left
  ·
   rw [if_neg c110] at H
   exact absurd H (by simp)
  rw [if_pos c110] at H
  have LMc110 := aM c110
  clear c110
  obtain ⟨y297, hy297⟩ : ∃ y_ : List Int, y_ = (t282 ++ [t296]) := ⟨_, rfl⟩
  replace H : (some (t279, y297, t285)) = some (r1, r2, r3) := by first | (rw [hy297]; with_reducible exact H) | (have H2_ := (Option.bind_some _ _).symm.trans H; rw [hy297]; with_reducible exact H2_) | (have H2_ := (Option.bind_some _ _).symm.trans H; with_reducible exact H2_) | with_reducible exact H | (rw [hy297]; exact H) | exact H
  have Ny297 := aM hy297
  clear hy297
  simp only [Option.some.injEq, Prod.mk.injEq] at H
  obtain ⟨rfl, rfl, rfl⟩ := H
  go_enter Try.func28, Try.ntmps28
  try go_wp2_with (first | ((with_reducible refine gate_dst (N := 6) rfl ?_); refine box_event ?hg (N := 6) ?hd (cs := #[.slice none 0 0, .slice none 0 0, .int .i64 0]) (t := 28) ?hr ?_; (case hd => rfl); (case hg => rfl); (case hr => first | (go_simp; done) | (go_simp; rfl)); intro gb273 hg w111 hbox hb; have BK273 := aM (hbox); have GW273 := aM ((by rw [hg]; exact (below_size (below_mv HB.out)) : w.heap.size ≤ gb273)); have GE273 := aM ((by rw [hg]; exact (below_size (below_mv HB.out)) : w.heap.size ≤ gb273)); replace HB := aM (below_step (below_mv HB.out) hb); clear hb hbox hg) | ((with_reducible refine gate_callee (f := 9) rfl ?_); refine goesL_ (some 11) rfl rfl Try.func9 (by kernel_rfl) rfl #[.slice A0 l0.length c0] rfl (by first | rfl | (simp only [List.map_toArray, List.map_cons, List.map_nil, List.length_drop, List.length_take]; rfl)) ?_; (with_reducible refine (minecontroldraw_New.calls _ _ l0 t274 t275 w _ ?side1 ?side2 ?side3 A4.out).mono ?_); (case side1 => repeat (first | (with_reducible first | exact HB.out | apply bA | apply bN | apply bD | refine below_set ?_ GE273.out) | exact HB.out)); (case side2 => exact HR0.out); (case side3 => exact HC0.out); rintro e w112 ⟨g276, rfl, hi, hb, hb2, hge⟩; refine ⟨_, rfl, ?_⟩; replace HB := aM (hb); have HI276 := aM (hi); have NB276_273 := aM (IsS61.ne_blk hi (blk_below (blk_mv BK273.out) hb2) (by decide)); have NB273_276 := aM (Ne.symm (IsS61.ne_blk hi (blk_below (blk_mv BK273.out) hb2) (by decide))); replace BK273 := aM (blk_below (blk_mv BK273.out) hb2); (try clear hb); (try clear hb2); (try clear hge); (try clear hk); (try clear hi)) | ((with_reducible refine gate_callee (f := 11) rfl ?_); refine goesL_ (some 14) rfl rfl Try.func11 (by kernel_rfl) rfl #[.pointer (some ⟨g276, 0, none⟩), .int .i64 4] rfl (by first | rfl | (simp only [List.map_toArray, List.map_cons, List.map_nil, List.length_drop, List.length_take]; rfl)) ?_; (with_reducible refine (minecontroldraw_Codes_Next.calls k g276 t274 t275 4 t277 t278 w _ ?side1 ?side2 A5.out).mono ?_); (case side1 => repeat (first | (with_reducible first | exact HI276.out | apply IsS61.alloc | apply IsS61.drewN | apply IsS61.drew | apply IsS61.set_1 | refine IsS61.far ?_ NB276_273.out _) | exact HI276.out)); (case side2 => repeat (first | (with_reducible first | exact HB.out | apply bA | apply bN | apply bD | refine below_set ?_ (IsS61.ge HI276.out) | refine below_set ?_ GE273.out) | exact HB.out)); rintro e w113 ⟨rfl, hi, hb, hk⟩; refine ⟨_, rfl, ?_⟩; replace BK273 := aM (KeepBut.blk hk (g' := gb273) (o := .cells #[.slice none 0 0, .slice none 0 0, .int .i64 0] 28 (0, 0)) (by (with_reducible repeat (first | refine kN ?_ _ | refine kD ?_ | refine kA ?_ _)); exact BK273.out) NB273_276.out (by simp)); replace HB := aM (hb); replace HI276 := aM (hi); (try clear hb); (try clear hb2); (try clear hge); (try clear hk); (try clear hi)) | ((with_reducible refine gate_callee (f := 10) rfl ?_); refine goesL_ (some 15) rfl rfl Try.func10 (by kernel_rfl) rfl #[.pointer (some ⟨g276, 0, none⟩), .int .i64 t277] rfl (by first | rfl | (simp only [List.map_toArray, List.map_cons, List.map_nil, List.length_drop, List.length_take]; rfl)) ?_; (with_reducible refine (minecontroldraw_Codes_Feeder.calls k g276 t274 t278 t277 t279 t282 t285 t286 w _ ?side1 ?side2 A6.out).mono ?_); (case side1 => repeat (first | (with_reducible first | exact HI276.out | apply IsS61.alloc | apply IsS61.drewN | apply IsS61.drew | apply IsS61.set_1 | refine IsS61.far ?_ NB276_273.out _) | exact HI276.out)); (case side2 => repeat (first | (with_reducible first | exact HB.out | apply bA | apply bN | apply bD | refine below_set ?_ (IsS61.ge HI276.out) | refine below_set ?_ GE273.out) | exact HB.out)); rintro e w114 ⟨v280, v283, rfl, ho0, ho1, hi, hb, hk⟩; refine ⟨_, rfl, ?_⟩; replace BK273 := aM (KeepBut.blk hk (g' := gb273) (o := .cells #[.slice none 0 0, .slice none 0 0, .int .i64 0] 28 (0, 0)) (by (with_reducible repeat (first | refine kN ?_ _ | refine kD ?_ | refine kA ?_ _)); exact BK273.out) NB273_276.out (by simp)); have HO281 := aM (Kd.R_lower ho0 (below_size (by repeat (first | (with_reducible first | exact HB.out | apply bA | apply bN | apply bD | refine below_set ?_ (IsS61.ge HI276.out) | refine below_set ?_ GE273.out) | exact HB.out)))); have HO284 := aM (Kd.R_lower ho1 (below_size (by repeat (first | (with_reducible first | exact HB.out | apply bA | apply bN | apply bD | refine below_set ?_ (IsS61.ge HI276.out) | refine below_set ?_ GE273.out) | exact HB.out)))); replace HB := aM (hb); replace HI276 := aM (hi); (try clear hb); (try clear hb2); (try clear hge); (try clear hk); (try clear hi); (try clear ho0); (try clear ho1)) | ((with_reducible refine gate_dst (N := 8) rfl ?_); refine box_event ?hg (N := 8) ?hd (cs := #[.slice none 0 0, .slice none 0 0, .int .i64 0]) (t := 28) ?hr ?_; (case hd => rfl); (case hg => rfl); (case hr => first | (go_simp; done) | (go_simp; rfl)); intro gb287 hg w115 hbox hb; replace HO281 := aM (Kd.R_below (R_mv HO281.out) hb); replace HO284 := aM (Kd.R_below (R_mv HO284.out) hb); have BK287 := aM (hbox); have GW287 := aM ((by rw [hg]; exact (below_size (by repeat (first | (with_reducible first | exact HB.out | apply bA | apply bN | apply bD | refine below_set ?_ (IsS61.ge HI276.out) | refine below_set ?_ GE273.out) | exact HB.out))) : w.heap.size ≤ gb287)); have GE287 := aM ((by rw [hg]; exact (below_size (by repeat (first | (with_reducible first | exact HB.out | apply bA | apply bN | apply bD | refine below_set ?_ (IsS61.ge HI276.out) | refine below_set ?_ GE273.out) | exact HB.out))) : w.heap.size ≤ gb287)); replace HB := aM (below_step (by repeat (first | (with_reducible first | exact HB.out | apply bA | apply bN | apply bD | refine below_set ?_ (IsS61.ge HI276.out) | refine below_set ?_ GE273.out) | exact HB.out)) hb); have NB273_287 := aM ((by rw [hg]; exact Nat.ne_of_lt (blk_lt (blk_mv BK273.out)) : gb273 ≠ gb287)); have NB287_273 := aM ((by rw [hg]; exact Nat.ne_of_gt (blk_lt (blk_mv BK273.out)) : gb287 ≠ gb273)); replace BK273 := aM (blk_below (blk_mv BK273.out) hb); have NB276_287 := aM ((by rw [hg]; exact Nat.ne_of_lt (IsS61.lt (show IsS61 w _ g276 t274 t286 from by repeat (first | (with_reducible first | exact HI276.out | apply IsS61.alloc | apply IsS61.drewN | apply IsS61.drew | apply IsS61.set_1 | refine IsS61.far ?_ NB276_273.out _) | exact HI276.out))) : g276 ≠ gb287)); have NB287_276 := aM ((by rw [hg]; exact Nat.ne_of_gt (IsS61.lt (show IsS61 w _ g276 t274 t286 from by repeat (first | (with_reducible first | exact HI276.out | apply IsS61.alloc | apply IsS61.drewN | apply IsS61.drew | apply IsS61.set_1 | refine IsS61.far ?_ NB276_273.out _) | exact HI276.out))) : gb287 ≠ g276)); replace HI276 := aM (IsS61.below (by repeat (first | (with_reducible first | exact HI276.out | apply IsS61.alloc | apply IsS61.drewN | apply IsS61.drew | apply IsS61.set_1 | refine IsS61.far ?_ NB276_273.out _) | exact HI276.out)) hb); clear hb hbox hg; obtain ⟨Ao116, co116, eo116⟩ := Kd.R_slice HO281.out; subst eo116; have hnb117 := NB287_273.out; have hnc117 := NB273_287.out; have hnb118 := NB287_276.out; have hnc118 := NB276_287.out; obtain ⟨hcz119_0, hcz119_1, hcz119_2, hfz119_0, hfz119_1, hfz119_2⟩ := blk3 BK287.out; obtain ⟨Ao120, co120, eo120⟩ := Kd.R_slice HO284.out; subst eo120))
  have n0_ : Aside0 (Kd.R k32 32 (((w115.setCell ⟨gb287, 0, none⟩ (.slice Ao116 t279.length co116)).setCell ⟨gb287, 1, none⟩ (.slice Ao120 t282.length co120)).setCell ⟨gb287, 2, none⟩ (.int .i64 t285)) w.heap.size (fun _ => True) (.slice Ao116 t279.length co116) t279) := ⟨by (with_reducible repeat (first | apply Kd.R_alloc | apply Kd.R_drewN | apply Kd.R_drew)); exact Kd.R_mono (Kd.R_far (p := ⟨gb287, 2, none⟩) (Kd.R_far (p := ⟨gb287, 1, none⟩) (Kd.R_far (p := ⟨gb287, 0, none⟩) (Kd.R_types HO281.out BK287.out (by decide)) (fun _ hk => hk.2) (.slice Ao116 t279.length co116)) (fun _ hk => hk.2) (.slice Ao120 t282.length co120)) (fun _ hk => hk.2) (.int .i64 t285)) (fun _ hk => trivial)⟩
  have n1_ : Aside0 (Kd.R (Kd.int .i64) 3 (((w115.setCell ⟨gb287, 0, none⟩ (.slice Ao116 t279.length co116)).setCell ⟨gb287, 1, none⟩ (.slice Ao120 t282.length co120)).setCell ⟨gb287, 2, none⟩ (.int .i64 t285)) w.heap.size (fun _ => True) (.slice Ao120 t282.length co120) t282) := ⟨by (with_reducible repeat (first | apply Kd.R_alloc | apply Kd.R_drewN | apply Kd.R_drew)); exact Kd.R_mono (Kd.R_far (p := ⟨gb287, 2, none⟩) (Kd.R_far (p := ⟨gb287, 1, none⟩) (Kd.R_far (p := ⟨gb287, 0, none⟩) (Kd.R_types HO284.out BK287.out (by decide)) (fun _ hk => hk.2) (.slice Ao116 t279.length co116)) (fun _ hk => hk.2) (.slice Ao120 t282.length co120)) (fun _ hk => hk.2) (.int .i64 t285)) (fun _ hk => trivial)⟩
  have n2_ : Aside0 ((((w115.setCell ⟨gb287, 0, none⟩ (.slice Ao116 t279.length co116)).setCell ⟨gb287, 1, none⟩ (.slice Ao120 t282.length co120)).setCell ⟨gb287, 2, none⟩ (.int .i64 t285)).heap[gb273]? = some (.cells #[.slice none 0 0, .slice none 0 0, .int .i64 0] 28 (0, 0))) := ⟨by (with_reducible repeat (first | refine kN ?_ _ | refine kD ?_ | refine kA ?_ _)); refine blk_far ?_ NB273_287.out _; (with_reducible repeat (first | refine kN ?_ _ | refine kD ?_ | refine kA ?_ _)); refine blk_far ?_ NB273_287.out _; (with_reducible repeat (first | refine kN ?_ _ | refine kD ?_ | refine kA ?_ _)); refine blk_far ?_ NB273_287.out _; (with_reducible repeat (first | refine kN ?_ _ | refine kD ?_ | refine kA ?_ _)); exact BK273.out⟩
  have n3_ : Aside0 ((((w115.setCell ⟨gb287, 0, none⟩ (.slice Ao116 t279.length co116)).setCell ⟨gb287, 1, none⟩ (.slice Ao120 t282.length co120)).setCell ⟨gb287, 2, none⟩ (.int .i64 t285)).heap[gb287]? = some (.cells #[.slice Ao116 t279.length co116, .slice Ao120 t282.length co120, .int .i64 t285] 28 (0, 0))) := ⟨by (with_reducible repeat (first | refine kN ?_ _ | refine kD ?_ | refine kA ?_ _)); refine blk_put (cs := #[.slice Ao116 t279.length co116, .slice Ao120 t282.length co120, .int .i64 0]) ?_ 2 _ rfl; (with_reducible repeat (first | refine kN ?_ _ | refine kD ?_ | refine kA ?_ _)); refine blk_put (cs := #[.slice Ao116 t279.length co116, .slice none 0 0, .int .i64 0]) ?_ 1 _ rfl; (with_reducible repeat (first | refine kN ?_ _ | refine kD ?_ | refine kA ?_ _)); refine blk_put (cs := #[.slice none 0 0, .slice none 0 0, .int .i64 0]) ?_ 0 _ rfl; (with_reducible repeat (first | refine kN ?_ _ | refine kD ?_ | refine kA ?_ _)); exact BK287.out⟩
  have n4_ : Aside0 (IsS61 w (((w115.setCell ⟨gb287, 0, none⟩ (.slice Ao116 t279.length co116)).setCell ⟨gb287, 1, none⟩ (.slice Ao120 t282.length co120)).setCell ⟨gb287, 2, none⟩ (.int .i64 t285)) g276 t274 t286) := ⟨by repeat (first | (with_reducible first | exact HI276.out | apply IsS61.alloc | apply IsS61.drewN | apply IsS61.drew | apply IsS61.set_1 | refine IsS61.far ?_ NB276_273.out _ | refine IsS61.far ?_ NB276_287.out _) | exact HI276.out)⟩
  have n5_ : Aside0 (Below w.heap.size w (((w115.setCell ⟨gb287, 0, none⟩ (.slice Ao116 t279.length co116)).setCell ⟨gb287, 1, none⟩ (.slice Ao120 t282.length co120)).setCell ⟨gb287, 2, none⟩ (.int .i64 t285))) := ⟨by repeat (first | (with_reducible first | exact HB.out | apply bA | apply bN | apply bD | refine below_set ?_ (IsS61.ge HI276.out) | refine below_set ?_ GE273.out | refine below_set ?_ GE287.out) | exact HB.out)⟩
  (try clear HO281)
  (try clear HO284)
  (try clear BK273)
  (try clear BK287)
  (try clear HI276)
  (try clear HB)
  generalize (((w115.setCell ⟨gb287, 0, none⟩ (.slice Ao116 t279.length co116)).setCell ⟨gb287, 1, none⟩ (.slice Ao120 t282.length co120)).setCell ⟨gb287, 2, none⟩ (.int .i64 t285)) = w121 at n0_ n1_ n2_ n3_ n4_ n5_ ⊢
  have HO281 := n0_
  have HO284 := n1_
  have BK273 := n2_
  have BK287 := n3_
  have HI276 := n4_
  have HB := n5_
  clear n0_ n1_ n2_ n3_ n4_ n5_
  replace HO281 := aM (Kd.R_drew HO281.out)
  replace HO284 := aM (Kd.R_drew HO284.out)
  replace BK273 := aM (blk_drew BK273.out)
  replace BK287 := aM (blk_drew BK287.out)
  replace HI276 := aM (IsS61.drew HI276.out)
  replace HB := aM (below_drew1 HB.out)
  have p289 : 0 ≤ (t288 : Int) := of_decide_eq_true (by first | (with_reducible assumption) | assumption)
  have q289 : t288 < (t279.length : Int) := of_decide_eq_true (by first | (with_reducible assumption) | assumption)
  obtain ⟨ad289, e289, hx289_0, hx289_1, hx289_2, hx289_3, hx289_4⟩ := at_T32 (Kd.R_reads' HO281.out).2.2 t288 p289 q289
  cases e289
  replace p289 := eq_true p289
  replace q289 := eq_true q289
  refine start_ (n := 9) (S := fun w' => w'.cell? ⟨gb287, 0, none⟩ = some (.slice (some ad289) t279.length co116) ∧ w'.cell? ⟨gb287, 1, none⟩ = some (.slice Ao120 t282.length co120) ∧ w'.cell? ⟨gb287, 2, none⟩ = some (.int .i64 t285) ∧ w'.cell? (ad289.add ((t288).toNat * 5)) = some (.int .i64 ((rd_T32 t279 t288).f0)) ∧ w'.cell? ⟨(ad289.add ((t288).toNat * 5)).block, (ad289.add ((t288).toNat * 5)).off + 1, none⟩ = some (.int .i64 ((rd_T32 t279 t288).f1)) ∧ w'.cell? ⟨(ad289.add ((t288).toNat * 5)).block, (ad289.add ((t288).toNat * 5)).off + 2, none⟩ = some (.int .i64 ((rd_T32 t279 t288).f2)) ∧ w'.cell? ⟨(ad289.add ((t288).toNat * 5)).block, (ad289.add ((t288).toNat * 5)).off + 3, none⟩ = some (.bool ((rd_T32 t279 t288).f3)) ∧ w'.cell? ⟨(ad289.add ((t288).toNat * 5)).block, (ad289.add ((t288).toNat * 5)).off + 4, none⟩ = some (.bool ((rd_T32 t279 t288).f4))) (ds := []) #[false, false, false, false, false, false, false, false, false] (by kernel_rfl) rfl rfl ⟨(blk_cell BK287.out 0).trans rfl, (blk_cell BK287.out 1).trans rfl, (blk_cell BK287.out 2).trans rfl, hx289_0, hx289_1, hx289_2, hx289_3, hx289_4⟩ (fun hHeld => ?_); refine with_tabW minecontrollaw18_made.tab3 minecontrollaw18_made.bits3 (fun HT_ HW_ => ?_)
  generalize w121.drew = w122 at HO281 HO284 BK273 BK287 HI276 HB hx289_0 hx289_1 hx289_2 hx289_3 hx289_4 hHeld ⊢
  refine pure_ (i := 0) (N := some 16) (v := ?_) (a' := ?_) #[true, false, false, false, false, false, false, false, false] rfl rfl (any_of HT_.out (by kernel_rfl)) (fun _ _ _ h => h) (Or.inl ⟨by rfl, ?_⟩) ?_ ?_
  rotate_left
  ·
   intro w'
   go_simp
   with_reducible rfl
  rotate_left
  ·
   simp only [Act.put, sT, sZ, sS, i64_w, i32_w]
   rfl
  refine pure_ (i := 2) (N := some 18) (v := ?_) (a' := ?_) #[true, false, true, false, false, false, false, false, false] rfl rfl (any_of HT_.out (by kernel_rfl)) (fun _ _ _ h => h) (Or.inl ⟨by rfl, ?_⟩) ?_ ?_
  rotate_left
  ·
   intro w'
   go_simp
   with_reducible rfl
  rotate_left
  ·
   simp only [Act.put, sT, sZ, sS, i64_w, i32_w]
   rfl
  refine pure_ (i := 3) (N := some 19) (v := ?_) (a' := ?_) #[true, false, true, true, false, false, false, false, false] rfl rfl (any_of HT_.out (by kernel_rfl)) (fun _ _ _ h => h) (Or.inl ⟨by rfl, ?_⟩) ?_ ?_
  rotate_left
  ·
   intro w'
   go_simp
   with_reducible rfl
  rotate_left
  ·
   simp only [Act.put, sT, sZ, sS, i64_w, i32_w]
   rfl
  refine take_ (i := 1) (N := some 17) (v := ?_) (a' := ?_) #[true, true, true, true, false, false, false, false, false] rfl rfl (take_ofW HT_.out HW_.out (by kernel_rfl)) (fun _ _ _ h => h) (Or.inl ⟨by rfl, ?_⟩) hHeld ?_ ?_
  rotate_left
  ·
   rintro w' ⟨s0, s1, s2, s3, s4, s5, s6, s7⟩
   go_simp
   with_reducible rfl
  rotate_left
  ·
   simp only [Act.put, sT, sZ, sS, i64_w, i32_w]
   rfl
  refine take_ (i := 4) (N := some 20) (v := ?_) (a' := ?_) #[true, true, true, true, true, false, false, false, false] rfl rfl (take_ofW HT_.out HW_.out (by kernel_rfl)) (fun _ _ _ h => h) (Or.inl ⟨by rfl, ?_⟩) hHeld ?_ ?_
  rotate_left
  ·
   rintro w' ⟨s0, s1, s2, s3, s4, s5, s6, s7⟩
   go_simp
   with_reducible rfl
  rotate_left
  ·
   simp only [Act.put, sT, sZ, sS, i64_w, i32_w]
   rfl
  refine pure_ (i := 5) (N := some 21) (v := ?_) (a' := ?_) #[true, true, true, true, true, true, false, false, false] rfl rfl (any_of HT_.out (by kernel_rfl)) (fun _ _ _ h => h) (Or.inl ⟨by rfl, ?_⟩) ?_ ?_
  rotate_left
  ·
   intro w'
   go_simp
   with_reducible rfl
  rotate_left
  ·
   simp only [Act.put, sT, sZ, sS, i64_w, i32_w]
   rfl
  refine one_ (i := 6) (N := some 22) #[true, true, true, true, true, true, true, false, false] rfl rfl (one_of HT_.out (by kernel_rfl)) (by decide) (fun K hK => ?_)
  refine goes_ Try.func12 (by kernel_rfl) rfl #[.int .i64 a1, .int .i64 (t279.length : Int)] (by rfl) rfl rfl (by first | rfl | (simp only [List.map_toArray, List.map_cons, List.map_nil, List.length_drop, List.length_take]; rfl)) ?_
  with_reducible refine (minecontroldraw_Mod.calls a1 (t279.length : Int) t288 _ A7.out).mono ?_
  rintro e w' ⟨rfl, ⟨nd, rfl⟩⟩
  refine ⟨_, rfl, ?_⟩
  refine hK.out _ _ ⟨(blk_cell BK287.out 0).trans rfl, (blk_cell BK287.out 1).trans rfl, (blk_cell BK287.out 2).trans rfl, hHeld.2.2.2.1, hHeld.2.2.2.2.1, hHeld.2.2.2.2.2.1, hHeld.2.2.2.2.2.2.1, hHeld.2.2.2.2.2.2.2⟩ (fun hHeld => ?_)
  clear hK K
  refine norm_ (a' := ?_) ?_ ?_
  rotate_left
  ·
   show Act.put _ (some 22) _ = _
   simp only [Act.put, sT, sZ, sS, i64_w, i32_w]
   rfl
  refine pure_ (i := 7) (N := some 23) (v := ?_) (a' := ?_) #[true, true, true, true, true, true, true, true, false] rfl rfl (any_of HT_.out (by kernel_rfl)) (fun _ _ _ h => h) (Or.inl ⟨by rfl, ?_⟩) ?_ ?_
  rotate_left
  ·
   intro w'
   go_simp
   with_reducible rfl
  rotate_left
  ·
   simp only [Act.put, sT, sZ, sS, i64_w, i32_w]
   rfl
  refine pure_ (i := 8) (N := some 9) (v := ?_) (a' := ?_) #[true, true, true, true, true, true, true, true, true] rfl rfl (any_of HT_.out (by kernel_rfl)) (fun _ _ _ h => h) (Or.inl ⟨by rfl, ?_⟩) ?_ ?_
  rotate_left
  ·
   intro w'
   go_simp
   with_reducible rfl
  rotate_left
  ·
   simp only [Act.put, sT, sZ, sS, i64_w, i32_w]
   rfl
  refine done_ (done_of HT_.out (by kernel_rfl)) ?_
  try go_wp2_with (first | ((with_reducible refine gate_callee (f := 11) rfl ?_); refine goesL_ (some 25) rfl rfl Try.func11 (by kernel_rfl) rfl #[.pointer (some ⟨g276, 0, none⟩), .int .i64 12] rfl (by first | rfl | (simp only [List.map_toArray, List.map_cons, List.map_nil, List.length_drop, List.length_take]; rfl)) ?_; (with_reducible refine (minecontroldraw_Codes_Next.calls k g276 t274 t286 12 t290 t291 w _ ?side1 ?side2 A10.out).mono ?_); (case side1 => repeat (first | (with_reducible first | exact HI276.out | apply IsS61.alloc | apply IsS61.drewN | apply IsS61.drew | apply IsS61.set_1 | refine IsS61.far ?_ NB276_273.out _ | refine IsS61.far ?_ NB276_287.out _) | exact HI276.out)); (case side2 => repeat (first | (with_reducible first | exact HB.out | apply bA | apply bN | apply bD | refine below_set ?_ (IsS61.ge HI276.out) | refine below_set ?_ GE273.out | refine below_set ?_ GE287.out) | exact HB.out)); rintro e w123 ⟨rfl, hi, hb, hk⟩; refine ⟨_, rfl, ?_⟩; replace BK273 := aM (KeepBut.blk hk (g' := gb273) (o := .cells #[.slice none 0 0, .slice none 0 0, .int .i64 0] 28 (0, 0)) (by (with_reducible repeat (first | refine kN ?_ _ | refine kD ?_ | refine kA ?_ _)); exact BK273.out) NB273_276.out (by simp)); replace HO281 := aM (Kd.R_mono (Kd.R_keep (IsS61.apart (show IsS61 w _ g276 t274 t286 from by repeat (first | (with_reducible first | exact HI276.out | apply IsS61.alloc | apply IsS61.drewN | apply IsS61.drew | apply IsS61.set_1 | refine IsS61.far ?_ NB276_273.out _ | refine IsS61.far ?_ NB276_287.out _) | exact HI276.out)) (R_mv HO281.out) (by decide)) hk (fun _ h => h.2)) (fun _ h => h.1)); replace HO284 := aM (Kd.R_mono (Kd.R_keep (IsS61.apart (show IsS61 w _ g276 t274 t286 from by repeat (first | (with_reducible first | exact HI276.out | apply IsS61.alloc | apply IsS61.drewN | apply IsS61.drew | apply IsS61.set_1 | refine IsS61.far ?_ NB276_273.out _ | refine IsS61.far ?_ NB276_287.out _) | exact HI276.out)) (R_mv HO284.out) (by decide)) hk (fun _ h => h.2)) (fun _ h => h.1)); replace BK287 := aM (KeepBut.blk hk (g' := gb287) (o := .cells #[.slice (some ad289) t279.length co116, .slice Ao120 t282.length co120, .int .i64 t285] 28 (0, 0)) (by (with_reducible repeat (first | refine kN ?_ _ | refine kD ?_ | refine kA ?_ _)); exact BK287.out) NB287_276.out (by simp)); replace HB := aM (hb); replace HI276 := aM (hi); (try clear hb); (try clear hb2); (try clear hge); (try clear hk); (try clear hi)))
  replace HO281 := aM (Kd.R_drew HO281.out)
  replace HO284 := aM (Kd.R_drew HO284.out)
  replace BK273 := aM (blk_drew BK273.out)
  replace BK287 := aM (blk_drew BK287.out)
  replace HI276 := aM (IsS61.drew HI276.out)
  replace HB := aM (below_drew1 HB.out)
  refine start_ (n := 8) (S := fun w' => w'.cell? ⟨gb287, 0, none⟩ = some (.slice (some ad289) t279.length co116) ∧ w'.cell? ⟨gb287, 1, none⟩ = some (.slice Ao120 t282.length co120) ∧ w'.cell? ⟨gb287, 2, none⟩ = some (.int .i64 t285)) (ds := [7]) #[false, false, false, false, false, false, false, false] (by kernel_rfl) rfl rfl ⟨(blk_cell BK287.out 0).trans rfl, (blk_cell BK287.out 1).trans rfl, (blk_cell BK287.out 2).trans rfl⟩ (fun hHeld => ?_); refine with_tabW minecontrollaw18_made.tab16 minecontrollaw18_made.bits16 (fun HT_ HW_ => ?_)
  generalize w123.drew = w124 at HO281 HO284 BK273 BK287 HI276 HB hHeld ⊢
  refine pure_ (i := 0) (N := some 55) (v := ?_) (a' := ?_) #[true, false, false, false, false, false, false, false] rfl rfl (any_of HT_.out (by kernel_rfl)) (fun _ _ _ h => h) (Or.inl ⟨by rfl, ?_⟩) ?_ ?_
  rotate_left
  ·
   intro w'
   go_simp
   with_reducible rfl
  rotate_left
  ·
   simp only [Act.put, sT, sZ, sS, i64_w, i32_w]
   rfl
  refine pure_ (i := 2) (N := some 57) (v := ?_) (a' := ?_) #[true, false, true, false, false, false, false, false] rfl rfl (any_of HT_.out (by kernel_rfl)) (fun _ _ _ h => h) (Or.inl ⟨by rfl, ?_⟩) ?_ ?_
  rotate_left
  ·
   intro w'
   go_simp
   with_reducible rfl
  rotate_left
  ·
   simp only [Act.put, sT, sZ, sS, i64_w, i32_w]
   rfl
  refine take_ (i := 1) (N := some 56) (v := ?_) (a' := ?_) #[true, true, true, false, false, false, false, false] rfl rfl (take_ofW HT_.out HW_.out (by kernel_rfl)) (fun _ _ _ h => h) (Or.inl ⟨by rfl, ?_⟩) hHeld ?_ ?_
  rotate_left
  ·
   rintro w' ⟨s0, s1, s2⟩
   go_simp
   with_reducible rfl
  rotate_left
  ·
   simp only [Act.put, sT, sZ, sS, i64_w, i32_w]
   rfl
  refine one_ (i := 3) (N := some 58) #[true, true, true, true, false, false, false, false] rfl rfl (one_of HT_.out (by kernel_rfl)) (by decide) (fun K hK => ?_)
  refine goes_ Try.func12 (by kernel_rfl) rfl #[.int .i64 a2, .int .i64 6] (by rfl) rfl rfl (by first | rfl | (simp only [List.map_toArray, List.map_cons, List.map_nil, List.length_drop, List.length_take]; rfl)) ?_
  with_reducible refine (minecontroldraw_Mod.calls a2 6 t296 _ A109.out).mono ?_
  rintro e w' ⟨rfl, ⟨nd, rfl⟩⟩
  refine ⟨_, rfl, ?_⟩
  refine hK.out _ _ ⟨(blk_cell BK287.out 0).trans rfl, (blk_cell BK287.out 1).trans rfl, (blk_cell BK287.out 2).trans rfl⟩ (fun hHeld => ?_)
  clear hK K
  refine norm_ (a' := ?_) ?_ ?_
  rotate_left
  ·
   show Act.put _ (some 58) _ = _
   simp only [Act.put, sT, sZ, sS, i64_w, i32_w]
   rfl
  refine one_ (i := 4) (N := some 59) #[true, true, true, true, true, false, false, false] rfl rfl (one_of HT_.out (by kernel_rfl)) (by decide) (fun K hK => ?_)
  refine value_ (w1 := ?_) (v := ?_) (by rfl) rfl ?_ ?_
  rotate_left 2
  ·
   go_simp
   constructor
   ·
    rfl
   rfl
  refine hK.out _ _ ⟨(blk_cell (blk_alloc BK287.out _) 0).trans rfl, (blk_cell (blk_alloc BK287.out _) 1).trans rfl, (blk_cell (blk_alloc BK287.out _) 2).trans rfl⟩ (fun hHeld => ?_)
  clear hK K
  refine norm_ (a' := ?_) ?_ ?_
  rotate_left
  ·
   show Act.put _ (some 59) _ = _
   simp only [Act.put, sT, sZ, sS, i64_w, i32_w]
   rfl
  refine one_ (i := 5) (N := some 60) #[true, true, true, true, true, true, false, false] rfl rfl (one_of HT_.out (by kernel_rfl)) (by decide) (fun K hK => ?_)
  refine Kd.R_append_step (Kd.int .i64) (w0 := w) w.heap.size (by rfl) (.tmp 56) (.tmp 59) 26 3 (.int .i64 0) 8 rfl Try.underlying26 info3 rfl (by decide) (by omega) (.slice Ao120 t282.length co120) t282 t296 [.int .i64 t296] (fun _ => True) (fun _ => False) rfl rfl ?aP (fun _ hk => hk.elim) ?aF ?aO ?aB ?aS ?aL ?_
  (case aP => exact rfl)
  (case aB => exact (by repeat (first | (with_reducible first | exact HB.out | apply bA | apply bN | apply bD | refine below_set ?_ (IsS61.ge HI276.out) | refine below_set ?_ GE273.out | refine below_set ?_ GE287.out) | exact HB.out)))
  (case aF => exact (fun _ _ => trivial))
  (case aO => exact (R_mv HO284.out))
  (case aS => exact (below_size (by repeat (first | (with_reducible first | exact HB.out | apply bA | apply bN | apply bD | refine below_set ?_ (IsS61.ge HI276.out) | refine below_set ?_ GE273.out | refine below_set ?_ GE287.out) | exact HB.out))))
  (case aL => have := LMc110.out; omega)
  intro v298 w125 ho hb hg hat
  rw [← Ny297.out] at ho
  have n0_ := aM (blk_grown (blk_mv BK273.out) hg (Kd.R_ne HO284.out BK273.out (by decide)))
  have n1_ := aM (IsS61.grown (show IsS61 w _ g276 t274 t291 from by repeat (first | (with_reducible first | exact HI276.out | apply IsS61.alloc | apply IsS61.drewN | apply IsS61.drew | apply IsS61.set_1 | refine IsS61.far ?_ NB276_273.out _ | refine IsS61.far ?_ NB276_287.out _) | exact HI276.out)) hg (IsS61.own_ne HI276.out HO284.out (by decide)))
  have n2_ := aM (Kd.R_over' (R_mv HO281.out) (Kd.R_typed (R_mv HO284.out)) (by decide) hg)
  have n3_ := aM (blk_grown (blk_mv BK287.out) hg (Kd.R_ne HO284.out BK287.out (by decide)))
  have n4_ := aM (hb)
  have n5_ := aM (ho)
  clear BK273
  clear HI276
  clear HO281
  clear BK287
  clear HB
  clear HO284
  have BK273 := n0_
  have HI276 := n1_
  have HO281 := n2_
  have BK287 := n3_
  have HB := n4_
  have HO299 := n5_
  clear n0_ n1_ n2_ n3_ n4_ n5_
  clear ho hb hg hat
  obtain ⟨Ao126, co126, eo126⟩ := Kd.R_slice HO299.out
  (first | subst eo126 | (injection eo126 with f1_ f2_ f3_; have f4_ := f1_.symm; have f5_ := f3_.symm; clear f1_ f2_ f3_; subst f4_; subst f5_))
  refine hK.out _ _ ⟨(blk_cell BK287.out 0).trans rfl, (blk_cell BK287.out 1).trans rfl, (blk_cell BK287.out 2).trans rfl⟩ (fun hHeld => ?_)
  clear hK K
  refine norm_ (a' := ?_) ?_ ?_
  rotate_left
  ·
   show Act.put _ (some 60) _ = _
   simp only [Act.put, sT, sZ, sS, i64_w, i32_w]
   rfl
  refine pure_ (i := 6) (N := some 61) (v := ?_) (a' := ?_) #[true, true, true, true, true, true, true, false] rfl rfl (any_of HT_.out (by kernel_rfl)) (fun _ _ _ h => h) (Or.inl ⟨by rfl, ?_⟩) ?_ ?_
  rotate_left
  ·
   intro w'
   go_simp
   with_reducible rfl
  rotate_left
  ·
   simp only [Act.put, sT, sZ, sS, i64_w, i32_w]
   rfl
  refine last_ (i := 7) (N := none) #[true, true, true, true, true, true, true, true] rfl rfl (one_of HT_.out (by kernel_rfl)) (by decide) (fun K hK => ?_)
  have hs127 : w125.cell? ⟨gb287, 1, none⟩ = some (.slice Ao120 t282.length co120) := (blk_cell BK287.out 1).trans rfl
  have hfs127 := blk_frozen BK287.out 1
  have hns127_0 := NB273_287.out
  have hms127_0 := NB287_273.out
  refine skip_ (w1 := ?_) (by rfl) rfl ?_ ?_
  rotate_left
  ·
   go_simp
   rfl
  refine hK.out _ _ ?_
  clear hK K
  refine done_ (done_of HT_.out (by kernel_rfl)) ?_
  obtain ⟨hcz128_0, hcz128_1, hcz128_2, hfz128_0, hfz128_1, hfz128_2⟩ := blk3 BK287.out
  have hnb129 := NB273_276.out
  have hnc129 := NB276_273.out
  obtain ⟨hcz130_0, hcz130_1, hcz130_2, hfz130_0, hfz130_1, hfz130_2⟩ := blk3 BK273.out
  try go_wp2
  refine bodyPost_ret (results_cell_row rfl _ _ gb273 28 #[.slice (some ad289) t279.length co116, .slice Ao126 y297.length co126, .int .i64 t285] (0, 0) _ rfl (by (with_reducible repeat (first | refine kN ?_ _ | refine kD ?_ | refine kA ?_ _)); refine blk_put (cs := #[.slice (some ad289) t279.length co116, .slice Ao126 y297.length co126, .int .i64 0]) ?_ 2 _ rfl; (with_reducible repeat (first | refine kN ?_ _ | refine kD ?_ | refine kA ?_ _)); refine blk_put (cs := #[.slice (some ad289) t279.length co116, .slice none 0 0, .int .i64 0]) ?_ 1 _ rfl; (with_reducible repeat (first | refine kN ?_ _ | refine kD ?_ | refine kA ?_ _)); refine blk_put (cs := #[.slice none 0 0, .slice none 0 0, .int .i64 0]) ?_ 0 _ rfl; (with_reducible repeat (first | refine kN ?_ _ | refine kD ?_ | refine kA ?_ _)); refine blk_far ?_ NB273_287.out _; (with_reducible repeat (first | refine kN ?_ _ | refine kD ?_ | refine kA ?_ _)); exact BK273.out) Try.underlying28 rfl (by kernel_rfl)) rfl ?_
  exact ⟨_, _, by first | rfl | (simp [errW_none, errW_some] <;> rfl) | (simp [*, errW_none, errW_some] <;> rfl), by (with_reducible repeat (first | apply Kd.R_alloc | apply Kd.R_drewN | apply Kd.R_drew)); exact Kd.R_mono (Kd.R_far (p := ⟨gb273, 2, none⟩) (Kd.R_far (p := ⟨gb273, 1, none⟩) (Kd.R_far (p := ⟨gb273, 0, none⟩) (Kd.R_far (p := ⟨gb287, 1, none⟩) (Kd.R_types (Kd.R_types HO281.out BK287.out (by decide)) BK273.out (by decide)) (fun _ hk => hk.1.2) (.slice Ao126 y297.length co126)) (fun _ hk => hk.2) (.slice (some ad289) t279.length co116)) (fun _ hk => hk.2) (.slice Ao126 y297.length co126)) (fun _ hk => hk.2) (.int .i64 t285)) (fun _ hk => trivial), by (with_reducible repeat (first | apply Kd.R_alloc | apply Kd.R_drewN | apply Kd.R_drew)); exact Kd.R_mono (Kd.R_far (p := ⟨gb273, 2, none⟩) (Kd.R_far (p := ⟨gb273, 1, none⟩) (Kd.R_far (p := ⟨gb273, 0, none⟩) (Kd.R_far (p := ⟨gb287, 1, none⟩) (Kd.R_types (Kd.R_types HO299.out BK287.out (by decide)) BK273.out (by decide)) (fun _ hk => hk.1.2) (.slice Ao126 y297.length co126)) (fun _ hk => hk.2) (.slice (some ad289) t279.length co116)) (fun _ hk => hk.2) (.slice Ao126 y297.length co126)) (fun _ hk => hk.2) (.int .i64 t285)) (fun _ hk => trivial), by repeat (first | (with_reducible first | exact HB.out | apply bA | apply bN | apply bD | refine below_set ?_ (IsS61.ge HI276.out) | refine below_set ?_ GE273.out | refine below_set ?_ GE287.out) | exact HB.out)⟩
 rw [if_neg c108] at H
 have c108b0 : (t290 == 6) = false := beq_eq_false_iff_ne.mpr c108
 have c108b1 : (t290 != 6) = true := bne_iff_ne.mpr c108
 simp only [Option.some.injEq, Prod.mk.injEq] at H
 obtain ⟨rfl, rfl, rfl⟩ := H
 go_enter Try.func28, Try.ntmps28
 try go_wp2_with (first | ((with_reducible refine gate_dst (N := 6) rfl ?_); refine box_event ?hg (N := 6) ?hd (cs := #[.slice none 0 0, .slice none 0 0, .int .i64 0]) (t := 28) ?hr ?_; (case hd => rfl); (case hg => rfl); (case hr => first | (go_simp; done) | (go_simp; rfl)); intro gb273 hg w131 hbox hb; have BK273 := aM (hbox); have GW273 := aM ((by rw [hg]; exact (below_size (below_mv HB.out)) : w.heap.size ≤ gb273)); have GE273 := aM ((by rw [hg]; exact (below_size (below_mv HB.out)) : w.heap.size ≤ gb273)); replace HB := aM (below_step (below_mv HB.out) hb); clear hb hbox hg) | ((with_reducible refine gate_callee (f := 9) rfl ?_); refine goesL_ (some 11) rfl rfl Try.func9 (by kernel_rfl) rfl #[.slice A0 l0.length c0] rfl (by first | rfl | (simp only [List.map_toArray, List.map_cons, List.map_nil, List.length_drop, List.length_take]; rfl)) ?_; (with_reducible refine (minecontroldraw_New.calls _ _ l0 t274 t275 w _ ?side1 ?side2 ?side3 A4.out).mono ?_); (case side1 => repeat (first | (with_reducible first | exact HB.out | apply bA | apply bN | apply bD | refine below_set ?_ GE273.out) | exact HB.out)); (case side2 => exact HR0.out); (case side3 => exact HC0.out); rintro e w132 ⟨g276, rfl, hi, hb, hb2, hge⟩; refine ⟨_, rfl, ?_⟩; replace HB := aM (hb); have HI276 := aM (hi); have NB276_273 := aM (IsS61.ne_blk hi (blk_below (blk_mv BK273.out) hb2) (by decide)); have NB273_276 := aM (Ne.symm (IsS61.ne_blk hi (blk_below (blk_mv BK273.out) hb2) (by decide))); replace BK273 := aM (blk_below (blk_mv BK273.out) hb2); (try clear hb); (try clear hb2); (try clear hge); (try clear hk); (try clear hi)) | ((with_reducible refine gate_callee (f := 11) rfl ?_); refine goesL_ (some 14) rfl rfl Try.func11 (by kernel_rfl) rfl #[.pointer (some ⟨g276, 0, none⟩), .int .i64 4] rfl (by first | rfl | (simp only [List.map_toArray, List.map_cons, List.map_nil, List.length_drop, List.length_take]; rfl)) ?_; (with_reducible refine (minecontroldraw_Codes_Next.calls k g276 t274 t275 4 t277 t278 w _ ?side1 ?side2 A5.out).mono ?_); (case side1 => repeat (first | (with_reducible first | exact HI276.out | apply IsS61.alloc | apply IsS61.drewN | apply IsS61.drew | apply IsS61.set_1 | refine IsS61.far ?_ NB276_273.out _) | exact HI276.out)); (case side2 => repeat (first | (with_reducible first | exact HB.out | apply bA | apply bN | apply bD | refine below_set ?_ (IsS61.ge HI276.out) | refine below_set ?_ GE273.out) | exact HB.out)); rintro e w133 ⟨rfl, hi, hb, hk⟩; refine ⟨_, rfl, ?_⟩; replace BK273 := aM (KeepBut.blk hk (g' := gb273) (o := .cells #[.slice none 0 0, .slice none 0 0, .int .i64 0] 28 (0, 0)) (by (with_reducible repeat (first | refine kN ?_ _ | refine kD ?_ | refine kA ?_ _)); exact BK273.out) NB273_276.out (by simp)); replace HB := aM (hb); replace HI276 := aM (hi); (try clear hb); (try clear hb2); (try clear hge); (try clear hk); (try clear hi)) | ((with_reducible refine gate_callee (f := 10) rfl ?_); refine goesL_ (some 15) rfl rfl Try.func10 (by kernel_rfl) rfl #[.pointer (some ⟨g276, 0, none⟩), .int .i64 t277] rfl (by first | rfl | (simp only [List.map_toArray, List.map_cons, List.map_nil, List.length_drop, List.length_take]; rfl)) ?_; (with_reducible refine (minecontroldraw_Codes_Feeder.calls k g276 t274 t278 t277 t279 t282 t285 t286 w _ ?side1 ?side2 A6.out).mono ?_); (case side1 => repeat (first | (with_reducible first | exact HI276.out | apply IsS61.alloc | apply IsS61.drewN | apply IsS61.drew | apply IsS61.set_1 | refine IsS61.far ?_ NB276_273.out _) | exact HI276.out)); (case side2 => repeat (first | (with_reducible first | exact HB.out | apply bA | apply bN | apply bD | refine below_set ?_ (IsS61.ge HI276.out) | refine below_set ?_ GE273.out) | exact HB.out)); rintro e w134 ⟨v280, v283, rfl, ho0, ho1, hi, hb, hk⟩; refine ⟨_, rfl, ?_⟩; replace BK273 := aM (KeepBut.blk hk (g' := gb273) (o := .cells #[.slice none 0 0, .slice none 0 0, .int .i64 0] 28 (0, 0)) (by (with_reducible repeat (first | refine kN ?_ _ | refine kD ?_ | refine kA ?_ _)); exact BK273.out) NB273_276.out (by simp)); have HO281 := aM (Kd.R_lower ho0 (below_size (by repeat (first | (with_reducible first | exact HB.out | apply bA | apply bN | apply bD | refine below_set ?_ (IsS61.ge HI276.out) | refine below_set ?_ GE273.out) | exact HB.out)))); have HO284 := aM (Kd.R_lower ho1 (below_size (by repeat (first | (with_reducible first | exact HB.out | apply bA | apply bN | apply bD | refine below_set ?_ (IsS61.ge HI276.out) | refine below_set ?_ GE273.out) | exact HB.out)))); replace HB := aM (hb); replace HI276 := aM (hi); (try clear hb); (try clear hb2); (try clear hge); (try clear hk); (try clear hi); (try clear ho0); (try clear ho1)) | ((with_reducible refine gate_dst (N := 8) rfl ?_); refine box_event ?hg (N := 8) ?hd (cs := #[.slice none 0 0, .slice none 0 0, .int .i64 0]) (t := 28) ?hr ?_; (case hd => rfl); (case hg => rfl); (case hr => first | (go_simp; done) | (go_simp; rfl)); intro gb287 hg w135 hbox hb; replace HO281 := aM (Kd.R_below (R_mv HO281.out) hb); replace HO284 := aM (Kd.R_below (R_mv HO284.out) hb); have BK287 := aM (hbox); have GW287 := aM ((by rw [hg]; exact (below_size (by repeat (first | (with_reducible first | exact HB.out | apply bA | apply bN | apply bD | refine below_set ?_ (IsS61.ge HI276.out) | refine below_set ?_ GE273.out) | exact HB.out))) : w.heap.size ≤ gb287)); have GE287 := aM ((by rw [hg]; exact (below_size (by repeat (first | (with_reducible first | exact HB.out | apply bA | apply bN | apply bD | refine below_set ?_ (IsS61.ge HI276.out) | refine below_set ?_ GE273.out) | exact HB.out))) : w.heap.size ≤ gb287)); replace HB := aM (below_step (by repeat (first | (with_reducible first | exact HB.out | apply bA | apply bN | apply bD | refine below_set ?_ (IsS61.ge HI276.out) | refine below_set ?_ GE273.out) | exact HB.out)) hb); have NB273_287 := aM ((by rw [hg]; exact Nat.ne_of_lt (blk_lt (blk_mv BK273.out)) : gb273 ≠ gb287)); have NB287_273 := aM ((by rw [hg]; exact Nat.ne_of_gt (blk_lt (blk_mv BK273.out)) : gb287 ≠ gb273)); replace BK273 := aM (blk_below (blk_mv BK273.out) hb); have NB276_287 := aM ((by rw [hg]; exact Nat.ne_of_lt (IsS61.lt (show IsS61 w _ g276 t274 t286 from by repeat (first | (with_reducible first | exact HI276.out | apply IsS61.alloc | apply IsS61.drewN | apply IsS61.drew | apply IsS61.set_1 | refine IsS61.far ?_ NB276_273.out _) | exact HI276.out))) : g276 ≠ gb287)); have NB287_276 := aM ((by rw [hg]; exact Nat.ne_of_gt (IsS61.lt (show IsS61 w _ g276 t274 t286 from by repeat (first | (with_reducible first | exact HI276.out | apply IsS61.alloc | apply IsS61.drewN | apply IsS61.drew | apply IsS61.set_1 | refine IsS61.far ?_ NB276_273.out _) | exact HI276.out))) : gb287 ≠ g276)); replace HI276 := aM (IsS61.below (by repeat (first | (with_reducible first | exact HI276.out | apply IsS61.alloc | apply IsS61.drewN | apply IsS61.drew | apply IsS61.set_1 | refine IsS61.far ?_ NB276_273.out _) | exact HI276.out)) hb); clear hb hbox hg; obtain ⟨Ao136, co136, eo136⟩ := Kd.R_slice HO281.out; subst eo136; have hnb137 := NB287_273.out; have hnc137 := NB273_287.out; have hnb138 := NB287_276.out; have hnc138 := NB276_287.out; obtain ⟨hcz139_0, hcz139_1, hcz139_2, hfz139_0, hfz139_1, hfz139_2⟩ := blk3 BK287.out; obtain ⟨Ao140, co140, eo140⟩ := Kd.R_slice HO284.out; subst eo140))
 have n0_ : Aside0 (Kd.R k32 32 (((w135.setCell ⟨gb287, 0, none⟩ (.slice Ao136 t279.length co136)).setCell ⟨gb287, 1, none⟩ (.slice Ao140 t282.length co140)).setCell ⟨gb287, 2, none⟩ (.int .i64 t285)) w.heap.size (fun _ => True) (.slice Ao136 t279.length co136) t279) := ⟨by (with_reducible repeat (first | apply Kd.R_alloc | apply Kd.R_drewN | apply Kd.R_drew)); exact Kd.R_mono (Kd.R_far (p := ⟨gb287, 2, none⟩) (Kd.R_far (p := ⟨gb287, 1, none⟩) (Kd.R_far (p := ⟨gb287, 0, none⟩) (Kd.R_types HO281.out BK287.out (by decide)) (fun _ hk => hk.2) (.slice Ao136 t279.length co136)) (fun _ hk => hk.2) (.slice Ao140 t282.length co140)) (fun _ hk => hk.2) (.int .i64 t285)) (fun _ hk => trivial)⟩
 have n1_ : Aside0 (Kd.R (Kd.int .i64) 3 (((w135.setCell ⟨gb287, 0, none⟩ (.slice Ao136 t279.length co136)).setCell ⟨gb287, 1, none⟩ (.slice Ao140 t282.length co140)).setCell ⟨gb287, 2, none⟩ (.int .i64 t285)) w.heap.size (fun _ => True) (.slice Ao140 t282.length co140) t282) := ⟨by (with_reducible repeat (first | apply Kd.R_alloc | apply Kd.R_drewN | apply Kd.R_drew)); exact Kd.R_mono (Kd.R_far (p := ⟨gb287, 2, none⟩) (Kd.R_far (p := ⟨gb287, 1, none⟩) (Kd.R_far (p := ⟨gb287, 0, none⟩) (Kd.R_types HO284.out BK287.out (by decide)) (fun _ hk => hk.2) (.slice Ao136 t279.length co136)) (fun _ hk => hk.2) (.slice Ao140 t282.length co140)) (fun _ hk => hk.2) (.int .i64 t285)) (fun _ hk => trivial)⟩
 have n2_ : Aside0 ((((w135.setCell ⟨gb287, 0, none⟩ (.slice Ao136 t279.length co136)).setCell ⟨gb287, 1, none⟩ (.slice Ao140 t282.length co140)).setCell ⟨gb287, 2, none⟩ (.int .i64 t285)).heap[gb273]? = some (.cells #[.slice none 0 0, .slice none 0 0, .int .i64 0] 28 (0, 0))) := ⟨by (with_reducible repeat (first | refine kN ?_ _ | refine kD ?_ | refine kA ?_ _)); refine blk_far ?_ NB273_287.out _; (with_reducible repeat (first | refine kN ?_ _ | refine kD ?_ | refine kA ?_ _)); refine blk_far ?_ NB273_287.out _; (with_reducible repeat (first | refine kN ?_ _ | refine kD ?_ | refine kA ?_ _)); refine blk_far ?_ NB273_287.out _; (with_reducible repeat (first | refine kN ?_ _ | refine kD ?_ | refine kA ?_ _)); exact BK273.out⟩
 have n3_ : Aside0 ((((w135.setCell ⟨gb287, 0, none⟩ (.slice Ao136 t279.length co136)).setCell ⟨gb287, 1, none⟩ (.slice Ao140 t282.length co140)).setCell ⟨gb287, 2, none⟩ (.int .i64 t285)).heap[gb287]? = some (.cells #[.slice Ao136 t279.length co136, .slice Ao140 t282.length co140, .int .i64 t285] 28 (0, 0))) := ⟨by (with_reducible repeat (first | refine kN ?_ _ | refine kD ?_ | refine kA ?_ _)); refine blk_put (cs := #[.slice Ao136 t279.length co136, .slice Ao140 t282.length co140, .int .i64 0]) ?_ 2 _ rfl; (with_reducible repeat (first | refine kN ?_ _ | refine kD ?_ | refine kA ?_ _)); refine blk_put (cs := #[.slice Ao136 t279.length co136, .slice none 0 0, .int .i64 0]) ?_ 1 _ rfl; (with_reducible repeat (first | refine kN ?_ _ | refine kD ?_ | refine kA ?_ _)); refine blk_put (cs := #[.slice none 0 0, .slice none 0 0, .int .i64 0]) ?_ 0 _ rfl; (with_reducible repeat (first | refine kN ?_ _ | refine kD ?_ | refine kA ?_ _)); exact BK287.out⟩
 have n4_ : Aside0 (IsS61 w (((w135.setCell ⟨gb287, 0, none⟩ (.slice Ao136 t279.length co136)).setCell ⟨gb287, 1, none⟩ (.slice Ao140 t282.length co140)).setCell ⟨gb287, 2, none⟩ (.int .i64 t285)) g276 t274 t286) := ⟨by repeat (first | (with_reducible first | exact HI276.out | apply IsS61.alloc | apply IsS61.drewN | apply IsS61.drew | apply IsS61.set_1 | refine IsS61.far ?_ NB276_273.out _ | refine IsS61.far ?_ NB276_287.out _) | exact HI276.out)⟩
 have n5_ : Aside0 (Below w.heap.size w (((w135.setCell ⟨gb287, 0, none⟩ (.slice Ao136 t279.length co136)).setCell ⟨gb287, 1, none⟩ (.slice Ao140 t282.length co140)).setCell ⟨gb287, 2, none⟩ (.int .i64 t285))) := ⟨by repeat (first | (with_reducible first | exact HB.out | apply bA | apply bN | apply bD | refine below_set ?_ (IsS61.ge HI276.out) | refine below_set ?_ GE273.out | refine below_set ?_ GE287.out) | exact HB.out)⟩
 (try clear HO281)
 (try clear HO284)
 (try clear BK273)
 (try clear BK287)
 (try clear HI276)
 (try clear HB)
 generalize (((w135.setCell ⟨gb287, 0, none⟩ (.slice Ao136 t279.length co136)).setCell ⟨gb287, 1, none⟩ (.slice Ao140 t282.length co140)).setCell ⟨gb287, 2, none⟩ (.int .i64 t285)) = w141 at n0_ n1_ n2_ n3_ n4_ n5_ ⊢
 have HO281 := n0_
 have HO284 := n1_
 have BK273 := n2_
 have BK287 := n3_
 have HI276 := n4_
 have HB := n5_
 clear n0_ n1_ n2_ n3_ n4_ n5_
 replace HO281 := aM (Kd.R_drew HO281.out)
 replace HO284 := aM (Kd.R_drew HO284.out)
 replace BK273 := aM (blk_drew BK273.out)
 replace BK287 := aM (blk_drew BK287.out)
 replace HI276 := aM (IsS61.drew HI276.out)
 replace HB := aM (below_drew1 HB.out)
 have p289 : 0 ≤ (t288 : Int) := of_decide_eq_true (by first | (with_reducible assumption) | assumption)
 have q289 : t288 < (t279.length : Int) := of_decide_eq_true (by first | (with_reducible assumption) | assumption)
 obtain ⟨ad289, e289, hx289_0, hx289_1, hx289_2, hx289_3, hx289_4⟩ := at_T32 (Kd.R_reads' HO281.out).2.2 t288 p289 q289
 cases e289
 replace p289 := eq_true p289
 replace q289 := eq_true q289
 refine start_ (n := 9) (S := fun w' => w'.cell? ⟨gb287, 0, none⟩ = some (.slice (some ad289) t279.length co136) ∧ w'.cell? ⟨gb287, 1, none⟩ = some (.slice Ao140 t282.length co140) ∧ w'.cell? ⟨gb287, 2, none⟩ = some (.int .i64 t285) ∧ w'.cell? (ad289.add ((t288).toNat * 5)) = some (.int .i64 ((rd_T32 t279 t288).f0)) ∧ w'.cell? ⟨(ad289.add ((t288).toNat * 5)).block, (ad289.add ((t288).toNat * 5)).off + 1, none⟩ = some (.int .i64 ((rd_T32 t279 t288).f1)) ∧ w'.cell? ⟨(ad289.add ((t288).toNat * 5)).block, (ad289.add ((t288).toNat * 5)).off + 2, none⟩ = some (.int .i64 ((rd_T32 t279 t288).f2)) ∧ w'.cell? ⟨(ad289.add ((t288).toNat * 5)).block, (ad289.add ((t288).toNat * 5)).off + 3, none⟩ = some (.bool ((rd_T32 t279 t288).f3)) ∧ w'.cell? ⟨(ad289.add ((t288).toNat * 5)).block, (ad289.add ((t288).toNat * 5)).off + 4, none⟩ = some (.bool ((rd_T32 t279 t288).f4))) (ds := []) #[false, false, false, false, false, false, false, false, false] (by kernel_rfl) rfl rfl ⟨(blk_cell BK287.out 0).trans rfl, (blk_cell BK287.out 1).trans rfl, (blk_cell BK287.out 2).trans rfl, hx289_0, hx289_1, hx289_2, hx289_3, hx289_4⟩ (fun hHeld => ?_); refine with_tabW minecontrollaw18_made.tab3 minecontrollaw18_made.bits3 (fun HT_ HW_ => ?_)
 generalize w141.drew = w142 at HO281 HO284 BK273 BK287 HI276 HB hx289_0 hx289_1 hx289_2 hx289_3 hx289_4 hHeld ⊢
 refine pure_ (i := 0) (N := some 16) (v := ?_) (a' := ?_) #[true, false, false, false, false, false, false, false, false] rfl rfl (any_of HT_.out (by kernel_rfl)) (fun _ _ _ h => h) (Or.inl ⟨by rfl, ?_⟩) ?_ ?_
 rotate_left
 ·
  intro w'
  go_simp
  with_reducible rfl
 rotate_left
 ·
  simp only [Act.put, sT, sZ, sS, i64_w, i32_w]
  rfl
 refine pure_ (i := 2) (N := some 18) (v := ?_) (a' := ?_) #[true, false, true, false, false, false, false, false, false] rfl rfl (any_of HT_.out (by kernel_rfl)) (fun _ _ _ h => h) (Or.inl ⟨by rfl, ?_⟩) ?_ ?_
 rotate_left
 ·
  intro w'
  go_simp
  with_reducible rfl
 rotate_left
 ·
  simp only [Act.put, sT, sZ, sS, i64_w, i32_w]
  rfl
 refine pure_ (i := 3) (N := some 19) (v := ?_) (a' := ?_) #[true, false, true, true, false, false, false, false, false] rfl rfl (any_of HT_.out (by kernel_rfl)) (fun _ _ _ h => h) (Or.inl ⟨by rfl, ?_⟩) ?_ ?_
 rotate_left
 ·
  intro w'
  go_simp
  with_reducible rfl
 rotate_left
 ·
  simp only [Act.put, sT, sZ, sS, i64_w, i32_w]
  rfl
 refine take_ (i := 1) (N := some 17) (v := ?_) (a' := ?_) #[true, true, true, true, false, false, false, false, false] rfl rfl (take_ofW HT_.out HW_.out (by kernel_rfl)) (fun _ _ _ h => h) (Or.inl ⟨by rfl, ?_⟩) hHeld ?_ ?_
 rotate_left
 ·
  rintro w' ⟨s0, s1, s2, s3, s4, s5, s6, s7⟩
  go_simp
  with_reducible rfl
 rotate_left
 ·
  simp only [Act.put, sT, sZ, sS, i64_w, i32_w]
  rfl
 refine take_ (i := 4) (N := some 20) (v := ?_) (a' := ?_) #[true, true, true, true, true, false, false, false, false] rfl rfl (take_ofW HT_.out HW_.out (by kernel_rfl)) (fun _ _ _ h => h) (Or.inl ⟨by rfl, ?_⟩) hHeld ?_ ?_
 rotate_left
 ·
  rintro w' ⟨s0, s1, s2, s3, s4, s5, s6, s7⟩
  go_simp
  with_reducible rfl
 rotate_left
 ·
  simp only [Act.put, sT, sZ, sS, i64_w, i32_w]
  rfl
 refine pure_ (i := 5) (N := some 21) (v := ?_) (a' := ?_) #[true, true, true, true, true, true, false, false, false] rfl rfl (any_of HT_.out (by kernel_rfl)) (fun _ _ _ h => h) (Or.inl ⟨by rfl, ?_⟩) ?_ ?_
 rotate_left
 ·
  intro w'
  go_simp
  with_reducible rfl
 rotate_left
 ·
  simp only [Act.put, sT, sZ, sS, i64_w, i32_w]
  rfl
 refine one_ (i := 6) (N := some 22) #[true, true, true, true, true, true, true, false, false] rfl rfl (one_of HT_.out (by kernel_rfl)) (by decide) (fun K hK => ?_)
 refine goes_ Try.func12 (by kernel_rfl) rfl #[.int .i64 a1, .int .i64 (t279.length : Int)] (by rfl) rfl rfl (by first | rfl | (simp only [List.map_toArray, List.map_cons, List.map_nil, List.length_drop, List.length_take]; rfl)) ?_
 with_reducible refine (minecontroldraw_Mod.calls a1 (t279.length : Int) t288 _ A7.out).mono ?_
 rintro e w' ⟨rfl, ⟨nd, rfl⟩⟩
 refine ⟨_, rfl, ?_⟩
 refine hK.out _ _ ⟨(blk_cell BK287.out 0).trans rfl, (blk_cell BK287.out 1).trans rfl, (blk_cell BK287.out 2).trans rfl, hHeld.2.2.2.1, hHeld.2.2.2.2.1, hHeld.2.2.2.2.2.1, hHeld.2.2.2.2.2.2.1, hHeld.2.2.2.2.2.2.2⟩ (fun hHeld => ?_)
 clear hK K
 refine norm_ (a' := ?_) ?_ ?_
 rotate_left
 ·
  show Act.put _ (some 22) _ = _
  simp only [Act.put, sT, sZ, sS, i64_w, i32_w]
  rfl
 refine pure_ (i := 7) (N := some 23) (v := ?_) (a' := ?_) #[true, true, true, true, true, true, true, true, false] rfl rfl (any_of HT_.out (by kernel_rfl)) (fun _ _ _ h => h) (Or.inl ⟨by rfl, ?_⟩) ?_ ?_
 rotate_left
 ·
  intro w'
  go_simp
  with_reducible rfl
 rotate_left
 ·
  simp only [Act.put, sT, sZ, sS, i64_w, i32_w]
  rfl
 refine pure_ (i := 8) (N := some 9) (v := ?_) (a' := ?_) #[true, true, true, true, true, true, true, true, true] rfl rfl (any_of HT_.out (by kernel_rfl)) (fun _ _ _ h => h) (Or.inl ⟨by rfl, ?_⟩) ?_ ?_
 rotate_left
 ·
  intro w'
  go_simp
  with_reducible rfl
 rotate_left
 ·
  simp only [Act.put, sT, sZ, sS, i64_w, i32_w]
  rfl
 refine done_ (done_of HT_.out (by kernel_rfl)) ?_
 try go_wp2_with (first | ((with_reducible refine gate_callee (f := 11) rfl ?_); refine goesL_ (some 25) rfl rfl Try.func11 (by kernel_rfl) rfl #[.pointer (some ⟨g276, 0, none⟩), .int .i64 12] rfl (by first | rfl | (simp only [List.map_toArray, List.map_cons, List.map_nil, List.length_drop, List.length_take]; rfl)) ?_; (with_reducible refine (minecontroldraw_Codes_Next.calls k g276 t274 t286 12 t290 t291 w _ ?side1 ?side2 A10.out).mono ?_); (case side1 => repeat (first | (with_reducible first | exact HI276.out | apply IsS61.alloc | apply IsS61.drewN | apply IsS61.drew | apply IsS61.set_1 | refine IsS61.far ?_ NB276_273.out _ | refine IsS61.far ?_ NB276_287.out _) | exact HI276.out)); (case side2 => repeat (first | (with_reducible first | exact HB.out | apply bA | apply bN | apply bD | refine below_set ?_ (IsS61.ge HI276.out) | refine below_set ?_ GE273.out | refine below_set ?_ GE287.out) | exact HB.out)); rintro e w143 ⟨rfl, hi, hb, hk⟩; refine ⟨_, rfl, ?_⟩; replace BK273 := aM (KeepBut.blk hk (g' := gb273) (o := .cells #[.slice none 0 0, .slice none 0 0, .int .i64 0] 28 (0, 0)) (by (with_reducible repeat (first | refine kN ?_ _ | refine kD ?_ | refine kA ?_ _)); exact BK273.out) NB273_276.out (by simp)); replace HO281 := aM (Kd.R_mono (Kd.R_keep (IsS61.apart (show IsS61 w _ g276 t274 t286 from by repeat (first | (with_reducible first | exact HI276.out | apply IsS61.alloc | apply IsS61.drewN | apply IsS61.drew | apply IsS61.set_1 | refine IsS61.far ?_ NB276_273.out _ | refine IsS61.far ?_ NB276_287.out _) | exact HI276.out)) (R_mv HO281.out) (by decide)) hk (fun _ h => h.2)) (fun _ h => h.1)); replace HO284 := aM (Kd.R_mono (Kd.R_keep (IsS61.apart (show IsS61 w _ g276 t274 t286 from by repeat (first | (with_reducible first | exact HI276.out | apply IsS61.alloc | apply IsS61.drewN | apply IsS61.drew | apply IsS61.set_1 | refine IsS61.far ?_ NB276_273.out _ | refine IsS61.far ?_ NB276_287.out _) | exact HI276.out)) (R_mv HO284.out) (by decide)) hk (fun _ h => h.2)) (fun _ h => h.1)); replace BK287 := aM (KeepBut.blk hk (g' := gb287) (o := .cells #[.slice (some ad289) t279.length co136, .slice Ao140 t282.length co140, .int .i64 t285] 28 (0, 0)) (by (with_reducible repeat (first | refine kN ?_ _ | refine kD ?_ | refine kA ?_ _)); exact BK287.out) NB287_276.out (by simp)); replace HB := aM (hb); replace HI276 := aM (hi); (try clear hb); (try clear hb2); (try clear hge); (try clear hk); (try clear hi); obtain ⟨hcz144_0, hcz144_1, hcz144_2, hfz144_0, hfz144_1, hfz144_2⟩ := blk3 BK287.out; have hnb145 := NB273_276.out; have hnc145 := NB276_273.out; obtain ⟨hcz146_0, hcz146_1, hcz146_2, hfz146_0, hfz146_1, hfz146_2⟩ := blk3 BK273.out))
 refine bodyPost_ret (results_cell_row rfl _ _ gb273 28 #[.slice (some ad289) t279.length co136, .slice Ao140 t282.length co140, .int .i64 t285] (0, 0) _ rfl (by (with_reducible repeat (first | refine kN ?_ _ | refine kD ?_ | refine kA ?_ _)); refine blk_put (cs := #[.slice (some ad289) t279.length co136, .slice Ao140 t282.length co140, .int .i64 0]) ?_ 2 _ rfl; (with_reducible repeat (first | refine kN ?_ _ | refine kD ?_ | refine kA ?_ _)); refine blk_put (cs := #[.slice (some ad289) t279.length co136, .slice none 0 0, .int .i64 0]) ?_ 1 _ rfl; (with_reducible repeat (first | refine kN ?_ _ | refine kD ?_ | refine kA ?_ _)); refine blk_put (cs := #[.slice none 0 0, .slice none 0 0, .int .i64 0]) ?_ 0 _ rfl; (with_reducible repeat (first | refine kN ?_ _ | refine kD ?_ | refine kA ?_ _)); exact BK273.out) Try.underlying28 rfl (by kernel_rfl)) rfl ?_
 exact ⟨_, _, by first | rfl | (simp [errW_none, errW_some] <;> rfl) | (simp [*, errW_none, errW_some] <;> rfl), by (with_reducible repeat (first | apply Kd.R_alloc | apply Kd.R_drewN | apply Kd.R_drew)); exact Kd.R_mono (Kd.R_far (p := ⟨gb273, 2, none⟩) (Kd.R_far (p := ⟨gb273, 1, none⟩) (Kd.R_far (p := ⟨gb273, 0, none⟩) (Kd.R_types HO281.out BK273.out (by decide)) (fun _ hk => hk.2) (.slice (some ad289) t279.length co136)) (fun _ hk => hk.2) (.slice Ao140 t282.length co140)) (fun _ hk => hk.2) (.int .i64 t285)) (fun _ hk => trivial), by (with_reducible repeat (first | apply Kd.R_alloc | apply Kd.R_drewN | apply Kd.R_drew)); exact Kd.R_mono (Kd.R_far (p := ⟨gb273, 2, none⟩) (Kd.R_far (p := ⟨gb273, 1, none⟩) (Kd.R_far (p := ⟨gb273, 0, none⟩) (Kd.R_types HO284.out BK273.out (by decide)) (fun _ hk => hk.2) (.slice (some ad289) t279.length co136)) (fun _ hk => hk.2) (.slice Ao140 t282.length co140)) (fun _ hk => hk.2) (.int .i64 t285)) (fun _ hk => trivial), by repeat (first | (with_reducible first | exact HB.out | apply bA | apply bN | apply bD | refine below_set ?_ (IsS61.ge HI276.out) | refine below_set ?_ GE273.out | refine below_set ?_ GE287.out) | exact HB.out)⟩

end Go.Proofs.Ytcgeflbifbaecaa.PFek
