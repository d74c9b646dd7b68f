/- Functions of the given program as Lean functions, and proofs that its calls come to what these say. Written by a program of this seat (wip/mkprint.py); Lean checks it all. -/
import Derived.Test.YtcgeflbifbaecaaPFecx0
import Derived.Test.YtcgeflbifbaecaaPFecx1
import Derived.Test.YtcgeflbifbaecaaPFecx2
import Derived.Test.YtcgeflbifbaecaaPFecx6
import Derived.Test.YtcgeflbifbaecaaPFecx7
namespace Go.Proofs.Ytcgeflbifbaecaa.PFec
open Go.RowKit Go.Proofs.YtcgeflbifbaecaaW.PrintWords Go.Proofs.YtcgeflbifbaecaaW.PrintLast Go.Proofs.YtcgeflbifbaecaaW.PrintMore
attribute [local go_sem] max2_int min2_int max_two min_two max_three min_three max_four min_four   -- for this text's walks alone
set_option linter.unusedVariables false
set_option linter.unusedSimpArgs false

/-! ### minecontrollaw18_FeederCloses: function 5 -/
def minecontrollaw18_FeederCloses.j0 : Nat → Int → Int → Bool → List (S32) → List Int → Int → List (S32) → List Int → Int → Option (Bool)
 | 0, _, _, _, _, _, _, _, _, _ => none
 | k + 1, x7, x9, x11, x304000, x304001, x304002, x314000, x314001, x314002 => (minecontrolref18_Check.f k x304000 x304001 x304002).bind fun t317 => (if t317 = 0 then (if x11 = true then (if x9 = 0 then (if (x314000.length : Int) = (x304000.length : Int) then (if 0 ≤ x7 then (if x7 < (x314000.length : Int) then (if (rd_T32 x314000 x7).f3 = true then (if ((rd_T32 x314000 x7).f2) = 0 then (if ((rd_T32 x314000 x7).f1) = 5 then ((minecontrollaw18_awake.f k).bind fun t322 => (some t322)) else (some false)) else (some false)) else (some false)) else (none)) else (none)) else (some false)) else (some false)) else (if x9 = 10 then ((minecontrollaw18_awake.f k).bind fun t323 => (some t323)) else (some false))) else (if x9 = 0 then (some false) else ((minecontrollaw18_awake.f k).bind fun t318 => (some t318))))
def minecontrollaw18_FeederCloses.f (k : Nat) (l0 : List Int) (a1 : Int) : Option (Bool) := (minecontroldraw_New.f l0).bind fun bt290 => ((minecontroldraw_Codes_Next.f k bt290.1 bt290.2 4).bind fun bt293 => ((minecontroldraw_Codes_Feeder.f k bt290.1 bt293.2 bt293.1).bind fun bt295 => ((minecontroldraw_Mod.f a1 (bt295.1.length : Int)).bind fun t304 => ((feeder_Close.f k bt295.1 bt295.2.1 bt295.2.2.1 t304 5).bind fun bt305 => (if 0 ≤ t304 then (if t304 < (bt295.1.length : Int) then (if ((rd_T32 bt295.1 t304).f2) = (-1) then (if ((rd_T32 bt295.1 t304).f0) = (-1) then (minecontrollaw18_FeederCloses.j0 k t304 bt305.2.2.2 true bt295.1 bt295.2.1 bt295.2.2.1 bt305.1 bt305.2.1 bt305.2.2.1) else (if 0 ≤ ((rd_T32 bt295.1 t304).f0) then (if ((rd_T32 bt295.1 t304).f0) < (bt295.1.length : Int) then (minecontrollaw18_FeederCloses.j0 k t304 bt305.2.2.2 (((rd_T32 bt295.1 ((rd_T32 bt295.1 t304).f0)).f2) == 1) bt295.1 bt295.2.1 bt295.2.2.1 bt305.1 bt305.2.1 bt305.2.2.1) else (none)) else (none))) else (minecontrollaw18_FeederCloses.j0 k t304 bt305.2.2.2 false bt295.1 bt295.2.1 bt295.2.2.1 bt305.1 bt305.2.1 bt305.2.2.1)) else (none)) else (none))))))
theorem minecontrollaw18_FeederCloses.mono_l : ∀ k, (∀ y0 y1 y2 y3 y4 y5 y6 y7 y8, LeO (minecontrollaw18_FeederCloses.j0 k y0 y1 y2 y3 y4 y5 y6 y7 y8) (minecontrollaw18_FeederCloses.j0 (k + 1) y0 y1 y2 y3 y4 y5 y6 y7 y8))
 | 0 => fun _ _ _ _ _ _ _ _ _ r h => by simp [minecontrollaw18_FeederCloses.j0] at h
 | k + 1 => by
  have ih0 := minecontrollaw18_FeederCloses.mono_l k
  ·
   intro y0 y1 y2 y3 y4 y5 y6 y7 y8
   unfold minecontrollaw18_FeederCloses.j0
   repeat' first
   | (with_reducible exact ih0 _ _ _ _ _ _ _ _ _)
   | (with_reducible exact feeder_Close.mono _ _ _ _ _ _)
   | (with_reducible exact minecontroldraw_Codes_Feeder.mono _ _ _ _)
   | (with_reducible exact minecontroldraw_Codes_Next.mono _ _ _ _)
   | (with_reducible exact minecontrollaw18_awake.mono _)
   | (with_reducible exact minecontrolref18_Check.mono _ _ _ _)
   | (with_reducible exact LeO.refl _)
   | (with_reducible exact LeO.none _)
   | (with_reducible refine LeO.ite ?_ ?_)
   | (with_reducible refine LeO.bind ?_ (fun _ => ?_))
   | exact ih0 _ _ _ _ _ _ _ _ _
   | exact feeder_Close.mono _ _ _ _ _ _
   | exact minecontroldraw_Codes_Feeder.mono _ _ _ _
   | exact minecontroldraw_Codes_Next.mono _ _ _ _
   | exact minecontrollaw18_awake.mono _
   | exact minecontrolref18_Check.mono _ _ _ _
   | exact LeO.none _
   | refine LeO.ite ?_ ?_
   | refine LeO.bind ?_ (fun _ => ?_)
theorem minecontrollaw18_FeederCloses.mono : ∀ a0 a1 k, LeO (minecontrollaw18_FeederCloses.f k a0 a1) (minecontrollaw18_FeederCloses.f (k + 1) a0 a1) := by
 intro a0 a1 k
 have ih0 := minecontrollaw18_FeederCloses.mono_l k
 unfold minecontrollaw18_FeederCloses.f
 repeat' first
   | (with_reducible exact ih0 _ _ _ _ _ _ _ _ _)
   | (with_reducible exact feeder_Close.mono _ _ _ _ _ _)
   | (with_reducible exact minecontroldraw_Codes_Feeder.mono _ _ _ _)
   | (with_reducible exact minecontroldraw_Codes_Next.mono _ _ _ _)
   | (with_reducible exact minecontrollaw18_awake.mono _)
   | (with_reducible exact minecontrolref18_Check.mono _ _ _ _)
   | (with_reducible exact LeO.refl _)
   | (with_reducible exact LeO.none _)
   | (with_reducible refine LeO.ite ?_ ?_)
   | (with_reducible refine LeO.bind ?_ (fun _ => ?_))
   | exact ih0 _ _ _ _ _ _ _ _ _
   | exact feeder_Close.mono _ _ _ _ _ _
   | exact minecontroldraw_Codes_Feeder.mono _ _ _ _
   | exact minecontroldraw_Codes_Next.mono _ _ _ _
   | exact minecontrollaw18_awake.mono _
   | exact minecontrolref18_Check.mono _ _ _ _
   | exact LeO.none _
   | refine LeO.ite ?_ ?_
   | refine LeO.bind ?_ (fun _ => ?_)
set_option maxHeartbeats 8000000 in
set_option maxRecDepth 100000 in
theorem minecontrollaw18_FeederCloses.calls1 (k : Nat) (A0 : Option Addr) (c0 : Nat) (l0 : List Int) (a1 : Int) (r : Bool) (w : World) (hr0 : Kd.C (Kd.int .u8) w A0 l0.length l0) (hc0 : l0.length ≤ c0) (hr_ : Aside0 (r = true)) (h : minecontrollaw18_FeederCloses.f k l0 a1 = some r) :
  Calls Try.prog 5 #[.slice A0 l0.length c0, .int .i64 a1] w fun e w' => e = .returned (.bool r) ∧ Below w.heap.size w w' := by
 have hu28 := Try.underlying28
 have HR0 := Aside0.mk hr0
 have HC0 := Aside0.mk hc0
 clear hr0 hc0
 have HB := Aside0.mk (Below.refl w.heap.size w)
 have H : ((minecontroldraw_New.f l0).bind fun bt290 => ((minecontroldraw_Codes_Next.f k bt290.1 bt290.2 4).bind fun bt293 => ((minecontroldraw_Codes_Feeder.f k bt290.1 bt293.2 bt293.1).bind fun bt295 => ((minecontroldraw_Mod.f a1 (bt295.1.length : Int)).bind fun t304 => ((feeder_Close.f k bt295.1 bt295.2.1 bt295.2.2.1 t304 5).bind fun bt305 => (if 0 ≤ t304 then (if t304 < (bt295.1.length : Int) then (if ((rd_T32 bt295.1 t304).f2) = (-1) then (if ((rd_T32 bt295.1 t304).f0) = (-1) then (minecontrollaw18_FeederCloses.j0 k t304 bt305.2.2.2 true bt295.1 bt295.2.1 bt295.2.2.1 bt305.1 bt305.2.1 bt305.2.2.1) else (if 0 ≤ ((rd_T32 bt295.1 t304).f0) then (if ((rd_T32 bt295.1 t304).f0) < (bt295.1.length : Int) then (minecontrollaw18_FeederCloses.j0 k t304 bt305.2.2.2 (((rd_T32 bt295.1 ((rd_T32 bt295.1 t304).f0)).f2) == 1) bt295.1 bt295.2.1 bt295.2.2.1 bt305.1 bt305.2.1 bt305.2.2.1) else (none)) else (none))) else (minecontrollaw18_FeederCloses.j0 k t304 bt305.2.2.2 false bt295.1 bt295.2.1 bt295.2.2.1 bt305.1 bt305.2.1 bt305.2.2.1)) else (none)) else (none))))))) = some r := h
 clear h
 replace H := Option.bind_eq_some_iff.mp H
 obtain ⟨⟨t290, t291⟩, A30, H⟩ := H
 replace H : ((minecontroldraw_Codes_Next.f k t290 t291 4).bind fun bt293 => ((minecontroldraw_Codes_Feeder.f k t290 bt293.2 bt293.1).bind fun bt295 => ((minecontroldraw_Mod.f a1 (bt295.1.length : Int)).bind fun t304 => ((feeder_Close.f k bt295.1 bt295.2.1 bt295.2.2.1 t304 5).bind fun bt305 => (if 0 ≤ t304 then (if t304 < (bt295.1.length : Int) then (if ((rd_T32 bt295.1 t304).f2) = (-1) then (if ((rd_T32 bt295.1 t304).f0) = (-1) then (minecontrollaw18_FeederCloses.j0 k t304 bt305.2.2.2 true bt295.1 bt295.2.1 bt295.2.2.1 bt305.1 bt305.2.1 bt305.2.2.1) else (if 0 ≤ ((rd_T32 bt295.1 t304).f0) then (if ((rd_T32 bt295.1 t304).f0) < (bt295.1.length : Int) then (minecontrollaw18_FeederCloses.j0 k t304 bt305.2.2.2 (((rd_T32 bt295.1 ((rd_T32 bt295.1 t304).f0)).f2) == 1) bt295.1 bt295.2.1 bt295.2.2.1 bt305.1 bt305.2.1 bt305.2.2.1) else (none)) else (none))) else (minecontrollaw18_FeederCloses.j0 k t304 bt305.2.2.2 false bt295.1 bt295.2.1 bt295.2.2.1 bt305.1 bt305.2.1 bt305.2.2.1)) else (none)) else (none)))))) = some r := H
 have A3 := Aside0.mk A30
 clear A30
 replace H := Option.bind_eq_some_iff.mp H
 obtain ⟨⟨t293, t294⟩, A40, H⟩ := H
 replace H : ((minecontroldraw_Codes_Feeder.f k t290 t294 t293).bind fun bt295 => ((minecontroldraw_Mod.f a1 (bt295.1.length : Int)).bind fun t304 => ((feeder_Close.f k bt295.1 bt295.2.1 bt295.2.2.1 t304 5).bind fun bt305 => (if 0 ≤ t304 then (if t304 < (bt295.1.length : Int) then (if ((rd_T32 bt295.1 t304).f2) = (-1) then (if ((rd_T32 bt295.1 t304).f0) = (-1) then (minecontrollaw18_FeederCloses.j0 k t304 bt305.2.2.2 true bt295.1 bt295.2.1 bt295.2.2.1 bt305.1 bt305.2.1 bt305.2.2.1) else (if 0 ≤ ((rd_T32 bt295.1 t304).f0) then (if ((rd_T32 bt295.1 t304).f0) < (bt295.1.length : Int) then (minecontrollaw18_FeederCloses.j0 k t304 bt305.2.2.2 (((rd_T32 bt295.1 ((rd_T32 bt295.1 t304).f0)).f2) == 1) bt295.1 bt295.2.1 bt295.2.2.1 bt305.1 bt305.2.1 bt305.2.2.1) else (none)) else (none))) else (minecontrollaw18_FeederCloses.j0 k t304 bt305.2.2.2 false bt295.1 bt295.2.1 bt295.2.2.1 bt305.1 bt305.2.1 bt305.2.2.1)) else (none)) else (none))))) = some r := H
 have A4 := Aside0.mk A40
 clear A40
 replace H := Option.bind_eq_some_iff.mp H
 obtain ⟨⟨t295, t298, t301, t302⟩, A50, H⟩ := H
 replace H : ((minecontroldraw_Mod.f a1 (t295.length : Int)).bind fun t304 => ((feeder_Close.f k t295 t298 t301 t304 5).bind fun bt305 => (if 0 ≤ t304 then (if t304 < (t295.length : Int) then (if ((rd_T32 t295 t304).f2) = (-1) then (if ((rd_T32 t295 t304).f0) = (-1) then (minecontrollaw18_FeederCloses.j0 k t304 bt305.2.2.2 true t295 t298 t301 bt305.1 bt305.2.1 bt305.2.2.1) else (if 0 ≤ ((rd_T32 t295 t304).f0) then (if ((rd_T32 t295 t304).f0) < (t295.length : Int) then (minecontrollaw18_FeederCloses.j0 k t304 bt305.2.2.2 (((rd_T32 t295 ((rd_T32 t295 t304).f0)).f2) == 1) t295 t298 t301 bt305.1 bt305.2.1 bt305.2.2.1) else (none)) else (none))) else (minecontrollaw18_FeederCloses.j0 k t304 bt305.2.2.2 false t295 t298 t301 bt305.1 bt305.2.1 bt305.2.2.1)) else (none)) else (none)))) = some r := H
 have A5 := Aside0.mk A50
 clear A50
 replace H := Option.bind_eq_some_iff.mp H
 obtain ⟨t304, A60, H⟩ := H
 replace H : ((feeder_Close.f k t295 t298 t301 t304 5).bind fun bt305 => (if 0 ≤ t304 then (if t304 < (t295.length : Int) then (if ((rd_T32 t295 t304).f2) = (-1) then (if ((rd_T32 t295 t304).f0) = (-1) then (minecontrollaw18_FeederCloses.j0 k t304 bt305.2.2.2 true t295 t298 t301 bt305.1 bt305.2.1 bt305.2.2.1) else (if 0 ≤ ((rd_T32 t295 t304).f0) then (if ((rd_T32 t295 t304).f0) < (t295.length : Int) then (minecontrollaw18_FeederCloses.j0 k t304 bt305.2.2.2 (((rd_T32 t295 ((rd_T32 t295 t304).f0)).f2) == 1) t295 t298 t301 bt305.1 bt305.2.1 bt305.2.2.1) else (none)) else (none))) else (minecontrollaw18_FeederCloses.j0 k t304 bt305.2.2.2 false t295 t298 t301 bt305.1 bt305.2.1 bt305.2.2.1)) else (none)) else (none))) = some r := H
 have A6 := Aside0.mk A60
 clear A60
 replace H := Option.bind_eq_some_iff.mp H
 obtain ⟨⟨t305, t308, t311, t312⟩, A70, H⟩ := H
 replace H : (if 0 ≤ t304 then (if t304 < (t295.length : Int) then (if ((rd_T32 t295 t304).f2) = (-1) then (if ((rd_T32 t295 t304).f0) = (-1) then (minecontrollaw18_FeederCloses.j0 k t304 t312 true t295 t298 t301 t305 t308 t311) else (if 0 ≤ ((rd_T32 t295 t304).f0) then (if ((rd_T32 t295 t304).f0) < (t295.length : Int) then (minecontrollaw18_FeederCloses.j0 k t304 t312 (((rd_T32 t295 ((rd_T32 t295 t304).f0)).f2) == 1) t295 t298 t301 t305 t308 t311) else (none)) else (none))) else (minecontrollaw18_FeederCloses.j0 k t304 t312 false t295 t298 t301 t305 t308 t311)) else (none)) else (none)) = some r := H
 have A7 := Aside0.mk A70
 clear A70
 by_cases c8 : 0 ≤ t304
 rotate_left
 ·
  rw [if_neg c8] at H
  exact absurd H (by simp)
 rw [if_pos c8] at H
 have c8b0 : decide (0 ≤ t304) = true := decide_eq_true c8
 clear c8
 by_cases c9 : t304 < (t295.length : Int)
 rotate_left
 ·
  rw [if_neg c9] at H
  exact absurd H (by simp)
 rw [if_pos c9] at H
 have c9b0 : decide (t304 < (t295.length : Int)) = true := decide_eq_true c9
 clear c9
 have HC10 := Aside0.mk H
 clear H
 go_enter Try.func5, Try.ntmps5
 go_upto_region 6 with (first | ((with_reducible refine gate_callee (f := 9) rfl ?_); refine goesL_ (some 13) rfl rfl Try.func9 (by kernel_rfl) rfl #[.slice A0 l0.length c0] rfl (by (try simp only [List.map_toArray, List.map_cons, List.map_nil]); first | done | rfl | (simp only [List.length_drop, List.length_take]; rfl)) ?_; (with_reducible refine (minecontroldraw_New.calls _ _ l0 t290 t291 w _ ?side1 ?side2 ?side3 A3.out).mono ?_); (case side1 => repeat (first | (with_reducible first | exact HB.out | apply below_alloc | apply pw_below_drewN | apply below_drew1) | exact HB.out)); (case side2 => exact HR0.out); (case side3 => exact HC0.out); rintro e w11 ⟨g292, rfl, hi, hb, hb2, hge⟩; refine ⟨_, rfl, ?_⟩; have n0_ := Aside0.mk (hb); have n1_ := Aside0.mk (hi); clear HB; have HB := n0_; have HI292 := n1_; clear n0_ n1_; (try clear hb); (try clear hb2); (try clear hge); (try clear hk); (try clear hi)) | ((with_reducible refine gate_callee (f := 11) rfl ?_); refine goesL_ (some 16) rfl rfl Try.func11 (by kernel_rfl) rfl #[.pointer (some ⟨g292, 0, none⟩), .int .i64 4] rfl (by (try simp only [List.map_toArray, List.map_cons, List.map_nil]); first | done | rfl | (simp only [List.length_drop, List.length_take]; rfl)) ?_; (with_reducible refine (minecontroldraw_Codes_Next.calls k g292 t290 t291 4 t293 t294 w _ ?side1 ?side2 A4.out).mono ?_); (case side1 => repeat (first | (with_reducible first | exact HI292.out | apply IsS61.alloc | apply IsS61.drewN | apply IsS61.drew | apply IsS61.set_1) | exact HI292.out)); (case side2 => repeat (first | (with_reducible first | exact HB.out | apply below_alloc | apply pw_below_drewN | apply below_drew1 | refine below_set ?_ (IsS61.ge HI292.out)) | exact HB.out)); rintro e w12 ⟨rfl, hi, hb, hk⟩; refine ⟨_, rfl, ?_⟩; have n0_ := Aside0.mk (hb); have n1_ := Aside0.mk (hi); clear HB; clear HI292; have HB := n0_; have HI292 := n1_; clear n0_ n1_; (try clear hb); (try clear hb2); (try clear hge); (try clear hk); (try clear hi)) | ((with_reducible refine gate_callee (f := 10) rfl ?_); refine goesL_ (some 17) rfl rfl Try.func10 (by kernel_rfl) rfl #[.pointer (some ⟨g292, 0, none⟩), .int .i64 t293] rfl (by (try simp only [List.map_toArray, List.map_cons, List.map_nil]); first | done | rfl | (simp only [List.length_drop, List.length_take]; rfl)) ?_; (with_reducible refine (minecontroldraw_Codes_Feeder.calls k g292 t290 t294 t293 t295 t298 t301 t302 w _ ?side1 ?side2 A5.out).mono ?_); (case side1 => repeat (first | (with_reducible first | exact HI292.out | apply IsS61.alloc | apply IsS61.drewN | apply IsS61.drew | apply IsS61.set_1) | exact HI292.out)); (case side2 => repeat (first | (with_reducible first | exact HB.out | apply below_alloc | apply pw_below_drewN | apply below_drew1 | refine below_set ?_ (IsS61.ge HI292.out)) | exact HB.out)); rintro e w13 ⟨v296, v299, rfl, ho0, ho1, hi, hb, hk⟩; refine ⟨_, rfl, ?_⟩; have n0_ := Aside0.mk (Kd.R_lower ho0 (below_size (by repeat (first | (with_reducible first | exact HB.out | apply below_alloc | apply pw_below_drewN | apply below_drew1 | refine below_set ?_ (IsS61.ge HI292.out)) | exact HB.out)))); have n1_ := Aside0.mk (Kd.R_lower ho1 (below_size (by repeat (first | (with_reducible first | exact HB.out | apply below_alloc | apply pw_below_drewN | apply below_drew1 | refine below_set ?_ (IsS61.ge HI292.out)) | exact HB.out)))); have n2_ := Aside0.mk (hb); have n3_ := Aside0.mk (hi); clear HB; clear HI292; have HO297 := n0_; have HO300 := n1_; have HB := n2_; have HI292 := n3_; clear n0_ n1_ n2_ n3_; (try clear hb); (try clear hb2); (try clear hge); (try clear hk); (try clear hi); (try clear ho0); (try clear ho1)) | ((with_reducible refine gate_dst (N := 6) rfl ?_); (try (refine gate_guard (by rfl) ?_; dsimp only)); refine box_event ?hg (N := 6) ?hd (cs := #[.slice none 0 0, .slice none 0 0, .int .i64 0]) (t := 28) ?hr ?_; (case hd => rfl); (case hg => rfl); (case hr => first | (go_simp; done) | (go_simp; rfl)); intro gb303 hg w14 hbox hb; have n0_ := Aside0.mk (Kd.R_below (by (with_reducible repeat (first | apply Kd.R_alloc | apply Kd.R_drewN | apply Kd.R_drew)); exact HO297.out) hb); have n1_ := Aside0.mk (Kd.R_below (by (with_reducible repeat (first | apply Kd.R_alloc | apply Kd.R_drewN | apply Kd.R_drew)); exact HO300.out) hb); have n2_ := Aside0.mk (IsS61.below (by repeat (first | (with_reducible first | exact HI292.out | apply IsS61.alloc | apply IsS61.drewN | apply IsS61.drew | apply IsS61.set_1) | exact HI292.out)) hb); have n3_ := Aside0.mk (below_step (by repeat (first | (with_reducible first | exact HB.out | apply below_alloc | apply pw_below_drewN | apply below_drew1 | refine below_set ?_ (IsS61.ge HI292.out)) | exact HB.out)) hb); have n4_ := Aside0.mk (hbox); have n5_ := Aside0.mk ((by rw [hg]; exact (below_size (by repeat (first | (with_reducible first | exact HB.out | apply below_alloc | apply pw_below_drewN | apply below_drew1 | refine below_set ?_ (IsS61.ge HI292.out)) | exact HB.out))) : w.heap.size ≤ gb303)); have n6_ := Aside0.mk ((by rw [hg]; exact (below_size (by repeat (first | (with_reducible first | exact HB.out | apply below_alloc | apply pw_below_drewN | apply below_drew1 | refine below_set ?_ (IsS61.ge HI292.out)) | exact HB.out))) : w.heap.size ≤ gb303)); have n7_ := Aside0.mk ((by rw [hg]; exact Nat.ne_of_lt (IsS61.lt (show IsS61 w _ g292 t290 t302 from by repeat (first | (with_reducible first | exact HI292.out | apply IsS61.alloc | apply IsS61.drewN | apply IsS61.drew | apply IsS61.set_1) | exact HI292.out))) : g292 ≠ gb303)); have n8_ := Aside0.mk ((by rw [hg]; exact Nat.ne_of_gt (IsS61.lt (show IsS61 w _ g292 t290 t302 from by repeat (first | (with_reducible first | exact HI292.out | apply IsS61.alloc | apply IsS61.drewN | apply IsS61.drew | apply IsS61.set_1) | exact HI292.out))) : gb303 ≠ g292)); clear HO297; clear HO300; clear HI292; clear HB; have HO297 := n0_; have HO300 := n1_; have HI292 := n2_; have HB := n3_; have BK303 := n4_; have GW303 := n5_; have GE303 := n6_; have NB292_303 := n7_; have NB303_292 := n8_; clear n0_ n1_ n2_ n3_ n4_ n5_ n6_ n7_ n8_; clear hb hbox hg; obtain ⟨Ao15, co15, eo15⟩ := Kd.R_slice HO297.out; subst eo15; have hnb16 := NB303_292.out; have hnc16 := NB292_303.out; have hcz17_0 : w14.cell? ⟨gb303, 0, none⟩ = some (.slice none 0 0) := (blk_cell BK303.out 0).trans rfl; have hcz17_1 : w14.cell? ⟨gb303, 1, none⟩ = some (.slice none 0 0) := (blk_cell BK303.out 1).trans rfl; have hcz17_2 : w14.cell? ⟨gb303, 2, none⟩ = some (.int .i64 0) := (blk_cell BK303.out 2).trans rfl; have hfz17_0 := blk_frozen BK303.out 0; have hfz17_1 := blk_frozen BK303.out 1; have hfz17_2 := blk_frozen BK303.out 2; obtain ⟨Ao18, co18, eo18⟩ := Kd.R_slice HO300.out; subst eo18) | ((with_reducible refine gate_callee (f := 12) rfl ?_); refine goesL_ (some 22) rfl rfl Try.func12 (by kernel_rfl) rfl #[.int .i64 a1, .int .i64 (t295.length : Int)] rfl (by (try simp only [List.map_toArray, List.map_cons, List.map_nil]); first | done | rfl | (simp only [List.length_drop, List.length_take]; rfl)) ?_; (with_reducible refine (minecontroldraw_Mod.calls a1 (t295.length : Int) t304 _ A6.out).mono ?_); rintro e w' ⟨rfl, ⟨nd, rfl⟩⟩; refine ⟨_, rfl, ?_⟩) | ((with_reducible refine gate_callee (f := 25) rfl ?_); refine goesL_ (some 26) rfl rfl Try.func25 (by kernel_rfl) rfl #[.agg #[.slice Ao15 t295.length co15, .slice Ao18 t298.length co18, .int .i64 t301], .int .i64 t304, .int .i64 5] rfl (by (try simp only [List.map_toArray, List.map_cons, List.map_nil]); first | done | rfl | (simp only [List.length_drop, List.length_take]; rfl)) ?_; (with_reducible refine (feeder_Close.calls k _ _ t295 _ _ t298 t301 t304 5 t305 t308 t311 t312 _ ?side1 ?side2 ?side3 ?side4 A7.out).mono ?_); (case side1 => refine (Kd.R_reads' (e := 32) (base := w.heap.size) (ok := fun k_ => True) (n := t295.length) (c := co15) ?_).2.2; exact (by (with_reducible repeat (first | apply Kd.R_alloc | apply Kd.R_drewN | apply Kd.R_drew)); exact (Kd.R_mono (Kd.R_far (p := ⟨gb303, 2, none⟩) (Kd.R_far (p := ⟨gb303, 1, none⟩) (Kd.R_far (p := ⟨gb303, 0, none⟩) (Kd.R_types HO297.out BK303.out (by decide)) (fun _ hk => hk.2) (.slice Ao15 t295.length co15)) (fun _ hk => hk.2) (.slice Ao18 t298.length co18)) (fun _ hk => hk.2) (.int .i64 t301)) (fun _ h_ => h_.1)))); (case side2 => exact (Kd.R_reads' HO297.out).2.1); (case side3 => refine (Kd.R_reads' (e := 3) (base := w.heap.size) (ok := fun k_ => True) (n := t298.length) (c := co18) ?_).2.2; exact (by (with_reducible repeat (first | apply Kd.R_alloc | apply Kd.R_drewN | apply Kd.R_drew)); exact (Kd.R_mono (Kd.R_far (p := ⟨gb303, 2, none⟩) (Kd.R_far (p := ⟨gb303, 1, none⟩) (Kd.R_far (p := ⟨gb303, 0, none⟩) (Kd.R_types HO300.out BK303.out (by decide)) (fun _ hk => hk.2) (.slice Ao15 t295.length co15)) (fun _ hk => hk.2) (.slice Ao18 t298.length co18)) (fun _ hk => hk.2) (.int .i64 t301)) (fun _ h_ => h_.1)))); (case side4 => exact (Kd.R_reads' HO300.out).2.1); rintro e w19 ⟨v306, v309, rfl, ho0, ho1, hb⟩; refine ⟨_, rfl, ?_⟩; have n0_ := Aside0.mk (Kd.R_elder' (by (with_reducible repeat (first | apply Kd.R_alloc | apply Kd.R_drewN | apply Kd.R_drew)); exact (Kd.R_mono (Kd.R_far (p := ⟨gb303, 2, none⟩) (Kd.R_far (p := ⟨gb303, 1, none⟩) (Kd.R_far (p := ⟨gb303, 0, none⟩) (Kd.R_types HO297.out BK303.out (by decide)) (fun _ hk => hk.2) (.slice Ao15 t295.length co15)) (fun _ hk => hk.2) (.slice Ao18 t298.length co18)) (fun _ hk => hk.2) (.int .i64 t301)) (fun _ h_ => h_.1))) (Kd.R_base ho0) hb); have n1_ := Aside0.mk (Kd.R_elder' (by (with_reducible repeat (first | apply Kd.R_alloc | apply Kd.R_drewN | apply Kd.R_drew)); exact (Kd.R_mono (Kd.R_far (p := ⟨gb303, 2, none⟩) (Kd.R_far (p := ⟨gb303, 1, none⟩) (Kd.R_far (p := ⟨gb303, 0, none⟩) (Kd.R_types HO300.out BK303.out (by decide)) (fun _ hk => hk.2) (.slice Ao15 t295.length co15)) (fun _ hk => hk.2) (.slice Ao18 t298.length co18)) (fun _ hk => hk.2) (.int .i64 t301)) (fun _ h_ => h_.1))) (Kd.R_base ho1) hb); have n2_ := Aside0.mk (Kd.R_lower (Kd.R_new' ho0 (Kd.R_lt (by (with_reducible repeat (first | apply Kd.R_alloc | apply Kd.R_drewN | apply Kd.R_drew)); exact (Kd.R_mono (Kd.R_far (p := ⟨gb303, 2, none⟩) (Kd.R_far (p := ⟨gb303, 1, none⟩) (Kd.R_far (p := ⟨gb303, 0, none⟩) (Kd.R_types HO297.out BK303.out (by decide)) (fun _ hk => hk.2) (.slice Ao15 t295.length co15)) (fun _ hk => hk.2) (.slice Ao18 t298.length co18)) (fun _ hk => hk.2) (.int .i64 t301)) (fun _ h_ => h_.1))))) (below_size (by repeat (first | (with_reducible first | exact HB.out | apply below_alloc | apply pw_below_drewN | apply below_drew1 | refine below_set ?_ (IsS61.ge HI292.out) | refine below_set ?_ GE303.out) | exact HB.out)))); have n3_ := Aside0.mk (Kd.R_lower (Kd.R_new' ho1 (Kd.R_lt (by (with_reducible repeat (first | apply Kd.R_alloc | apply Kd.R_drewN | apply Kd.R_drew)); exact (Kd.R_mono (Kd.R_far (p := ⟨gb303, 2, none⟩) (Kd.R_far (p := ⟨gb303, 1, none⟩) (Kd.R_far (p := ⟨gb303, 0, none⟩) (Kd.R_types HO300.out BK303.out (by decide)) (fun _ hk => hk.2) (.slice Ao15 t295.length co15)) (fun _ hk => hk.2) (.slice Ao18 t298.length co18)) (fun _ hk => hk.2) (.int .i64 t301)) (fun _ h_ => h_.1))))) (below_size (by repeat (first | (with_reducible first | exact HB.out | apply below_alloc | apply pw_below_drewN | apply below_drew1 | refine below_set ?_ (IsS61.ge HI292.out) | refine below_set ?_ GE303.out) | exact HB.out)))); have n4_ := Aside0.mk (IsS61.below (show IsS61 w _ g292 t290 t302 from by repeat (first | (with_reducible first | exact HI292.out | apply IsS61.alloc | apply IsS61.drewN | apply IsS61.drew | apply IsS61.set_1 | refine IsS61.far ?_ NB292_303.out _) | exact HI292.out)) hb); have n5_ := Aside0.mk (blk_below (g := gb303) (o := .cells #[.slice Ao15 t295.length co15, .slice Ao18 t298.length co18, .int .i64 t301] 28 (0, 0)) (by (with_reducible repeat (first | refine blk_drewN ?_ _ | refine blk_drew ?_ | refine blk_alloc ?_ _)); refine blk_put (cs := #[.slice Ao15 t295.length co15, .slice Ao18 t298.length co18, .int .i64 0]) ?_ 2 _ rfl; (with_reducible repeat (first | refine blk_drewN ?_ _ | refine blk_drew ?_ | refine blk_alloc ?_ _)); refine blk_put (cs := #[.slice Ao15 t295.length co15, .slice none 0 0, .int .i64 0]) ?_ 1 _ rfl; (with_reducible repeat (first | refine blk_drewN ?_ _ | refine blk_drew ?_ | refine blk_alloc ?_ _)); refine blk_put (cs := #[.slice none 0 0, .slice none 0 0, .int .i64 0]) ?_ 0 _ rfl; (with_reducible repeat (first | refine blk_drewN ?_ _ | refine blk_drew ?_ | refine blk_alloc ?_ _)); exact BK303.out) hb); have n6_ := Aside0.mk (below_step (by repeat (first | (with_reducible first | exact HB.out | apply below_alloc | apply pw_below_drewN | apply below_drew1 | refine below_set ?_ (IsS61.ge HI292.out) | refine below_set ?_ GE303.out) | exact HB.out)) hb); clear HO297; clear HO300; clear HI292; clear BK303; clear HB; have HO297 := n0_; have HO300 := n1_; have HO307 := n2_; have HO310 := n3_; have HI292 := n4_; have BK303 := n5_; have HB := n6_; clear n0_ n1_ n2_ n3_ n4_ n5_ n6_; (try clear hb); (try clear hb2); (try clear hge); (try clear hk); (try clear hi); (try clear ho0); (try clear ho1)) | ((with_reducible refine gate_dst (N := 8) rfl ?_); (try (refine gate_guard (by rfl) ?_; dsimp only)); refine box_event ?hg (N := 8) ?hd (cs := #[.slice none 0 0, .slice none 0 0, .int .i64 0]) (t := 28) ?hr ?_; (case hd => rfl); (case hg => rfl); (case hr => first | (go_simp; done) | (go_simp; rfl)); intro gb313 hg w20 hbox hb; have n0_ := Aside0.mk (Kd.R_below (by (with_reducible repeat (first | apply Kd.R_alloc | apply Kd.R_drewN | apply Kd.R_drew)); exact HO297.out) hb); have n1_ := Aside0.mk (Kd.R_below (by (with_reducible repeat (first | apply Kd.R_alloc | apply Kd.R_drewN | apply Kd.R_drew)); exact HO300.out) hb); have n2_ := Aside0.mk (Kd.R_below (by (with_reducible repeat (first | apply Kd.R_alloc | apply Kd.R_drewN | apply Kd.R_drew)); exact HO307.out) hb); have n3_ := Aside0.mk (Kd.R_below (by (with_reducible repeat (first | apply Kd.R_alloc | apply Kd.R_drewN | apply Kd.R_drew)); exact HO310.out) hb); have n4_ := Aside0.mk (IsS61.below (by repeat (first | (with_reducible first | exact HI292.out | apply IsS61.alloc | apply IsS61.drewN | apply IsS61.drew | apply IsS61.set_1 | refine IsS61.far ?_ NB292_303.out _) | exact HI292.out)) hb); have n5_ := Aside0.mk (blk_below (g := gb303) (o := .cells #[.slice Ao15 t295.length co15, .slice Ao18 t298.length co18, .int .i64 t301] 28 (0, 0)) (by (with_reducible repeat (first | refine blk_drewN ?_ _ | refine blk_drew ?_ | refine blk_alloc ?_ _)); exact BK303.out) hb); have n6_ := Aside0.mk (below_step (by repeat (first | (with_reducible first | exact HB.out | apply below_alloc | apply pw_below_drewN | apply below_drew1 | refine below_set ?_ (IsS61.ge HI292.out) | refine below_set ?_ GE303.out) | exact HB.out)) hb); have n7_ := Aside0.mk (hbox); have n8_ := Aside0.mk ((by rw [hg]; exact (below_size (by repeat (first | (with_reducible first | exact HB.out | apply below_alloc | apply pw_below_drewN | apply below_drew1 | refine below_set ?_ (IsS61.ge HI292.out) | refine below_set ?_ GE303.out) | exact HB.out))) : w.heap.size ≤ gb313)); have n9_ := Aside0.mk ((by rw [hg]; exact (below_size (by repeat (first | (with_reducible first | exact HB.out | apply below_alloc | apply pw_below_drewN | apply below_drew1 | refine below_set ?_ (IsS61.ge HI292.out) | refine below_set ?_ GE303.out) | exact HB.out))) : w.heap.size ≤ gb313)); have n10_ := Aside0.mk ((by rw [hg]; exact Nat.ne_of_lt (blk_lt (g := gb303) (o := .cells #[.slice Ao15 t295.length co15, .slice Ao18 t298.length co18, .int .i64 t301] 28 (0, 0)) (by (with_reducible repeat (first | refine blk_drewN ?_ _ | refine blk_drew ?_ | refine blk_alloc ?_ _)); exact BK303.out)) : gb303 ≠ gb313)); have n11_ := Aside0.mk ((by rw [hg]; exact Nat.ne_of_gt (blk_lt (g := gb303) (o := .cells #[.slice Ao15 t295.length co15, .slice Ao18 t298.length co18, .int .i64 t301] 28 (0, 0)) (by (with_reducible repeat (first | refine blk_drewN ?_ _ | refine blk_drew ?_ | refine blk_alloc ?_ _)); exact BK303.out)) : gb313 ≠ gb303)); have n12_ := Aside0.mk ((by rw [hg]; exact Nat.ne_of_lt (IsS61.lt (show IsS61 w _ g292 t290 t302 from by repeat (first | (with_reducible first | exact HI292.out | apply IsS61.alloc | apply IsS61.drewN | apply IsS61.drew | apply IsS61.set_1 | refine IsS61.far ?_ NB292_303.out _) | exact HI292.out))) : g292 ≠ gb313)); have n13_ := Aside0.mk ((by rw [hg]; exact Nat.ne_of_gt (IsS61.lt (show IsS61 w _ g292 t290 t302 from by repeat (first | (with_reducible first | exact HI292.out | apply IsS61.alloc | apply IsS61.drewN | apply IsS61.drew | apply IsS61.set_1 | refine IsS61.far ?_ NB292_303.out _) | exact HI292.out))) : gb313 ≠ g292)); clear HO297; clear HO300; clear HO307; clear HO310; clear HI292; clear BK303; clear HB; have HO297 := n0_; have HO300 := n1_; have HO307 := n2_; have HO310 := n3_; have HI292 := n4_; have BK303 := n5_; have HB := n6_; have BK313 := n7_; have GW313 := n8_; have GE313 := n9_; have NB303_313 := n10_; have NB313_303 := n11_; have NB292_313 := n12_; have NB313_292 := n13_; clear n0_ n1_ n2_ n3_ n4_ n5_ n6_ n7_ n8_ n9_ n10_ n11_ n12_ n13_; clear hb hbox hg; obtain ⟨Ao21, co21, eo21⟩ := Kd.R_slice HO307.out; subst eo21; have hnb22 := NB313_303.out; have hnc22 := NB303_313.out; have hnb23 := NB313_292.out; have hnc23 := NB292_313.out; have hcz24_0 : w20.cell? ⟨gb313, 0, none⟩ = some (.slice none 0 0) := (blk_cell BK313.out 0).trans rfl; have hcz24_1 : w20.cell? ⟨gb313, 1, none⟩ = some (.slice none 0 0) := (blk_cell BK313.out 1).trans rfl; have hcz24_2 : w20.cell? ⟨gb313, 2, none⟩ = some (.int .i64 0) := (blk_cell BK313.out 2).trans rfl; have hfz24_0 := blk_frozen BK313.out 0; have hfz24_1 := blk_frozen BK313.out 1; have hfz24_2 := blk_frozen BK313.out 2; obtain ⟨Ao25, co25, eo25⟩ := Kd.R_slice HO310.out; subst eo25; have hcz26_0 : w20.cell? ⟨gb303, 0, none⟩ = some (.slice Ao15 t295.length co15) := (blk_cell BK303.out 0).trans rfl; have hcz26_1 : w20.cell? ⟨gb303, 1, none⟩ = some (.slice Ao18 t298.length co18) := (blk_cell BK303.out 1).trans rfl; have hcz26_2 : w20.cell? ⟨gb303, 2, none⟩ = some (.int .i64 t301) := (blk_cell BK303.out 2).trans rfl; have hfz26_0 := blk_frozen BK303.out 0; have hfz26_1 := blk_frozen BK303.out 1; have hfz26_2 := blk_frozen BK303.out 2; have p314 : 0 ≤ (t304 : Int) := of_decide_eq_true (by first | (with_reducible assumption) | assumption); have q314 : t304 < (t295.length : Int) := of_decide_eq_true (by first | (with_reducible assumption) | assumption); obtain ⟨ad314, e314, hx314_0, hx314_1, hx314_2, hx314_3, hx314_4⟩ := at_T32 (Kd.R_reads' HO297.out).2.2 t304 p314 q314; cases e314; have hn314_0 : ad314.block ≠ gb313 := Kd.own_blk (Kd.R_ne HO297.out BK313.out (by decide)); have hn314_1 : ad314.block ≠ gb313 := Kd.own_blk (Kd.R_ne HO297.out BK313.out (by decide)); have hn314_2 : ad314.block ≠ gb313 := Kd.own_blk (Kd.R_ne HO297.out BK313.out (by decide)); replace hx314_0 := (cell_far (p := ⟨gb313, 0, none⟩) (by first | (rw [add_block]; exact hn314_0) | (show (Addr.add _ _).block ≠ _; rw [add_block]; exact hn314_0) | exact hn314_0) (.slice Ao21 t305.length co21)).trans hx314_0; replace hx314_1 := (cell_far (p := ⟨gb313, 0, none⟩) (by first | (rw [add_block]; exact hn314_0) | (show (Addr.add _ _).block ≠ _; rw [add_block]; exact hn314_0) | exact hn314_0) (.slice Ao21 t305.length co21)).trans hx314_1; replace hx314_2 := (cell_far (p := ⟨gb313, 0, none⟩) (by first | (rw [add_block]; exact hn314_0) | (show (Addr.add _ _).block ≠ _; rw [add_block]; exact hn314_0) | exact hn314_0) (.slice Ao21 t305.length co21)).trans hx314_2; replace hx314_3 := (cell_far (p := ⟨gb313, 0, none⟩) (by first | (rw [add_block]; exact hn314_0) | (show (Addr.add _ _).block ≠ _; rw [add_block]; exact hn314_0) | exact hn314_0) (.slice Ao21 t305.length co21)).trans hx314_3; replace hx314_4 := (cell_far (p := ⟨gb313, 0, none⟩) (by first | (rw [add_block]; exact hn314_0) | (show (Addr.add _ _).block ≠ _; rw [add_block]; exact hn314_0) | exact hn314_0) (.slice Ao21 t305.length co21)).trans hx314_4; replace hx314_0 := (cell_far (p := ⟨gb313, 1, none⟩) (by first | (rw [add_block]; exact hn314_1) | (show (Addr.add _ _).block ≠ _; rw [add_block]; exact hn314_1) | exact hn314_1) (.slice Ao25 t308.length co25)).trans hx314_0; replace hx314_1 := (cell_far (p := ⟨gb313, 1, none⟩) (by first | (rw [add_block]; exact hn314_1) | (show (Addr.add _ _).block ≠ _; rw [add_block]; exact hn314_1) | exact hn314_1) (.slice Ao25 t308.length co25)).trans hx314_1; replace hx314_2 := (cell_far (p := ⟨gb313, 1, none⟩) (by first | (rw [add_block]; exact hn314_1) | (show (Addr.add _ _).block ≠ _; rw [add_block]; exact hn314_1) | exact hn314_1) (.slice Ao25 t308.length co25)).trans hx314_2; replace hx314_3 := (cell_far (p := ⟨gb313, 1, none⟩) (by first | (rw [add_block]; exact hn314_1) | (show (Addr.add _ _).block ≠ _; rw [add_block]; exact hn314_1) | exact hn314_1) (.slice Ao25 t308.length co25)).trans hx314_3; replace hx314_4 := (cell_far (p := ⟨gb313, 1, none⟩) (by first | (rw [add_block]; exact hn314_1) | (show (Addr.add _ _).block ≠ _; rw [add_block]; exact hn314_1) | exact hn314_1) (.slice Ao25 t308.length co25)).trans hx314_4; replace hx314_0 := (cell_far (p := ⟨gb313, 2, none⟩) (by first | (rw [add_block]; exact hn314_2) | (show (Addr.add _ _).block ≠ _; rw [add_block]; exact hn314_2) | exact hn314_2) (.int .i64 t311)).trans hx314_0; replace hx314_1 := (cell_far (p := ⟨gb313, 2, none⟩) (by first | (rw [add_block]; exact hn314_2) | (show (Addr.add _ _).block ≠ _; rw [add_block]; exact hn314_2) | exact hn314_2) (.int .i64 t311)).trans hx314_1; replace hx314_2 := (cell_far (p := ⟨gb313, 2, none⟩) (by first | (rw [add_block]; exact hn314_2) | (show (Addr.add _ _).block ≠ _; rw [add_block]; exact hn314_2) | exact hn314_2) (.int .i64 t311)).trans hx314_2; replace hx314_3 := (cell_far (p := ⟨gb313, 2, none⟩) (by first | (rw [add_block]; exact hn314_2) | (show (Addr.add _ _).block ≠ _; rw [add_block]; exact hn314_2) | exact hn314_2) (.int .i64 t311)).trans hx314_3; replace hx314_4 := (cell_far (p := ⟨gb313, 2, none⟩) (by first | (rw [add_block]; exact hn314_2) | (show (Addr.add _ _).block ≠ _; rw [add_block]; exact hn314_2) | exact hn314_2) (.int .i64 t311)).trans hx314_4; clear hn314_0; clear hn314_1; clear hn314_2; replace p314 := eq_true p314; replace q314 := eq_true q314))
 (try simp only [Act.put, List.setIfInBounds_toArray, List.set_cons_zero, List.set_cons_succ])
 go_cut [11] (fun v11 wc => ∃ (kq : Nat) (x11_9 : Bool), v11 = .bool x11_9 ∧ Aside0 (minecontrollaw18_FeederCloses.j0 kq t304 t312 x11_9 t295 t298 t301 t305 t308 t311 = some r) ∧ Aside0 (kq ≤ k) ∧ Aside0 (Kd.R k32 32 wc w.heap.size (fun k_ => some k_ ≠ ((.slice Ao21 t305.length co21) : Value).ownBlock) (.slice (some ad314) t295.length co15) t295) ∧ Aside0 (Kd.R (Kd.int .i64) 3 wc w.heap.size (fun k_ => some k_ ≠ ((.slice Ao25 t308.length co25) : Value).ownBlock) (.slice Ao18 t298.length co18) t298) ∧ Aside0 (Kd.R k32 32 wc w.heap.size (fun k_ => some k_ ≠ ((.slice (some ad314) t295.length co15) : Value).ownBlock) (.slice Ao21 t305.length co21) t305) ∧ Aside0 (Kd.R (Kd.int .i64) 3 wc w.heap.size (fun k_ => some k_ ≠ ((.slice Ao18 t298.length co18) : Value).ownBlock) (.slice Ao25 t308.length co25) t308) ∧ Aside0 (wc.heap[gb303]? = some (.cells #[(.slice (some ad314) t295.length co15), (.slice Ao18 t298.length co18), .int .i64 t301] 28 (0, 0))) ∧ Aside0 (wc.heap[gb313]? = some (.cells #[(.slice Ao21 t305.length co21), (.slice Ao25 t308.length co25), .int .i64 t311] 28 (0, 0))) ∧ Aside0 (Below w.heap.size w wc))
 case first =>
  have H := HC10.out
  clear HC10
  by_cases c27 : ((rd_T32 t295 t304).f2) = (-1)
  ·
   rw [if_pos c27] at H
   have c27b0 : (((rd_T32 t295 t304).f2) == (-1)) = true := beq_iff_eq.mpr c27
   have c27b1 : (((rd_T32 t295 t304).f2) != (-1)) = false := bne_eq_false_iff_eq.mpr c27
   clear c27
   (first | rw [c27b0] | (simp only [i64_w, i32_w]; rw [c27b0]) | skip)
   by_cases c28 : ((rd_T32 t295 t304).f0) = (-1)
   ·
    rw [if_pos c28] at H
    have c28b0 : (((rd_T32 t295 t304).f0) == (-1)) = true := beq_iff_eq.mpr c28
    have c28b1 : (((rd_T32 t295 t304).f0) != (-1)) = false := bne_eq_false_iff_eq.mpr c28
    clear c28
    have H' := Aside0.mk H
    clear H
    have hnb29 := NB303_313.out
    have hnc29 := NB313_303.out
    have hnb30 := NB303_292.out
    have hnc30 := NB292_303.out
    have hcz31_0 : w20.cell? ⟨gb303, 0, none⟩ = some (.slice (some ad314) t295.length co15) := (blk_cell BK303.out 0).trans rfl
    have hcz31_1 : w20.cell? ⟨gb303, 1, none⟩ = some (.slice Ao18 t298.length co18) := (blk_cell BK303.out 1).trans rfl
    have hcz31_2 : w20.cell? ⟨gb303, 2, none⟩ = some (.int .i64 t301) := (blk_cell BK303.out 2).trans rfl
    have hfz31_0 := blk_frozen BK303.out 0
    have hfz31_1 := blk_frozen BK303.out 1
    have hfz31_2 := blk_frozen BK303.out 2
    have p315 : 0 ≤ (t304 : Int) := of_decide_eq_true (by first | (with_reducible assumption) | assumption)
    have q315 : t304 < (t295.length : Int) := of_decide_eq_true (by first | (with_reducible assumption) | assumption)
    obtain ⟨ad315, e315, hx315_0, hx315_1, hx315_2, hx315_3, hx315_4⟩ := at_T32 (Kd.R_reads' HO297.out).2.2 t304 p315 q315
    obtain rfl : ad314 = ad315 := (by injection e315)
    have hn315_0 : ad314.block ≠ gb313 := Kd.own_blk (Kd.R_ne HO297.out BK313.out (by decide))
    have hn315_1 : ad314.block ≠ gb313 := Kd.own_blk (Kd.R_ne HO297.out BK313.out (by decide))
    have hn315_2 : ad314.block ≠ gb313 := Kd.own_blk (Kd.R_ne HO297.out BK313.out (by decide))
    replace hx315_0 := (cell_far (p := ⟨gb313, 0, none⟩) (by first | (rw [add_block]; exact hn315_0) | (show (Addr.add _ _).block ≠ _; rw [add_block]; exact hn315_0) | exact hn315_0) (.slice Ao21 t305.length co21)).trans hx315_0
    replace hx315_1 := (cell_far (p := ⟨gb313, 0, none⟩) (by first | (rw [add_block]; exact hn315_0) | (show (Addr.add _ _).block ≠ _; rw [add_block]; exact hn315_0) | exact hn315_0) (.slice Ao21 t305.length co21)).trans hx315_1
    replace hx315_2 := (cell_far (p := ⟨gb313, 0, none⟩) (by first | (rw [add_block]; exact hn315_0) | (show (Addr.add _ _).block ≠ _; rw [add_block]; exact hn315_0) | exact hn315_0) (.slice Ao21 t305.length co21)).trans hx315_2
    replace hx315_3 := (cell_far (p := ⟨gb313, 0, none⟩) (by first | (rw [add_block]; exact hn315_0) | (show (Addr.add _ _).block ≠ _; rw [add_block]; exact hn315_0) | exact hn315_0) (.slice Ao21 t305.length co21)).trans hx315_3
    replace hx315_4 := (cell_far (p := ⟨gb313, 0, none⟩) (by first | (rw [add_block]; exact hn315_0) | (show (Addr.add _ _).block ≠ _; rw [add_block]; exact hn315_0) | exact hn315_0) (.slice Ao21 t305.length co21)).trans hx315_4
    replace hx315_0 := (cell_far (p := ⟨gb313, 1, none⟩) (by first | (rw [add_block]; exact hn315_1) | (show (Addr.add _ _).block ≠ _; rw [add_block]; exact hn315_1) | exact hn315_1) (.slice Ao25 t308.length co25)).trans hx315_0
    replace hx315_1 := (cell_far (p := ⟨gb313, 1, none⟩) (by first | (rw [add_block]; exact hn315_1) | (show (Addr.add _ _).block ≠ _; rw [add_block]; exact hn315_1) | exact hn315_1) (.slice Ao25 t308.length co25)).trans hx315_1
    replace hx315_2 := (cell_far (p := ⟨gb313, 1, none⟩) (by first | (rw [add_block]; exact hn315_1) | (show (Addr.add _ _).block ≠ _; rw [add_block]; exact hn315_1) | exact hn315_1) (.slice Ao25 t308.length co25)).trans hx315_2
    replace hx315_3 := (cell_far (p := ⟨gb313, 1, none⟩) (by first | (rw [add_block]; exact hn315_1) | (show (Addr.add _ _).block ≠ _; rw [add_block]; exact hn315_1) | exact hn315_1) (.slice Ao25 t308.length co25)).trans hx315_3
    replace hx315_4 := (cell_far (p := ⟨gb313, 1, none⟩) (by first | (rw [add_block]; exact hn315_1) | (show (Addr.add _ _).block ≠ _; rw [add_block]; exact hn315_1) | exact hn315_1) (.slice Ao25 t308.length co25)).trans hx315_4
    replace hx315_0 := (cell_far (p := ⟨gb313, 2, none⟩) (by first | (rw [add_block]; exact hn315_2) | (show (Addr.add _ _).block ≠ _; rw [add_block]; exact hn315_2) | exact hn315_2) (.int .i64 t311)).trans hx315_0
    replace hx315_1 := (cell_far (p := ⟨gb313, 2, none⟩) (by first | (rw [add_block]; exact hn315_2) | (show (Addr.add _ _).block ≠ _; rw [add_block]; exact hn315_2) | exact hn315_2) (.int .i64 t311)).trans hx315_1
    replace hx315_2 := (cell_far (p := ⟨gb313, 2, none⟩) (by first | (rw [add_block]; exact hn315_2) | (show (Addr.add _ _).block ≠ _; rw [add_block]; exact hn315_2) | exact hn315_2) (.int .i64 t311)).trans hx315_2
    replace hx315_3 := (cell_far (p := ⟨gb313, 2, none⟩) (by first | (rw [add_block]; exact hn315_2) | (show (Addr.add _ _).block ≠ _; rw [add_block]; exact hn315_2) | exact hn315_2) (.int .i64 t311)).trans hx315_3
    replace hx315_4 := (cell_far (p := ⟨gb313, 2, none⟩) (by first | (rw [add_block]; exact hn315_2) | (show (Addr.add _ _).block ≠ _; rw [add_block]; exact hn315_2) | exact hn315_2) (.int .i64 t311)).trans hx315_4
    clear hn315_0
    clear hn315_1
    clear hn315_2
    replace p315 := eq_true p315
    replace q315 := eq_true q315
    go_wp2
    go_meet
    case rel => exact ⟨_, (true), (by first | rfl | (simp; done) | (simp [*]; done)), H', ⟨by first | omega | exact Nat.le_refl _⟩, ⟨by (with_reducible repeat (first | apply Kd.R_alloc | apply Kd.R_drewN | apply Kd.R_drew)); exact Kd.R_mono (Kd.R_far (p := ⟨gb313, 2, none⟩) (Kd.R_far (p := ⟨gb313, 1, none⟩) (Kd.R_far (p := ⟨gb313, 0, none⟩) (Kd.R_types HO297.out BK313.out (by decide)) (fun _ hk => hk.2) (.slice Ao21 t305.length co21)) (fun _ hk => hk.2) (.slice Ao25 t308.length co25)) (fun _ hk => hk.2) (.int .i64 t311)) (fun _ hk => hk.1.2)⟩, ⟨by (with_reducible repeat (first | apply Kd.R_alloc | apply Kd.R_drewN | apply Kd.R_drew)); exact Kd.R_mono (Kd.R_far (p := ⟨gb313, 2, none⟩) (Kd.R_far (p := ⟨gb313, 1, none⟩) (Kd.R_far (p := ⟨gb313, 0, none⟩) (Kd.R_types HO300.out BK313.out (by decide)) (fun _ hk => hk.2) (.slice Ao21 t305.length co21)) (fun _ hk => hk.2) (.slice Ao25 t308.length co25)) (fun _ hk => hk.2) (.int .i64 t311)) (fun _ hk => hk.1.2)⟩, ⟨by (with_reducible repeat (first | apply Kd.R_alloc | apply Kd.R_drewN | apply Kd.R_drew)); exact Kd.R_mono (Kd.R_far (p := ⟨gb313, 2, none⟩) (Kd.R_far (p := ⟨gb313, 1, none⟩) (Kd.R_far (p := ⟨gb313, 0, none⟩) (Kd.R_types HO307.out BK313.out (by decide)) (fun _ hk => hk.2) (.slice Ao21 t305.length co21)) (fun _ hk => hk.2) (.slice Ao25 t308.length co25)) (fun _ hk => hk.2) (.int .i64 t311)) (fun _ hk => hk.1.2)⟩, ⟨by (with_reducible repeat (first | apply Kd.R_alloc | apply Kd.R_drewN | apply Kd.R_drew)); exact Kd.R_mono (Kd.R_far (p := ⟨gb313, 2, none⟩) (Kd.R_far (p := ⟨gb313, 1, none⟩) (Kd.R_far (p := ⟨gb313, 0, none⟩) (Kd.R_types HO310.out BK313.out (by decide)) (fun _ hk => hk.2) (.slice Ao21 t305.length co21)) (fun _ hk => hk.2) (.slice Ao25 t308.length co25)) (fun _ hk => hk.2) (.int .i64 t311)) (fun _ hk => hk.1.2)⟩, ⟨by (with_reducible repeat (first | refine blk_drewN ?_ _ | refine blk_drew ?_ | refine blk_alloc ?_ _)); refine blk_far ?_ NB303_313.out _; (with_reducible repeat (first | refine blk_drewN ?_ _ | refine blk_drew ?_ | refine blk_alloc ?_ _)); refine blk_far ?_ NB303_313.out _; (with_reducible repeat (first | refine blk_drewN ?_ _ | refine blk_drew ?_ | refine blk_alloc ?_ _)); refine blk_far ?_ NB303_313.out _; (with_reducible repeat (first | refine blk_drewN ?_ _ | refine blk_drew ?_ | refine blk_alloc ?_ _)); exact BK303.out⟩, ⟨by (with_reducible repeat (first | refine blk_drewN ?_ _ | refine blk_drew ?_ | refine blk_alloc ?_ _)); refine blk_put (cs := #[.slice Ao21 t305.length co21, .slice Ao25 t308.length co25, .int .i64 0]) ?_ 2 _ rfl; (with_reducible repeat (first | refine blk_drewN ?_ _ | refine blk_drew ?_ | refine blk_alloc ?_ _)); refine blk_put (cs := #[.slice Ao21 t305.length co21, .slice none 0 0, .int .i64 0]) ?_ 1 _ rfl; (with_reducible repeat (first | refine blk_drewN ?_ _ | refine blk_drew ?_ | refine blk_alloc ?_ _)); refine blk_put (cs := #[.slice none 0 0, .slice none 0 0, .int .i64 0]) ?_ 0 _ rfl; (with_reducible repeat (first | refine blk_drewN ?_ _ | refine blk_drew ?_ | refine blk_alloc ?_ _)); exact BK313.out⟩, ⟨by repeat (first | (with_reducible first | exact HB.out | apply below_alloc | apply pw_below_drewN | apply below_drew1 | refine below_set ?_ (IsS61.ge HI292.out) | refine below_set ?_ GE303.out | refine below_set ?_ GE313.out) | exact HB.out)⟩⟩
   ·
    rw [if_neg c28] at H
    have c28b0 : (((rd_T32 t295 t304).f0) == (-1)) = false := beq_eq_false_iff_ne.mpr c28
    have c28b1 : (((rd_T32 t295 t304).f0) != (-1)) = true := bne_iff_ne.mpr c28
    by_cases c32 : 0 ≤ ((rd_T32 t295 t304).f0)
    rotate_left
    ·
     rw [if_neg c32] at H
     exact absurd H (by simp)
    rw [if_pos c32] at H
    have c32b0 : decide (0 ≤ ((rd_T32 t295 t304).f0)) = true := decide_eq_true c32
    clear c32
    by_cases c33 : ((rd_T32 t295 t304).f0) < (t295.length : Int)
    rotate_left
    ·
     rw [if_neg c33] at H
     exact absurd H (by simp)
    rw [if_pos c33] at H
    have c33b0 : decide (((rd_T32 t295 t304).f0) < (t295.length : Int)) = true := decide_eq_true c33
    clear c33
    have H' := Aside0.mk H
    clear H
    have hnb34 := NB303_313.out
    have hnc34 := NB313_303.out
    have hnb35 := NB303_292.out
    have hnc35 := NB292_303.out
    have hcz36_0 : w20.cell? ⟨gb303, 0, none⟩ = some (.slice (some ad314) t295.length co15) := (blk_cell BK303.out 0).trans rfl
    have hcz36_1 : w20.cell? ⟨gb303, 1, none⟩ = some (.slice Ao18 t298.length co18) := (blk_cell BK303.out 1).trans rfl
    have hcz36_2 : w20.cell? ⟨gb303, 2, none⟩ = some (.int .i64 t301) := (blk_cell BK303.out 2).trans rfl
    have hfz36_0 := blk_frozen BK303.out 0
    have hfz36_1 := blk_frozen BK303.out 1
    have hfz36_2 := blk_frozen BK303.out 2
    have p315 : 0 ≤ (t304 : Int) := of_decide_eq_true (by first | (with_reducible assumption) | assumption)
    have q315 : t304 < (t295.length : Int) := of_decide_eq_true (by first | (with_reducible assumption) | assumption)
    obtain ⟨ad315, e315, hx315_0, hx315_1, hx315_2, hx315_3, hx315_4⟩ := at_T32 (Kd.R_reads' HO297.out).2.2 t304 p315 q315
    obtain rfl : ad314 = ad315 := (by injection e315)
    have hn315_0 : ad314.block ≠ gb313 := Kd.own_blk (Kd.R_ne HO297.out BK313.out (by decide))
    have hn315_1 : ad314.block ≠ gb313 := Kd.own_blk (Kd.R_ne HO297.out BK313.out (by decide))
    have hn315_2 : ad314.block ≠ gb313 := Kd.own_blk (Kd.R_ne HO297.out BK313.out (by decide))
    replace hx315_0 := (cell_far (p := ⟨gb313, 0, none⟩) (by first | (rw [add_block]; exact hn315_0) | (show (Addr.add _ _).block ≠ _; rw [add_block]; exact hn315_0) | exact hn315_0) (.slice Ao21 t305.length co21)).trans hx315_0
    replace hx315_1 := (cell_far (p := ⟨gb313, 0, none⟩) (by first | (rw [add_block]; exact hn315_0) | (show (Addr.add _ _).block ≠ _; rw [add_block]; exact hn315_0) | exact hn315_0) (.slice Ao21 t305.length co21)).trans hx315_1
    replace hx315_2 := (cell_far (p := ⟨gb313, 0, none⟩) (by first | (rw [add_block]; exact hn315_0) | (show (Addr.add _ _).block ≠ _; rw [add_block]; exact hn315_0) | exact hn315_0) (.slice Ao21 t305.length co21)).trans hx315_2
    replace hx315_3 := (cell_far (p := ⟨gb313, 0, none⟩) (by first | (rw [add_block]; exact hn315_0) | (show (Addr.add _ _).block ≠ _; rw [add_block]; exact hn315_0) | exact hn315_0) (.slice Ao21 t305.length co21)).trans hx315_3
    replace hx315_4 := (cell_far (p := ⟨gb313, 0, none⟩) (by first | (rw [add_block]; exact hn315_0) | (show (Addr.add _ _).block ≠ _; rw [add_block]; exact hn315_0) | exact hn315_0) (.slice Ao21 t305.length co21)).trans hx315_4
    replace hx315_0 := (cell_far (p := ⟨gb313, 1, none⟩) (by first | (rw [add_block]; exact hn315_1) | (show (Addr.add _ _).block ≠ _; rw [add_block]; exact hn315_1) | exact hn315_1) (.slice Ao25 t308.length co25)).trans hx315_0
    replace hx315_1 := (cell_far (p := ⟨gb313, 1, none⟩) (by first | (rw [add_block]; exact hn315_1) | (show (Addr.add _ _).block ≠ _; rw [add_block]; exact hn315_1) | exact hn315_1) (.slice Ao25 t308.length co25)).trans hx315_1
    replace hx315_2 := (cell_far (p := ⟨gb313, 1, none⟩) (by first | (rw [add_block]; exact hn315_1) | (show (Addr.add _ _).block ≠ _; rw [add_block]; exact hn315_1) | exact hn315_1) (.slice Ao25 t308.length co25)).trans hx315_2
    replace hx315_3 := (cell_far (p := ⟨gb313, 1, none⟩) (by first | (rw [add_block]; exact hn315_1) | (show (Addr.add _ _).block ≠ _; rw [add_block]; exact hn315_1) | exact hn315_1) (.slice Ao25 t308.length co25)).trans hx315_3
    replace hx315_4 := (cell_far (p := ⟨gb313, 1, none⟩) (by first | (rw [add_block]; exact hn315_1) | (show (Addr.add _ _).block ≠ _; rw [add_block]; exact hn315_1) | exact hn315_1) (.slice Ao25 t308.length co25)).trans hx315_4
    replace hx315_0 := (cell_far (p := ⟨gb313, 2, none⟩) (by first | (rw [add_block]; exact hn315_2) | (show (Addr.add _ _).block ≠ _; rw [add_block]; exact hn315_2) | exact hn315_2) (.int .i64 t311)).trans hx315_0
    replace hx315_1 := (cell_far (p := ⟨gb313, 2, none⟩) (by first | (rw [add_block]; exact hn315_2) | (show (Addr.add _ _).block ≠ _; rw [add_block]; exact hn315_2) | exact hn315_2) (.int .i64 t311)).trans hx315_1
    replace hx315_2 := (cell_far (p := ⟨gb313, 2, none⟩) (by first | (rw [add_block]; exact hn315_2) | (show (Addr.add _ _).block ≠ _; rw [add_block]; exact hn315_2) | exact hn315_2) (.int .i64 t311)).trans hx315_2
    replace hx315_3 := (cell_far (p := ⟨gb313, 2, none⟩) (by first | (rw [add_block]; exact hn315_2) | (show (Addr.add _ _).block ≠ _; rw [add_block]; exact hn315_2) | exact hn315_2) (.int .i64 t311)).trans hx315_3
    replace hx315_4 := (cell_far (p := ⟨gb313, 2, none⟩) (by first | (rw [add_block]; exact hn315_2) | (show (Addr.add _ _).block ≠ _; rw [add_block]; exact hn315_2) | exact hn315_2) (.int .i64 t311)).trans hx315_4
    clear hn315_0
    clear hn315_1
    clear hn315_2
    replace p315 := eq_true p315
    replace q315 := eq_true q315
    have p316 : 0 ≤ (((rd_T32 t295 t304).f0) : Int) := of_decide_eq_true (by first | (with_reducible assumption) | assumption)
    have q316 : ((rd_T32 t295 t304).f0) < (t295.length : Int) := of_decide_eq_true (by first | (with_reducible assumption) | assumption)
    obtain ⟨ad316, e316, hx316_0, hx316_1, hx316_2, hx316_3, hx316_4⟩ := at_T32 (Kd.R_reads' HO297.out).2.2 ((rd_T32 t295 t304).f0) p316 q316
    obtain rfl : ad314 = ad316 := (by injection e316)
    have hn316_0 : ad314.block ≠ gb313 := Kd.own_blk (Kd.R_ne HO297.out BK313.out (by decide))
    have hn316_1 : ad314.block ≠ gb313 := Kd.own_blk (Kd.R_ne HO297.out BK313.out (by decide))
    have hn316_2 : ad314.block ≠ gb313 := Kd.own_blk (Kd.R_ne HO297.out BK313.out (by decide))
    replace hx316_0 := (cell_far (p := ⟨gb313, 0, none⟩) (by first | (rw [add_block]; exact hn316_0) | (show (Addr.add _ _).block ≠ _; rw [add_block]; exact hn316_0) | exact hn316_0) (.slice Ao21 t305.length co21)).trans hx316_0
    replace hx316_1 := (cell_far (p := ⟨gb313, 0, none⟩) (by first | (rw [add_block]; exact hn316_0) | (show (Addr.add _ _).block ≠ _; rw [add_block]; exact hn316_0) | exact hn316_0) (.slice Ao21 t305.length co21)).trans hx316_1
    replace hx316_2 := (cell_far (p := ⟨gb313, 0, none⟩) (by first | (rw [add_block]; exact hn316_0) | (show (Addr.add _ _).block ≠ _; rw [add_block]; exact hn316_0) | exact hn316_0) (.slice Ao21 t305.length co21)).trans hx316_2
    replace hx316_3 := (cell_far (p := ⟨gb313, 0, none⟩) (by first | (rw [add_block]; exact hn316_0) | (show (Addr.add _ _).block ≠ _; rw [add_block]; exact hn316_0) | exact hn316_0) (.slice Ao21 t305.length co21)).trans hx316_3
    replace hx316_4 := (cell_far (p := ⟨gb313, 0, none⟩) (by first | (rw [add_block]; exact hn316_0) | (show (Addr.add _ _).block ≠ _; rw [add_block]; exact hn316_0) | exact hn316_0) (.slice Ao21 t305.length co21)).trans hx316_4
    replace hx316_0 := (cell_far (p := ⟨gb313, 1, none⟩) (by first | (rw [add_block]; exact hn316_1) | (show (Addr.add _ _).block ≠ _; rw [add_block]; exact hn316_1) | exact hn316_1) (.slice Ao25 t308.length co25)).trans hx316_0
    replace hx316_1 := (cell_far (p := ⟨gb313, 1, none⟩) (by first | (rw [add_block]; exact hn316_1) | (show (Addr.add _ _).block ≠ _; rw [add_block]; exact hn316_1) | exact hn316_1) (.slice Ao25 t308.length co25)).trans hx316_1
    replace hx316_2 := (cell_far (p := ⟨gb313, 1, none⟩) (by first | (rw [add_block]; exact hn316_1) | (show (Addr.add _ _).block ≠ _; rw [add_block]; exact hn316_1) | exact hn316_1) (.slice Ao25 t308.length co25)).trans hx316_2
    replace hx316_3 := (cell_far (p := ⟨gb313, 1, none⟩) (by first | (rw [add_block]; exact hn316_1) | (show (Addr.add _ _).block ≠ _; rw [add_block]; exact hn316_1) | exact hn316_1) (.slice Ao25 t308.length co25)).trans hx316_3
    replace hx316_4 := (cell_far (p := ⟨gb313, 1, none⟩) (by first | (rw [add_block]; exact hn316_1) | (show (Addr.add _ _).block ≠ _; rw [add_block]; exact hn316_1) | exact hn316_1) (.slice Ao25 t308.length co25)).trans hx316_4
    replace hx316_0 := (cell_far (p := ⟨gb313, 2, none⟩) (by first | (rw [add_block]; exact hn316_2) | (show (Addr.add _ _).block ≠ _; rw [add_block]; exact hn316_2) | exact hn316_2) (.int .i64 t311)).trans hx316_0
    replace hx316_1 := (cell_far (p := ⟨gb313, 2, none⟩) (by first | (rw [add_block]; exact hn316_2) | (show (Addr.add _ _).block ≠ _; rw [add_block]; exact hn316_2) | exact hn316_2) (.int .i64 t311)).trans hx316_1
    replace hx316_2 := (cell_far (p := ⟨gb313, 2, none⟩) (by first | (rw [add_block]; exact hn316_2) | (show (Addr.add _ _).block ≠ _; rw [add_block]; exact hn316_2) | exact hn316_2) (.int .i64 t311)).trans hx316_2
    replace hx316_3 := (cell_far (p := ⟨gb313, 2, none⟩) (by first | (rw [add_block]; exact hn316_2) | (show (Addr.add _ _).block ≠ _; rw [add_block]; exact hn316_2) | exact hn316_2) (.int .i64 t311)).trans hx316_3
    replace hx316_4 := (cell_far (p := ⟨gb313, 2, none⟩) (by first | (rw [add_block]; exact hn316_2) | (show (Addr.add _ _).block ≠ _; rw [add_block]; exact hn316_2) | exact hn316_2) (.int .i64 t311)).trans hx316_4
    clear hn316_0
    clear hn316_1
    clear hn316_2
    replace p316 := eq_true p316
    replace q316 := eq_true q316
    go_wp2
    go_meet
    case rel => exact ⟨_, ((((rd_T32 t295 ((rd_T32 t295 t304).f0)).f2) == 1)), (by first | rfl | (simp; done) | (simp [*]; done)), H', ⟨by first | omega | exact Nat.le_refl _⟩, ⟨by (with_reducible repeat (first | apply Kd.R_alloc | apply Kd.R_drewN | apply Kd.R_drew)); exact Kd.R_mono (Kd.R_far (p := ⟨gb313, 2, none⟩) (Kd.R_far (p := ⟨gb313, 1, none⟩) (Kd.R_far (p := ⟨gb313, 0, none⟩) (Kd.R_types HO297.out BK313.out (by decide)) (fun _ hk => hk.2) (.slice Ao21 t305.length co21)) (fun _ hk => hk.2) (.slice Ao25 t308.length co25)) (fun _ hk => hk.2) (.int .i64 t311)) (fun _ hk => hk.1.2)⟩, ⟨by (with_reducible repeat (first | apply Kd.R_alloc | apply Kd.R_drewN | apply Kd.R_drew)); exact Kd.R_mono (Kd.R_far (p := ⟨gb313, 2, none⟩) (Kd.R_far (p := ⟨gb313, 1, none⟩) (Kd.R_far (p := ⟨gb313, 0, none⟩) (Kd.R_types HO300.out BK313.out (by decide)) (fun _ hk => hk.2) (.slice Ao21 t305.length co21)) (fun _ hk => hk.2) (.slice Ao25 t308.length co25)) (fun _ hk => hk.2) (.int .i64 t311)) (fun _ hk => hk.1.2)⟩, ⟨by (with_reducible repeat (first | apply Kd.R_alloc | apply Kd.R_drewN | apply Kd.R_drew)); exact Kd.R_mono (Kd.R_far (p := ⟨gb313, 2, none⟩) (Kd.R_far (p := ⟨gb313, 1, none⟩) (Kd.R_far (p := ⟨gb313, 0, none⟩) (Kd.R_types HO307.out BK313.out (by decide)) (fun _ hk => hk.2) (.slice Ao21 t305.length co21)) (fun _ hk => hk.2) (.slice Ao25 t308.length co25)) (fun _ hk => hk.2) (.int .i64 t311)) (fun _ hk => hk.1.2)⟩, ⟨by (with_reducible repeat (first | apply Kd.R_alloc | apply Kd.R_drewN | apply Kd.R_drew)); exact Kd.R_mono (Kd.R_far (p := ⟨gb313, 2, none⟩) (Kd.R_far (p := ⟨gb313, 1, none⟩) (Kd.R_far (p := ⟨gb313, 0, none⟩) (Kd.R_types HO310.out BK313.out (by decide)) (fun _ hk => hk.2) (.slice Ao21 t305.length co21)) (fun _ hk => hk.2) (.slice Ao25 t308.length co25)) (fun _ hk => hk.2) (.int .i64 t311)) (fun _ hk => hk.1.2)⟩, ⟨by (with_reducible repeat (first | refine blk_drewN ?_ _ | refine blk_drew ?_ | refine blk_alloc ?_ _)); refine blk_far ?_ NB303_313.out _; (with_reducible repeat (first | refine blk_drewN ?_ _ | refine blk_drew ?_ | refine blk_alloc ?_ _)); refine blk_far ?_ NB303_313.out _; (with_reducible repeat (first | refine blk_drewN ?_ _ | refine blk_drew ?_ | refine blk_alloc ?_ _)); refine blk_far ?_ NB303_313.out _; (with_reducible repeat (first | refine blk_drewN ?_ _ | refine blk_drew ?_ | refine blk_alloc ?_ _)); exact BK303.out⟩, ⟨by (with_reducible repeat (first | refine blk_drewN ?_ _ | refine blk_drew ?_ | refine blk_alloc ?_ _)); refine blk_put (cs := #[.slice Ao21 t305.length co21, .slice Ao25 t308.length co25, .int .i64 0]) ?_ 2 _ rfl; (with_reducible repeat (first | refine blk_drewN ?_ _ | refine blk_drew ?_ | refine blk_alloc ?_ _)); refine blk_put (cs := #[.slice Ao21 t305.length co21, .slice none 0 0, .int .i64 0]) ?_ 1 _ rfl; (with_reducible repeat (first | refine blk_drewN ?_ _ | refine blk_drew ?_ | refine blk_alloc ?_ _)); refine blk_put (cs := #[.slice none 0 0, .slice none 0 0, .int .i64 0]) ?_ 0 _ rfl; (with_reducible repeat (first | refine blk_drewN ?_ _ | refine blk_drew ?_ | refine blk_alloc ?_ _)); exact BK313.out⟩, ⟨by repeat (first | (with_reducible first | exact HB.out | apply below_alloc | apply pw_below_drewN | apply below_drew1 | refine below_set ?_ (IsS61.ge HI292.out) | refine below_set ?_ GE303.out | refine below_set ?_ GE313.out) | exact HB.out)⟩⟩
  ·
   rw [if_neg c27] at H
   have c27b0 : (((rd_T32 t295 t304).f2) == (-1)) = false := beq_eq_false_iff_ne.mpr c27
   have c27b1 : (((rd_T32 t295 t304).f2) != (-1)) = true := bne_iff_ne.mpr c27
   (first | rw [c27b0] | (simp only [i64_w, i32_w]; rw [c27b0]) | skip)
   have H' := Aside0.mk H
   clear H
   have hnb37 := NB303_313.out
   have hnc37 := NB313_303.out
   have hnb38 := NB303_292.out
   have hnc38 := NB292_303.out
   have hcz39_0 : w20.cell? ⟨gb303, 0, none⟩ = some (.slice (some ad314) t295.length co15) := (blk_cell BK303.out 0).trans rfl
   have hcz39_1 : w20.cell? ⟨gb303, 1, none⟩ = some (.slice Ao18 t298.length co18) := (blk_cell BK303.out 1).trans rfl
   have hcz39_2 : w20.cell? ⟨gb303, 2, none⟩ = some (.int .i64 t301) := (blk_cell BK303.out 2).trans rfl
   have hfz39_0 := blk_frozen BK303.out 0
   have hfz39_1 := blk_frozen BK303.out 1
   have hfz39_2 := blk_frozen BK303.out 2
   have p315 : 0 ≤ (t304 : Int) := of_decide_eq_true (by first | (with_reducible assumption) | assumption)
   have q315 : t304 < (t295.length : Int) := of_decide_eq_true (by first | (with_reducible assumption) | assumption)
   obtain ⟨ad315, e315, hx315_0, hx315_1, hx315_2, hx315_3, hx315_4⟩ := at_T32 (Kd.R_reads' HO297.out).2.2 t304 p315 q315
   obtain rfl : ad314 = ad315 := (by injection e315)
   have hn315_0 : ad314.block ≠ gb313 := Kd.own_blk (Kd.R_ne HO297.out BK313.out (by decide))
   have hn315_1 : ad314.block ≠ gb313 := Kd.own_blk (Kd.R_ne HO297.out BK313.out (by decide))
   have hn315_2 : ad314.block ≠ gb313 := Kd.own_blk (Kd.R_ne HO297.out BK313.out (by decide))
   replace hx315_0 := (cell_far (p := ⟨gb313, 0, none⟩) (by first | (rw [add_block]; exact hn315_0) | (show (Addr.add _ _).block ≠ _; rw [add_block]; exact hn315_0) | exact hn315_0) (.slice Ao21 t305.length co21)).trans hx315_0
   replace hx315_1 := (cell_far (p := ⟨gb313, 0, none⟩) (by first | (rw [add_block]; exact hn315_0) | (show (Addr.add _ _).block ≠ _; rw [add_block]; exact hn315_0) | exact hn315_0) (.slice Ao21 t305.length co21)).trans hx315_1
   replace hx315_2 := (cell_far (p := ⟨gb313, 0, none⟩) (by first | (rw [add_block]; exact hn315_0) | (show (Addr.add _ _).block ≠ _; rw [add_block]; exact hn315_0) | exact hn315_0) (.slice Ao21 t305.length co21)).trans hx315_2
   replace hx315_3 := (cell_far (p := ⟨gb313, 0, none⟩) (by first | (rw [add_block]; exact hn315_0) | (show (Addr.add _ _).block ≠ _; rw [add_block]; exact hn315_0) | exact hn315_0) (.slice Ao21 t305.length co21)).trans hx315_3
   replace hx315_4 := (cell_far (p := ⟨gb313, 0, none⟩) (by first | (rw [add_block]; exact hn315_0) | (show (Addr.add _ _).block ≠ _; rw [add_block]; exact hn315_0) | exact hn315_0) (.slice Ao21 t305.length co21)).trans hx315_4
   replace hx315_0 := (cell_far (p := ⟨gb313, 1, none⟩) (by first | (rw [add_block]; exact hn315_1) | (show (Addr.add _ _).block ≠ _; rw [add_block]; exact hn315_1) | exact hn315_1) (.slice Ao25 t308.length co25)).trans hx315_0
   replace hx315_1 := (cell_far (p := ⟨gb313, 1, none⟩) (by first | (rw [add_block]; exact hn315_1) | (show (Addr.add _ _).block ≠ _; rw [add_block]; exact hn315_1) | exact hn315_1) (.slice Ao25 t308.length co25)).trans hx315_1
   replace hx315_2 := (cell_far (p := ⟨gb313, 1, none⟩) (by first | (rw [add_block]; exact hn315_1) | (show (Addr.add _ _).block ≠ _; rw [add_block]; exact hn315_1) | exact hn315_1) (.slice Ao25 t308.length co25)).trans hx315_2
   replace hx315_3 := (cell_far (p := ⟨gb313, 1, none⟩) (by first | (rw [add_block]; exact hn315_1) | (show (Addr.add _ _).block ≠ _; rw [add_block]; exact hn315_1) | exact hn315_1) (.slice Ao25 t308.length co25)).trans hx315_3
   replace hx315_4 := (cell_far (p := ⟨gb313, 1, none⟩) (by first | (rw [add_block]; exact hn315_1) | (show (Addr.add _ _).block ≠ _; rw [add_block]; exact hn315_1) | exact hn315_1) (.slice Ao25 t308.length co25)).trans hx315_4
   replace hx315_0 := (cell_far (p := ⟨gb313, 2, none⟩) (by first | (rw [add_block]; exact hn315_2) | (show (Addr.add _ _).block ≠ _; rw [add_block]; exact hn315_2) | exact hn315_2) (.int .i64 t311)).trans hx315_0
   replace hx315_1 := (cell_far (p := ⟨gb313, 2, none⟩) (by first | (rw [add_block]; exact hn315_2) | (show (Addr.add _ _).block ≠ _; rw [add_block]; exact hn315_2) | exact hn315_2) (.int .i64 t311)).trans hx315_1
   replace hx315_2 := (cell_far (p := ⟨gb313, 2, none⟩) (by first | (rw [add_block]; exact hn315_2) | (show (Addr.add _ _).block ≠ _; rw [add_block]; exact hn315_2) | exact hn315_2) (.int .i64 t311)).trans hx315_2
   replace hx315_3 := (cell_far (p := ⟨gb313, 2, none⟩) (by first | (rw [add_block]; exact hn315_2) | (show (Addr.add _ _).block ≠ _; rw [add_block]; exact hn315_2) | exact hn315_2) (.int .i64 t311)).trans hx315_3
   replace hx315_4 := (cell_far (p := ⟨gb313, 2, none⟩) (by first | (rw [add_block]; exact hn315_2) | (show (Addr.add _ _).block ≠ _; rw [add_block]; exact hn315_2) | exact hn315_2) (.int .i64 t311)).trans hx315_4
   clear hn315_0
   clear hn315_1
   clear hn315_2
   replace p315 := eq_true p315
   replace q315 := eq_true q315
   go_wp2
   go_meet
   case rel => exact ⟨_, (false), (by first | rfl | (simp; done) | (simp [*]; done)), H', ⟨by first | omega | exact Nat.le_refl _⟩, ⟨by (with_reducible repeat (first | apply Kd.R_alloc | apply Kd.R_drewN | apply Kd.R_drew)); exact Kd.R_mono (Kd.R_far (p := ⟨gb313, 2, none⟩) (Kd.R_far (p := ⟨gb313, 1, none⟩) (Kd.R_far (p := ⟨gb313, 0, none⟩) (Kd.R_types HO297.out BK313.out (by decide)) (fun _ hk => hk.2) (.slice Ao21 t305.length co21)) (fun _ hk => hk.2) (.slice Ao25 t308.length co25)) (fun _ hk => hk.2) (.int .i64 t311)) (fun _ hk => hk.1.2)⟩, ⟨by (with_reducible repeat (first | apply Kd.R_alloc | apply Kd.R_drewN | apply Kd.R_drew)); exact Kd.R_mono (Kd.R_far (p := ⟨gb313, 2, none⟩) (Kd.R_far (p := ⟨gb313, 1, none⟩) (Kd.R_far (p := ⟨gb313, 0, none⟩) (Kd.R_types HO300.out BK313.out (by decide)) (fun _ hk => hk.2) (.slice Ao21 t305.length co21)) (fun _ hk => hk.2) (.slice Ao25 t308.length co25)) (fun _ hk => hk.2) (.int .i64 t311)) (fun _ hk => hk.1.2)⟩, ⟨by (with_reducible repeat (first | apply Kd.R_alloc | apply Kd.R_drewN | apply Kd.R_drew)); exact Kd.R_mono (Kd.R_far (p := ⟨gb313, 2, none⟩) (Kd.R_far (p := ⟨gb313, 1, none⟩) (Kd.R_far (p := ⟨gb313, 0, none⟩) (Kd.R_types HO307.out BK313.out (by decide)) (fun _ hk => hk.2) (.slice Ao21 t305.length co21)) (fun _ hk => hk.2) (.slice Ao25 t308.length co25)) (fun _ hk => hk.2) (.int .i64 t311)) (fun _ hk => hk.1.2)⟩, ⟨by (with_reducible repeat (first | apply Kd.R_alloc | apply Kd.R_drewN | apply Kd.R_drew)); exact Kd.R_mono (Kd.R_far (p := ⟨gb313, 2, none⟩) (Kd.R_far (p := ⟨gb313, 1, none⟩) (Kd.R_far (p := ⟨gb313, 0, none⟩) (Kd.R_types HO310.out BK313.out (by decide)) (fun _ hk => hk.2) (.slice Ao21 t305.length co21)) (fun _ hk => hk.2) (.slice Ao25 t308.length co25)) (fun _ hk => hk.2) (.int .i64 t311)) (fun _ hk => hk.1.2)⟩, ⟨by (with_reducible repeat (first | refine blk_drewN ?_ _ | refine blk_drew ?_ | refine blk_alloc ?_ _)); refine blk_far ?_ NB303_313.out _; (with_reducible repeat (first | refine blk_drewN ?_ _ | refine blk_drew ?_ | refine blk_alloc ?_ _)); refine blk_far ?_ NB303_313.out _; (with_reducible repeat (first | refine blk_drewN ?_ _ | refine blk_drew ?_ | refine blk_alloc ?_ _)); refine blk_far ?_ NB303_313.out _; (with_reducible repeat (first | refine blk_drewN ?_ _ | refine blk_drew ?_ | refine blk_alloc ?_ _)); exact BK303.out⟩, ⟨by (with_reducible repeat (first | refine blk_drewN ?_ _ | refine blk_drew ?_ | refine blk_alloc ?_ _)); refine blk_put (cs := #[.slice Ao21 t305.length co21, .slice Ao25 t308.length co25, .int .i64 0]) ?_ 2 _ rfl; (with_reducible repeat (first | refine blk_drewN ?_ _ | refine blk_drew ?_ | refine blk_alloc ?_ _)); refine blk_put (cs := #[.slice Ao21 t305.length co21, .slice none 0 0, .int .i64 0]) ?_ 1 _ rfl; (with_reducible repeat (first | refine blk_drewN ?_ _ | refine blk_drew ?_ | refine blk_alloc ?_ _)); refine blk_put (cs := #[.slice none 0 0, .slice none 0 0, .int .i64 0]) ?_ 0 _ rfl; (with_reducible repeat (first | refine blk_drewN ?_ _ | refine blk_drew ?_ | refine blk_alloc ?_ _)); exact BK313.out⟩, ⟨by repeat (first | (with_reducible first | exact HB.out | apply below_alloc | apply pw_below_drewN | apply below_drew1 | refine below_set ?_ (IsS61.ge HI292.out) | refine below_set ?_ GE303.out | refine below_set ?_ GE313.out) | exact HB.out)⟩⟩
 case rest =>
  clear HC10
  try clear c1; try clear c2; try clear p2; try clear c3; try clear p3; try clear q3; try clear hx3; try clear c5; try clear c8; try clear c8b0; try clear c9; try clear c9b0; try clear c10; try clear c11; try clear c12; try clear c16; try clear c22; try clear c23; try clear c25; try clear c27; try clear c27b0
  try clear c27b1; try clear c28; try clear c28b0; try clear c28b1; try clear c29; try clear c30; try clear p31; try clear q31; try clear hx31; try clear c32; try clear c32b0; try clear c33; try clear c33b0; try clear c34; try clear c35; try clear c37; try clear c38; try clear hcz17_0; try clear hcz17_1
  try clear hcz17_2; try clear hcz24_0; try clear hcz24_1; try clear hcz24_2; try clear hcz26_0; try clear hcz26_1; try clear hcz26_2; try clear hcz31_0; try clear hcz31_1; try clear hcz31_2; try clear hcz36_0; try clear hcz36_1; try clear hcz36_2; try clear hcz39_0; try clear hcz39_1; try clear hcz39_2
  try clear hfz17_0; try clear hfz17_1; try clear hfz17_2; try clear hfz24_0; try clear hfz24_1; try clear hfz24_2; try clear hfz26_0; try clear hfz26_1; try clear hfz26_2; try clear hfz31_0; try clear hfz31_1; try clear hfz31_2; try clear hfz36_0; try clear hfz36_1; try clear hfz36_2; try clear hfz39_0
  try clear hfz39_1; try clear hfz39_2; try clear hx314_0; try clear hx314_1; try clear hx314_2; try clear hx314_3; try clear hx314_4; try clear hx315_0; try clear hx315_1; try clear hx315_2; try clear hx315_3; try clear hx315_4; try clear hx316_0; try clear hx316_1; try clear hx316_2; try clear hx316_3
  try clear hx316_4; try clear p314; try clear p315; try clear p316; try clear q314; try clear q315; try clear q316
  obtain ⟨kq, x11_9, rfl, HA, HJ9, HO_304000, HO_304001, HO_314000, HO_314001, BK303, BK313, HB⟩ := hcut
  cases kq with
  | zero => exact absurd HA.out (by simp [minecontrollaw18_FeederCloses.j0])
  | succ kj9 =>
   have H := HA.out
   clear HA
   simp only [minecontrollaw18_FeederCloses.j0] at H
   replace H := Option.bind_eq_some_iff.mp H
   obtain ⟨t317, A400, H⟩ := H
   replace H : (if t317 = 0 then (if x11_9 = true then (if t312 = 0 then (if (t305.length : Int) = (t295.length : Int) then (if 0 ≤ t304 then (if t304 < (t305.length : Int) then (if (rd_T32 t305 t304).f3 = true then (if ((rd_T32 t305 t304).f2) = 0 then (if ((rd_T32 t305 t304).f1) = 5 then ((minecontrollaw18_awake.f kj9).bind fun t322 => (some t322)) else (some false)) else (some false)) else (some false)) else (none)) else (none)) else (some false)) else (some false)) else (if t312 = 10 then ((minecontrollaw18_awake.f kj9).bind fun t323 => (some t323)) else (some false))) else (if t312 = 0 then (some false) else ((minecontrollaw18_awake.f kj9).bind fun t318 => (some t318)))) = some r := H
   have A40 := Aside0.mk A400
   clear A400
   by_cases c41 : t317 = 0
   ·
    rw [if_pos c41] at H
    have c41b0 : (t317 == 0) = true := beq_iff_eq.mpr c41
    have c41b1 : (t317 != 0) = false := bne_eq_false_iff_eq.mpr c41
    clear c41
    by_cases c42 : x11_9 = true
    ·
     subst c42
     have H1 : (if t312 = 0 then (if (t305.length : Int) = (t295.length : Int) then (if 0 ≤ t304 then (if t304 < (t305.length : Int) then (if (rd_T32 t305 t304).f3 = true then (if ((rd_T32 t305 t304).f2) = 0 then (if ((rd_T32 t305 t304).f1) = 5 then ((minecontrollaw18_awake.f kj9).bind fun t322 => (some t322)) else (some false)) else (some false)) else (some false)) else (none)) else (none)) else (some false)) else (some false)) = some r := by rw [if_pos rfl] at H; exact H
     clear H
     have H := H1
     clear H1
     by_cases c43 : t312 = 0
     ·
      rw [if_pos c43] at H
      have c43b0 : (t312 == 0) = true := beq_iff_eq.mpr c43
      have c43b1 : (t312 != 0) = false := bne_eq_false_iff_eq.mpr c43
      clear c43
      by_cases c44 : (t305.length : Int) = (t295.length : Int)
      ·
       rw [if_pos c44] at H
       have c44b0 : ((t305.length : Int) == (t295.length : Int)) = true := beq_iff_eq.mpr c44
       have c44b1 : ((t305.length : Int) != (t295.length : Int)) = false := bne_eq_false_iff_eq.mpr c44
       have c44b2 : (t305.length == t295.length) = true := by first | simpa using c44 | (simp at c44 ⊢; omega)
       clear c44
       by_cases c45 : 0 ≤ t304
       rotate_left
       ·
        rw [if_neg c45] at H
        exact absurd H (by simp)
       rw [if_pos c45] at H
       have c45b0 : decide (0 ≤ t304) = true := decide_eq_true c45
       clear c45
       by_cases c46 : t304 < (t305.length : Int)
       rotate_left
       ·
        rw [if_neg c46] at H
        exact absurd H (by simp)
       rw [if_pos c46] at H
       have c46b0 : decide (t304 < (t305.length : Int)) = true := decide_eq_true c46
       clear c46
       obtain ⟨bq47, hbq47⟩ : ∃ b_ : Bool, b_ = ((rd_T32 t305 t304).f3) := ⟨_, rfl⟩
       replace H : (if bq47 = true then (if ((rd_T32 t305 t304).f2) = 0 then (if ((rd_T32 t305 t304).f1) = 5 then ((minecontrollaw18_awake.f kj9).bind fun t322 => (some t322)) else (some false)) else (some false)) else (some false)) = some r := by rw [← hbq47] at H; exact H
       have Nbq47 := Aside0.mk hbq47
       clear hbq47
       by_cases c48 : bq47 = true
       ·
        subst c48
        have H1 : (if ((rd_T32 t305 t304).f2) = 0 then (if ((rd_T32 t305 t304).f1) = 5 then ((minecontrollaw18_awake.f kj9).bind fun t322 => (some t322)) else (some false)) else (some false)) = some r := by rw [if_pos rfl] at H; exact H
        clear H
        have H := H1
        clear H1
        by_cases c49 : ((rd_T32 t305 t304).f2) = 0
        ·
         rw [if_pos c49] at H
         have c49b0 : (((rd_T32 t305 t304).f2) == 0) = true := beq_iff_eq.mpr c49
         have c49b1 : (((rd_T32 t305 t304).f2) != 0) = false := bne_eq_false_iff_eq.mpr c49
         clear c49
         by_cases c50 : ((rd_T32 t305 t304).f1) = 5
         ·
          rw [if_pos c50] at H
          have c50b0 : (((rd_T32 t305 t304).f1) == 5) = true := beq_iff_eq.mpr c50
          have c50b1 : (((rd_T32 t305 t304).f1) != 5) = false := bne_eq_false_iff_eq.mpr c50
          clear c50
          replace H := Option.bind_eq_some_iff.mp H
          obtain ⟨t322, A510, H⟩ := H
          replace H : (some t322) = some r := H
          have A51 := Aside0.mk A510
          clear A510
          obtain rfl := Option.some.inj H
          have hnb52 := NB303_313.out
          have hnc52 := NB313_303.out
          have hcz53_0 : wc.cell? ⟨gb303, 0, none⟩ = some (.slice (some ad314) t295.length co15) := (blk_cell BK303.out 0).trans rfl
          have hcz53_1 : wc.cell? ⟨gb303, 1, none⟩ = some (.slice Ao18 t298.length co18) := (blk_cell BK303.out 1).trans rfl
          have hcz53_2 : wc.cell? ⟨gb303, 2, none⟩ = some (.int .i64 t301) := (blk_cell BK303.out 2).trans rfl
          have hfz53_0 := blk_frozen BK303.out 0
          have hfz53_1 := blk_frozen BK303.out 1
          have hfz53_2 := blk_frozen BK303.out 2
          go_wp2_with (first | ((with_reducible refine gate_callee (f := 26) rfl ?_); refine goesL_ (some 56) rfl rfl Try.func26 (by kernel_rfl) rfl #[.agg #[.slice (some ad314) t295.length co15, .slice Ao18 t298.length co18, .int .i64 t301]] rfl (by (try simp only [List.map_toArray, List.map_cons, List.map_nil]); first | done | rfl | (simp only [List.length_drop, List.length_take]; rfl)) ?_; (with_reducible refine (minecontrolref18_Check.calls kj9 _ _ t295 _ _ t298 t301 t317 _ ?side1 ?side2 ?side3 ?side4 A40.out).mono ?_); (case side1 => repeat (first | exact (Kd.R_reads' HO_304000.out).2.2 | (with_reducible refine Kd.C_alloc ?_ _) | (with_reducible refine Kd.C_drewN ?_ _) | (with_reducible refine Kd.C_drew ?_))); (case side2 => exact (Kd.R_reads' HO_304000.out).2.1); (case side3 => repeat (first | exact (Kd.R_reads' HO_304001.out).2.2 | (with_reducible refine Kd.C_alloc ?_ _) | (with_reducible refine Kd.C_drewN ?_ _) | (with_reducible refine Kd.C_drew ?_))); (case side4 => exact (Kd.R_reads' HO_304001.out).2.1); rintro e w54 ⟨rfl, hb⟩; refine ⟨_, rfl, ?_⟩; have n0_ := Aside0.mk (Kd.R_below (by (with_reducible repeat (first | apply Kd.R_alloc | apply Kd.R_drewN | apply Kd.R_drew)); exact HO_304000.out) hb); have n1_ := Aside0.mk (Kd.R_below (by (with_reducible repeat (first | apply Kd.R_alloc | apply Kd.R_drewN | apply Kd.R_drew)); exact HO_304001.out) hb); have n2_ := Aside0.mk (Kd.R_below (by (with_reducible repeat (first | apply Kd.R_alloc | apply Kd.R_drewN | apply Kd.R_drew)); exact HO_314000.out) hb); have n3_ := Aside0.mk (Kd.R_below (by (with_reducible repeat (first | apply Kd.R_alloc | apply Kd.R_drewN | apply Kd.R_drew)); exact HO_314001.out) hb); have n4_ := Aside0.mk (blk_below (g := gb303) (o := .cells #[.slice (some ad314) t295.length co15, .slice Ao18 t298.length co18, .int .i64 t301] 28 (0, 0)) (by (with_reducible repeat (first | refine blk_drewN ?_ _ | refine blk_drew ?_ | refine blk_alloc ?_ _)); exact BK303.out) hb); have n5_ := Aside0.mk (blk_below (g := gb313) (o := .cells #[.slice Ao21 t305.length co21, .slice Ao25 t308.length co25, .int .i64 t311] 28 (0, 0)) (by (with_reducible repeat (first | refine blk_drewN ?_ _ | refine blk_drew ?_ | refine blk_alloc ?_ _)); exact BK313.out) hb); have n6_ := Aside0.mk (below_step (by repeat (first | (with_reducible first | exact HB.out | apply below_alloc | apply pw_below_drewN | apply below_drew1 | refine below_set ?_ GE303.out | refine below_set ?_ GE313.out) | exact HB.out)) hb); clear HO_304000; clear HO_304001; clear HO_314000; clear HO_314001; clear BK303; clear BK313; clear HB; have HO_304000 := n0_; have HO_304001 := n1_; have HO_314000 := n2_; have HO_314001 := n3_; have BK303 := n4_; have BK313 := n5_; have HB := n6_; clear n0_ n1_ n2_ n3_ n4_ n5_ n6_; (try clear hb); (try clear hb2); (try clear hge); (try clear hk); (try clear hi); have hcz55_0 : w54.cell? ⟨gb313, 0, none⟩ = some (.slice Ao21 t305.length co21) := (blk_cell BK313.out 0).trans rfl; have hcz55_1 : w54.cell? ⟨gb313, 1, none⟩ = some (.slice Ao25 t308.length co25) := (blk_cell BK313.out 1).trans rfl; have hcz55_2 : w54.cell? ⟨gb313, 2, none⟩ = some (.int .i64 t311) := (blk_cell BK313.out 2).trans rfl; have hfz55_0 := blk_frozen BK313.out 0; have hfz55_1 := blk_frozen BK313.out 1; have hfz55_2 := blk_frozen BK313.out 2; have hcz56_0 : w54.cell? ⟨gb303, 0, none⟩ = some (.slice (some ad314) t295.length co15) := (blk_cell BK303.out 0).trans rfl; have hcz56_1 : w54.cell? ⟨gb303, 1, none⟩ = some (.slice Ao18 t298.length co18) := (blk_cell BK303.out 1).trans rfl; have hcz56_2 : w54.cell? ⟨gb303, 2, none⟩ = some (.int .i64 t301) := (blk_cell BK303.out 2).trans rfl; have hfz56_0 := blk_frozen BK303.out 0; have hfz56_1 := blk_frozen BK303.out 1; have hfz56_2 := blk_frozen BK303.out 2; have p319 : 0 ≤ (t304 : Int) := of_decide_eq_true (by first | (with_reducible assumption) | assumption); have q319 : t304 < (t305.length : Int) := of_decide_eq_true (by first | (with_reducible assumption) | assumption); obtain ⟨ad319, e319, hx319_0, hx319_1, hx319_2, hx319_3, hx319_4⟩ := at_T32 (Kd.R_reads' HO_314000.out).2.2 t304 p319 q319; (try rw [← Nbq47.out] at hx319_3); (try rw [← Nbq47.out] at hx319_4); cases e319; replace p319 := eq_true p319; replace q319 := eq_true q319; have p320 : 0 ≤ (t304 : Int) := of_decide_eq_true (by first | (with_reducible assumption) | assumption); have q320 : t304 < (t305.length : Int) := of_decide_eq_true (by first | (with_reducible assumption) | assumption); obtain ⟨ad320, e320, hx320_0, hx320_1, hx320_2, hx320_3, hx320_4⟩ := at_T32 (Kd.R_reads' HO_314000.out).2.2 t304 p320 q320; (try rw [← Nbq47.out] at hx320_3); (try rw [← Nbq47.out] at hx320_4); obtain rfl : ad319 = ad320 := (by injection e320); replace p320 := eq_true p320; replace q320 := eq_true q320; have p321 : 0 ≤ (t304 : Int) := of_decide_eq_true (by first | (with_reducible assumption) | assumption); have q321 : t304 < (t305.length : Int) := of_decide_eq_true (by first | (with_reducible assumption) | assumption); obtain ⟨ad321, e321, hx321_0, hx321_1, hx321_2, hx321_3, hx321_4⟩ := at_T32 (Kd.R_reads' HO_314000.out).2.2 t304 p321 q321; (try rw [← Nbq47.out] at hx321_3); (try rw [← Nbq47.out] at hx321_4); obtain rfl : ad319 = ad321 := (by injection e321); replace p321 := eq_true p321; replace q321 := eq_true q321) | (go_at_call 20; (with_reducible refine (minecontrollaw18_awake.calls kj9  t322 _ A51.out).mono ?_); rintro e w57 ⟨rfl, hb⟩; have n0_ := Aside0.mk (Kd.R_below (by (with_reducible repeat (first | apply Kd.R_alloc | apply Kd.R_drewN | apply Kd.R_drew)); exact HO_304000.out) hb); have n1_ := Aside0.mk (Kd.R_below (by (with_reducible repeat (first | apply Kd.R_alloc | apply Kd.R_drewN | apply Kd.R_drew)); exact HO_304001.out) hb); have n2_ := Aside0.mk (Kd.R_below (by (with_reducible repeat (first | apply Kd.R_alloc | apply Kd.R_drewN | apply Kd.R_drew)); exact HO_314000.out) hb); have n3_ := Aside0.mk (Kd.R_below (by (with_reducible repeat (first | apply Kd.R_alloc | apply Kd.R_drewN | apply Kd.R_drew)); exact HO_314001.out) hb); have n4_ := Aside0.mk (blk_below (g := gb303) (o := .cells #[.slice (some ad314) t295.length co15, .slice Ao18 t298.length co18, .int .i64 t301] 28 (0, 0)) (by (with_reducible repeat (first | refine blk_drewN ?_ _ | refine blk_drew ?_ | refine blk_alloc ?_ _)); exact BK303.out) hb); have n5_ := Aside0.mk (blk_below (g := gb313) (o := .cells #[.slice (some ad319) t305.length co21, .slice Ao25 t308.length co25, .int .i64 t311] 28 (0, 0)) (by (with_reducible repeat (first | refine blk_drewN ?_ _ | refine blk_drew ?_ | refine blk_alloc ?_ _)); exact BK313.out) hb); have n6_ := Aside0.mk (below_step (by repeat (first | (with_reducible first | exact HB.out | apply below_alloc | apply pw_below_drewN | apply below_drew1 | refine below_set ?_ GE303.out | refine below_set ?_ GE313.out) | exact HB.out)) hb); clear HO_304000; clear HO_304001; clear HO_314000; clear HO_314001; clear BK303; clear BK313; clear HB; have HO_304000 := n0_; have HO_304001 := n1_; have HO_314000 := n2_; have HO_314001 := n3_; have BK303 := n4_; have BK313 := n5_; have HB := n6_; clear n0_ n1_ n2_ n3_ n4_ n5_ n6_; (try clear hb); (try clear hb2); (try clear hge); (try clear hk); (try clear hi)))
          go_ret
          exact ⟨by first | rfl | (simp [errW_none, errW_some] <;> rfl) | (simp [*, errW_none, errW_some] <;> rfl), by repeat (first | (with_reducible first | exact HB.out | apply below_alloc | apply pw_below_drewN | apply below_drew1 | refine below_set ?_ GE303.out | refine below_set ?_ GE313.out) | exact HB.out)⟩
         ·
          rw [if_neg c50] at H
          have c50b0 : (((rd_T32 t305 t304).f1) == 5) = false := beq_eq_false_iff_ne.mpr c50
          have c50b1 : (((rd_T32 t305 t304).f1) != 5) = true := bne_iff_ne.mpr c50
          obtain rfl := Option.some.inj H
          exact absurd hr_.out (by decide)
        ·
         rw [if_neg c49] at H
         have c49b0 : (((rd_T32 t305 t304).f2) == 0) = false := beq_eq_false_iff_ne.mpr c49
         have c49b1 : (((rd_T32 t305 t304).f2) != 0) = true := bne_iff_ne.mpr c49
         obtain rfl := Option.some.inj H
         exact absurd hr_.out (by decide)
       ·
        replace c48 := Bool.eq_false_iff.mpr c48
        subst c48
        have H1 : (some false) = some r := by rw [if_neg (show ¬ (false = true) by decide)] at H; exact H
        clear H
        have H := H1
        clear H1
        obtain rfl := Option.some.inj H
        exact absurd hr_.out (by decide)
      ·
       rw [if_neg c44] at H
       have c44b0 : ((t305.length : Int) == (t295.length : Int)) = false := beq_eq_false_iff_ne.mpr c44
       have c44b1 : ((t305.length : Int) != (t295.length : Int)) = true := bne_iff_ne.mpr c44
       have c44b2 : (t305.length == t295.length) = false := by first | simpa using c44 | (simp at c44 ⊢; omega)
       obtain rfl := Option.some.inj H
       exact absurd hr_.out (by decide)
     ·
      rw [if_neg c43] at H
      have c43b0 : (t312 == 0) = false := beq_eq_false_iff_ne.mpr c43
      have c43b1 : (t312 != 0) = true := bne_iff_ne.mpr c43
      obtain rfl := Option.some.inj H
      exact absurd hr_.out (by decide)
    ·
     replace c42 := Bool.eq_false_iff.mpr c42
     subst c42
     have H1 : (if t312 = 10 then ((minecontrollaw18_awake.f kj9).bind fun t323 => (some t323)) else (some false)) = some r := by rw [if_neg (show ¬ (false = true) by decide)] at H; exact H
     clear H
     have H := H1
     clear H1
     by_cases c58 : t312 = 10
     ·
      rw [if_pos c58] at H
      have c58b0 : (t312 == 10) = true := beq_iff_eq.mpr c58
      have c58b1 : (t312 != 10) = false := bne_eq_false_iff_eq.mpr c58
      clear c58
      replace H := Option.bind_eq_some_iff.mp H
      obtain ⟨t323, A590, H⟩ := H
      replace H : (some t323) = some r := H
      have A59 := Aside0.mk A590
      clear A590
      obtain rfl := Option.some.inj H
      have hnb60 := NB303_313.out
      have hnc60 := NB313_303.out
      have hcz61_0 : wc.cell? ⟨gb303, 0, none⟩ = some (.slice (some ad314) t295.length co15) := (blk_cell BK303.out 0).trans rfl
      have hcz61_1 : wc.cell? ⟨gb303, 1, none⟩ = some (.slice Ao18 t298.length co18) := (blk_cell BK303.out 1).trans rfl
      have hcz61_2 : wc.cell? ⟨gb303, 2, none⟩ = some (.int .i64 t301) := (blk_cell BK303.out 2).trans rfl
      have hfz61_0 := blk_frozen BK303.out 0
      have hfz61_1 := blk_frozen BK303.out 1
      have hfz61_2 := blk_frozen BK303.out 2
      go_wp2_with (first | ((with_reducible refine gate_callee (f := 26) rfl ?_); refine goesL_ (some 56) rfl rfl Try.func26 (by kernel_rfl) rfl #[.agg #[.slice (some ad314) t295.length co15, .slice Ao18 t298.length co18, .int .i64 t301]] rfl (by (try simp only [List.map_toArray, List.map_cons, List.map_nil]); first | done | rfl | (simp only [List.length_drop, List.length_take]; rfl)) ?_; (with_reducible refine (minecontrolref18_Check.calls kj9 _ _ t295 _ _ t298 t301 t317 _ ?side1 ?side2 ?side3 ?side4 A40.out).mono ?_); (case side1 => repeat (first | exact (Kd.R_reads' HO_304000.out).2.2 | (with_reducible refine Kd.C_alloc ?_ _) | (with_reducible refine Kd.C_drewN ?_ _) | (with_reducible refine Kd.C_drew ?_))); (case side2 => exact (Kd.R_reads' HO_304000.out).2.1); (case side3 => repeat (first | exact (Kd.R_reads' HO_304001.out).2.2 | (with_reducible refine Kd.C_alloc ?_ _) | (with_reducible refine Kd.C_drewN ?_ _) | (with_reducible refine Kd.C_drew ?_))); (case side4 => exact (Kd.R_reads' HO_304001.out).2.1); rintro e w62 ⟨rfl, hb⟩; refine ⟨_, rfl, ?_⟩; have n0_ := Aside0.mk (Kd.R_below (by (with_reducible repeat (first | apply Kd.R_alloc | apply Kd.R_drewN | apply Kd.R_drew)); exact HO_304000.out) hb); have n1_ := Aside0.mk (Kd.R_below (by (with_reducible repeat (first | apply Kd.R_alloc | apply Kd.R_drewN | apply Kd.R_drew)); exact HO_304001.out) hb); have n2_ := Aside0.mk (Kd.R_below (by (with_reducible repeat (first | apply Kd.R_alloc | apply Kd.R_drewN | apply Kd.R_drew)); exact HO_314000.out) hb); have n3_ := Aside0.mk (Kd.R_below (by (with_reducible repeat (first | apply Kd.R_alloc | apply Kd.R_drewN | apply Kd.R_drew)); exact HO_314001.out) hb); have n4_ := Aside0.mk (blk_below (g := gb303) (o := .cells #[.slice (some ad314) t295.length co15, .slice Ao18 t298.length co18, .int .i64 t301] 28 (0, 0)) (by (with_reducible repeat (first | refine blk_drewN ?_ _ | refine blk_drew ?_ | refine blk_alloc ?_ _)); exact BK303.out) hb); have n5_ := Aside0.mk (blk_below (g := gb313) (o := .cells #[.slice Ao21 t305.length co21, .slice Ao25 t308.length co25, .int .i64 t311] 28 (0, 0)) (by (with_reducible repeat (first | refine blk_drewN ?_ _ | refine blk_drew ?_ | refine blk_alloc ?_ _)); exact BK313.out) hb); have n6_ := Aside0.mk (below_step (by repeat (first | (with_reducible first | exact HB.out | apply below_alloc | apply pw_below_drewN | apply below_drew1 | refine below_set ?_ GE303.out | refine below_set ?_ GE313.out) | exact HB.out)) hb); clear HO_304000; clear HO_304001; clear HO_314000; clear HO_314001; clear BK303; clear BK313; clear HB; have HO_304000 := n0_; have HO_304001 := n1_; have HO_314000 := n2_; have HO_314001 := n3_; have BK303 := n4_; have BK313 := n5_; have HB := n6_; clear n0_ n1_ n2_ n3_ n4_ n5_ n6_; (try clear hb); (try clear hb2); (try clear hge); (try clear hk); (try clear hi)) | (go_at_call 20; (with_reducible refine (minecontrollaw18_awake.calls kj9  t323 _ A59.out).mono ?_); rintro e w63 ⟨rfl, hb⟩; have n0_ := Aside0.mk (Kd.R_below (by (with_reducible repeat (first | apply Kd.R_alloc | apply Kd.R_drewN | apply Kd.R_drew)); exact HO_304000.out) hb); have n1_ := Aside0.mk (Kd.R_below (by (with_reducible repeat (first | apply Kd.R_alloc | apply Kd.R_drewN | apply Kd.R_drew)); exact HO_304001.out) hb); have n2_ := Aside0.mk (Kd.R_below (by (with_reducible repeat (first | apply Kd.R_alloc | apply Kd.R_drewN | apply Kd.R_drew)); exact HO_314000.out) hb); have n3_ := Aside0.mk (Kd.R_below (by (with_reducible repeat (first | apply Kd.R_alloc | apply Kd.R_drewN | apply Kd.R_drew)); exact HO_314001.out) hb); have n4_ := Aside0.mk (blk_below (g := gb303) (o := .cells #[.slice (some ad314) t295.length co15, .slice Ao18 t298.length co18, .int .i64 t301] 28 (0, 0)) (by (with_reducible repeat (first | refine blk_drewN ?_ _ | refine blk_drew ?_ | refine blk_alloc ?_ _)); exact BK303.out) hb); have n5_ := Aside0.mk (blk_below (g := gb313) (o := .cells #[.slice Ao21 t305.length co21, .slice Ao25 t308.length co25, .int .i64 t311] 28 (0, 0)) (by (with_reducible repeat (first | refine blk_drewN ?_ _ | refine blk_drew ?_ | refine blk_alloc ?_ _)); exact BK313.out) hb); have n6_ := Aside0.mk (below_step (by repeat (first | (with_reducible first | exact HB.out | apply below_alloc | apply pw_below_drewN | apply below_drew1 | refine below_set ?_ GE303.out | refine below_set ?_ GE313.out) | exact HB.out)) hb); clear HO_304000; clear HO_304001; clear HO_314000; clear HO_314001; clear BK303; clear BK313; clear HB; have HO_304000 := n0_; have HO_304001 := n1_; have HO_314000 := n2_; have HO_314001 := n3_; have BK303 := n4_; have BK313 := n5_; have HB := n6_; clear n0_ n1_ n2_ n3_ n4_ n5_ n6_; (try clear hb); (try clear hb2); (try clear hge); (try clear hk); (try clear hi)))
      go_ret
      exact ⟨by first | rfl | (simp [errW_none, errW_some] <;> rfl) | (simp [*, errW_none, errW_some] <;> rfl), by repeat (first | (with_reducible first | exact HB.out | apply below_alloc | apply pw_below_drewN | apply below_drew1 | refine below_set ?_ GE303.out | refine below_set ?_ GE313.out) | exact HB.out)⟩
     ·
      rw [if_neg c58] at H
      have c58b0 : (t312 == 10) = false := beq_eq_false_iff_ne.mpr c58
      have c58b1 : (t312 != 10) = true := bne_iff_ne.mpr c58
      obtain rfl := Option.some.inj H
      exact absurd hr_.out (by decide)
   ·
    rw [if_neg c41] at H
    have c41b0 : (t317 == 0) = false := beq_eq_false_iff_ne.mpr c41
    have c41b1 : (t317 != 0) = true := bne_iff_ne.mpr c41
    by_cases c64 : t312 = 0
    ·
     rw [if_pos c64] at H
     have c64b0 : (t312 == 0) = true := beq_iff_eq.mpr c64
     have c64b1 : (t312 != 0) = false := bne_eq_false_iff_eq.mpr c64
     clear c64
     obtain rfl := Option.some.inj H
     exact absurd hr_.out (by decide)
    ·
     rw [if_neg c64] at H
     have c64b0 : (t312 == 0) = false := beq_eq_false_iff_ne.mpr c64
     have c64b1 : (t312 != 0) = true := bne_iff_ne.mpr c64
     replace H := Option.bind_eq_some_iff.mp H
     obtain ⟨t318, A650, H⟩ := H
     replace H : (some t318) = some r := H
     have A65 := Aside0.mk A650
     clear A650
     obtain rfl := Option.some.inj H
     have hnb66 := NB303_313.out
     have hnc66 := NB313_303.out
     have hcz67_0 : wc.cell? ⟨gb303, 0, none⟩ = some (.slice (some ad314) t295.length co15) := (blk_cell BK303.out 0).trans rfl
     have hcz67_1 : wc.cell? ⟨gb303, 1, none⟩ = some (.slice Ao18 t298.length co18) := (blk_cell BK303.out 1).trans rfl
     have hcz67_2 : wc.cell? ⟨gb303, 2, none⟩ = some (.int .i64 t301) := (blk_cell BK303.out 2).trans rfl
     have hfz67_0 := blk_frozen BK303.out 0
     have hfz67_1 := blk_frozen BK303.out 1
     have hfz67_2 := blk_frozen BK303.out 2
     go_wp2_with (first | ((with_reducible refine gate_callee (f := 26) rfl ?_); refine goesL_ (some 56) rfl rfl Try.func26 (by kernel_rfl) rfl #[.agg #[.slice (some ad314) t295.length co15, .slice Ao18 t298.length co18, .int .i64 t301]] rfl (by (try simp only [List.map_toArray, List.map_cons, List.map_nil]); first | done | rfl | (simp only [List.length_drop, List.length_take]; rfl)) ?_; (with_reducible refine (minecontrolref18_Check.calls kj9 _ _ t295 _ _ t298 t301 t317 _ ?side1 ?side2 ?side3 ?side4 A40.out).mono ?_); (case side1 => repeat (first | exact (Kd.R_reads' HO_304000.out).2.2 | (with_reducible refine Kd.C_alloc ?_ _) | (with_reducible refine Kd.C_drewN ?_ _) | (with_reducible refine Kd.C_drew ?_))); (case side2 => exact (Kd.R_reads' HO_304000.out).2.1); (case side3 => repeat (first | exact (Kd.R_reads' HO_304001.out).2.2 | (with_reducible refine Kd.C_alloc ?_ _) | (with_reducible refine Kd.C_drewN ?_ _) | (with_reducible refine Kd.C_drew ?_))); (case side4 => exact (Kd.R_reads' HO_304001.out).2.1); rintro e w68 ⟨rfl, hb⟩; refine ⟨_, rfl, ?_⟩; have n0_ := Aside0.mk (Kd.R_below (by (with_reducible repeat (first | apply Kd.R_alloc | apply Kd.R_drewN | apply Kd.R_drew)); exact HO_304000.out) hb); have n1_ := Aside0.mk (Kd.R_below (by (with_reducible repeat (first | apply Kd.R_alloc | apply Kd.R_drewN | apply Kd.R_drew)); exact HO_304001.out) hb); have n2_ := Aside0.mk (Kd.R_below (by (with_reducible repeat (first | apply Kd.R_alloc | apply Kd.R_drewN | apply Kd.R_drew)); exact HO_314000.out) hb); have n3_ := Aside0.mk (Kd.R_below (by (with_reducible repeat (first | apply Kd.R_alloc | apply Kd.R_drewN | apply Kd.R_drew)); exact HO_314001.out) hb); have n4_ := Aside0.mk (blk_below (g := gb303) (o := .cells #[.slice (some ad314) t295.length co15, .slice Ao18 t298.length co18, .int .i64 t301] 28 (0, 0)) (by (with_reducible repeat (first | refine blk_drewN ?_ _ | refine blk_drew ?_ | refine blk_alloc ?_ _)); exact BK303.out) hb); have n5_ := Aside0.mk (blk_below (g := gb313) (o := .cells #[.slice Ao21 t305.length co21, .slice Ao25 t308.length co25, .int .i64 t311] 28 (0, 0)) (by (with_reducible repeat (first | refine blk_drewN ?_ _ | refine blk_drew ?_ | refine blk_alloc ?_ _)); exact BK313.out) hb); have n6_ := Aside0.mk (below_step (by repeat (first | (with_reducible first | exact HB.out | apply below_alloc | apply pw_below_drewN | apply below_drew1 | refine below_set ?_ GE303.out | refine below_set ?_ GE313.out) | exact HB.out)) hb); clear HO_304000; clear HO_304001; clear HO_314000; clear HO_314001; clear BK303; clear BK313; clear HB; have HO_304000 := n0_; have HO_304001 := n1_; have HO_314000 := n2_; have HO_314001 := n3_; have BK303 := n4_; have BK313 := n5_; have HB := n6_; clear n0_ n1_ n2_ n3_ n4_ n5_ n6_; (try clear hb); (try clear hb2); (try clear hge); (try clear hk); (try clear hi)) | (go_at_call 20; (with_reducible refine (minecontrollaw18_awake.calls kj9  t318 _ A65.out).mono ?_); rintro e w69 ⟨rfl, hb⟩; have n0_ := Aside0.mk (Kd.R_below (by (with_reducible repeat (first | apply Kd.R_alloc | apply Kd.R_drewN | apply Kd.R_drew)); exact HO_304000.out) hb); have n1_ := Aside0.mk (Kd.R_below (by (with_reducible repeat (first | apply Kd.R_alloc | apply Kd.R_drewN | apply Kd.R_drew)); exact HO_304001.out) hb); have n2_ := Aside0.mk (Kd.R_below (by (with_reducible repeat (first | apply Kd.R_alloc | apply Kd.R_drewN | apply Kd.R_drew)); exact HO_314000.out) hb); have n3_ := Aside0.mk (Kd.R_below (by (with_reducible repeat (first | apply Kd.R_alloc | apply Kd.R_drewN | apply Kd.R_drew)); exact HO_314001.out) hb); have n4_ := Aside0.mk (blk_below (g := gb303) (o := .cells #[.slice (some ad314) t295.length co15, .slice Ao18 t298.length co18, .int .i64 t301] 28 (0, 0)) (by (with_reducible repeat (first | refine blk_drewN ?_ _ | refine blk_drew ?_ | refine blk_alloc ?_ _)); exact BK303.out) hb); have n5_ := Aside0.mk (blk_below (g := gb313) (o := .cells #[.slice Ao21 t305.length co21, .slice Ao25 t308.length co25, .int .i64 t311] 28 (0, 0)) (by (with_reducible repeat (first | refine blk_drewN ?_ _ | refine blk_drew ?_ | refine blk_alloc ?_ _)); exact BK313.out) hb); have n6_ := Aside0.mk (below_step (by repeat (first | (with_reducible first | exact HB.out | apply below_alloc | apply pw_below_drewN | apply below_drew1 | refine below_set ?_ GE303.out | refine below_set ?_ GE313.out) | exact HB.out)) hb); clear HO_304000; clear HO_304001; clear HO_314000; clear HO_314001; clear BK303; clear BK313; clear HB; have HO_304000 := n0_; have HO_304001 := n1_; have HO_314000 := n2_; have HO_314001 := n3_; have BK303 := n4_; have BK313 := n5_; have HB := n6_; clear n0_ n1_ n2_ n3_ n4_ n5_ n6_; (try clear hb); (try clear hb2); (try clear hge); (try clear hk); (try clear hi)))
     go_ret
     exact ⟨by first | rfl | (simp [errW_none, errW_some] <;> rfl) | (simp [*, errW_none, errW_some] <;> rfl), by repeat (first | (with_reducible first | exact HB.out | apply below_alloc | apply pw_below_drewN | apply below_drew1 | refine below_set ?_ GE303.out | refine below_set ?_ GE313.out) | exact HB.out)⟩

/-- THE ONE PURE STATEMENT of minecontrollaw18_FeederCloses: yours. -/
def minecontrollaw18_FeederCloses.Pure : Prop := ∀ (l0 : List Int) (a1 : Int), l0.length ≤ maxLen → l0.length * 1 ≤ 140737488351232 → (∀ x ∈ l0, (Lit.int .u8 x).wf = true) → (Lit.int .i64 a1).wf = true → ∃ k, minecontrollaw18_FeederCloses.f k l0 a1 = some true
theorem minecontrollaw18_FeederCloses.walk (P : minecontrollaw18_FeederCloses.Pure) (a0 : Option Addr) (len0 cap0 : Nat) (z0 : List Int) (a1 : Int) (w : World) (w0 : (a0 = none ∧ len0 = 0 ∧ cap0 = 0 ∧ z0 = []) ∨ ∃ x, a0 = some x ∧ len0 ≤ cap0 ∧ cap0 ≤ maxLen ∧ z0.length = cap0 ∧ (∀ i, i < z0.length → w.cell? (x.add i) = some (.int .u8 (z0.getD i 0))) ∧ ∀ n ∈ z0, (Lit.int .u8 n).wf = true) (y0 : len0 * 1 ≤ 140737488351232) (w1 : (Lit.int .i64 a1).wf = true) :
  Calls Try.prog 5 #[.slice a0 len0 cap0, .int .i64 a1] w fun e w' => e = .returned (.bool true) ∧ Below w.heap.size w w' := by
 obtain ⟨l0, rfl, hr0, hm0, hw0, hc0⟩ := ReadsInt.ofRowC w0
 obtain ⟨k, h⟩ := P l0 a1 hm0 y0 hw0 w1
 refine (minecontrollaw18_FeederCloses.calls1 k _ _ l0 a1 true w (Kd.C_of_reads (d := (0 : Int)) (h1 := fun _ => rfl) hr0) hc0 (.mk rfl) h).mono ?_
 rintro e w' ⟨rfl, hd⟩
 exact ⟨rfl, hd⟩

end Go.Proofs.Ytcgeflbifbaecaa.PFec
