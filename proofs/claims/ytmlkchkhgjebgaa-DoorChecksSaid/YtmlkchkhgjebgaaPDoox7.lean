/- Functions of the given program as Lean functions, and proofs that its calls come to what these say. Written by a program of this seat (wip/mkprint.py); Lean checks it all. -/
import Derived.Test.YtmlkchkhgjebgaaPDoox0
import Derived.Test.YtmlkchkhgjebgaaPDoox5
import Derived.Test.YtmlkchkhgjebgaaPDoox6
namespace Go.Proofs.Ytmlkchkhgjebgaa.PDoo
open Go.RowKit Go.Proofs.YtmlkchkhgjebgaaW.PrintWords Go.Proofs.YtmlkchkhgjebgaaW.PrintLast Go.Proofs.YtmlkchkhgjebgaaW.PrintMore
attribute [local go_sem] max2_int min2_int max_two min_two max_three min_three max_four min_four   -- for this text's walks alone
set_option linter.unusedVariables false
set_option linter.unusedSimpArgs false

/-! ### minecontrollaw08_doors: function 9 -/
mutual
def minecontrollaw08_doors.l0 : Nat → Int → Int → List (S36) → Int → List Int → Int → Option ((List (S36)) × List Int)
 | 0, _, _, _, _, _, _ => none
 | k + 1, x1, x2, x9, x11, x228000, x228001 => if x11 > 0 then ((minecontroldraw_Codes_One.f k x228000 x228001 2).bind fun bt230 => (if bt230.1 = true then ((minecontroldraw_Codes_Next.f k x228000 bt230.2 3).bind fun bt232 => ((minecontroldraw_Codes_Next.f k x228000 bt232.2 3).bind fun bt234 => ((minecontroldraw_Codes_DoubleDoor.f k x228000 bt234.2 (x9.length : Int) bt232.1 bt234.1).bind fun bt236 => (if x9.length + bt236.1.length < 3518437208883 then (minecontrollaw08_doors.l0 k x1 x2 (x9 ++ bt236.1) (wrap64 (x11 - 1)) x228000 bt236.2) else (none))))) else ((minecontroldraw_Codes_Next.f k x228000 bt230.2 3).bind fun bt243 => ((minecontroldraw_Codes_Door.f k x228000 bt243.2 bt243.1).bind fun bt245 => (if x9.length < 3518437208883 then (minecontrollaw08_doors.l0 k x1 x2 (x9 ++ [(⟨bt245.1, bt245.2.1, bt245.2.2.1⟩ : S36)]) (wrap64 (x11 - 1)) x228000 bt245.2.2.2) else (none)))))) else (minecontrollaw08_doors.l1 k x1 x2 x9 ([] : List Int) 0 x228000 x228001)
def minecontrollaw08_doors.l1 : Nat → Int → Int → List (S36) → List Int → Int → List Int → Int → Option ((List (S36)) × List Int)
 | 0, _, _, _, _, _, _, _ => none
 | k + 1, x1, x2, x9, x10, x12, x228000, x228001 => if x12 < (x9.length : Int) then (if 0 ≤ x12 then ((minecontroldraw_Codes_Next.f k x228000 x228001 (wrap64 ((((rd_T36 x9 x12).f2).length : Int) + 1))).bind fun bt255 => (if x10.length < 17592186044416 then (minecontrollaw08_doors.l1 k x1 x2 x9 (x10 ++ [wrap64 (bt255.1 - 1)]) (wrap64 (x12 + 1)) x228000 bt255.2) else (none))) else (none)) else (if (x9.length : Int) > 0 then ((minecontroldraw_Mod.f x1 (x9.length : Int)).bind fun t260 => (if 0 ≤ t260 then (if t260 < (x9.length : Int) then ((minecontroldraw_Codes_Next.f k x228000 x228001 10).bind fun bt262 => (if bt262.1 = 1 then (some ((x9.set (t260 : Int).toNat (⟨(rd_T36 x9 t260).f0, x2, (rd_T36 x9 t260).f2⟩ : S36)), x10)) else (if bt262.1 = 2 then ((minecontroldraw_Mod.f x1 (((rd_T36 x9 t260).f2).length : Int)).bind fun t267 => (if 0 ≤ t267 then (if t267 < (((rd_T36 x9 t260).f2).length : Int) then (some ((x9.set (t260 : Int).toNat (⟨(rd_T36 x9 t260).f0, (rd_T36 x9 t260).f1, (((rd_T36 x9 t260).f2).set (t267 : Int).toNat x2)⟩ : S36)), x10)) else (none)) else (none))) else (if bt262.1 = 3 then (some ((x9.set (t260 : Int).toNat (⟨x2, (rd_T36 x9 t260).f1, (rd_T36 x9 t260).f2⟩ : S36)), x10)) else (if bt262.1 = 4 then (if 1 ≤ (x10.length : Int) then (some (x9, (x10.drop (1 : Int).toNat))) else (none)) else (some (x9, x10))))))) else (none)) else (none))) else (some (x9, x10)))
end
def minecontrollaw08_doors.f (k : Nat) (l0 : List Int) (a1 : Int) (a2 : Int) : Option ((List (S36)) × List Int) := (minecontroldraw_New.f l0).bind fun bt225 => ((minecontroldraw_Codes_Next.f k bt225.1 bt225.2 4).bind fun bt228 => (minecontrollaw08_doors.l0 k a1 a2 ([] : List (S36)) bt228.1 bt225.1 bt228.2))
theorem minecontrollaw08_doors.mono_l : ∀ k, (∀ y0 y1 y2 y3 y4 y5, LeO (minecontrollaw08_doors.l0 k y0 y1 y2 y3 y4 y5) (minecontrollaw08_doors.l0 (k + 1) y0 y1 y2 y3 y4 y5)) ∧ (∀ y0 y1 y2 y3 y4 y5 y6, LeO (minecontrollaw08_doors.l1 k y0 y1 y2 y3 y4 y5 y6) (minecontrollaw08_doors.l1 (k + 1) y0 y1 y2 y3 y4 y5 y6))
 | 0 => ⟨fun _ _ _ _ _ _ r h => by simp [minecontrollaw08_doors.l0] at h, fun _ _ _ _ _ _ _ r h => by simp [minecontrollaw08_doors.l1] at h⟩
 | k + 1 => by
  obtain ⟨ih0, ih1⟩ := minecontrollaw08_doors.mono_l k
  refine ⟨?_, ?_⟩
  ·
   intro y0 y1 y2 y3 y4 y5
   unfold minecontrollaw08_doors.l0
   repeat' first
   | (with_reducible exact ih0 _ _ _ _ _ _)
   | (with_reducible exact ih1 _ _ _ _ _ _ _)
   | (with_reducible exact minecontroldraw_Codes_Door.mono _ _ _ _)
   | (with_reducible exact minecontroldraw_Codes_DoubleDoor.mono _ _ _ _ _ _)
   | (with_reducible exact minecontroldraw_Codes_Next.mono _ _ _ _)
   | (with_reducible exact minecontroldraw_Codes_One.mono _ _ _ _)
   | (with_reducible exact LeO.refl _)
   | (with_reducible exact LeO.none _)
   | (with_reducible refine LeO.ite ?_ ?_)
   | (with_reducible refine LeO.bind ?_ (fun _ => ?_))
   | exact ih0 _ _ _ _ _ _
   | exact ih1 _ _ _ _ _ _ _
   | exact minecontroldraw_Codes_Door.mono _ _ _ _
   | exact minecontroldraw_Codes_DoubleDoor.mono _ _ _ _ _ _
   | exact minecontroldraw_Codes_Next.mono _ _ _ _
   | exact minecontroldraw_Codes_One.mono _ _ _ _
   | exact LeO.none _
   | refine LeO.ite ?_ ?_
   | refine LeO.bind ?_ (fun _ => ?_)
  ·
   intro y0 y1 y2 y3 y4 y5 y6
   unfold minecontrollaw08_doors.l1
   repeat' first
   | (with_reducible exact ih0 _ _ _ _ _ _)
   | (with_reducible exact ih1 _ _ _ _ _ _ _)
   | (with_reducible exact minecontroldraw_Codes_Door.mono _ _ _ _)
   | (with_reducible exact minecontroldraw_Codes_DoubleDoor.mono _ _ _ _ _ _)
   | (with_reducible exact minecontroldraw_Codes_Next.mono _ _ _ _)
   | (with_reducible exact minecontroldraw_Codes_One.mono _ _ _ _)
   | (with_reducible exact LeO.refl _)
   | (with_reducible exact LeO.none _)
   | (with_reducible refine LeO.ite ?_ ?_)
   | (with_reducible refine LeO.bind ?_ (fun _ => ?_))
   | exact ih0 _ _ _ _ _ _
   | exact ih1 _ _ _ _ _ _ _
   | exact minecontroldraw_Codes_Door.mono _ _ _ _
   | exact minecontroldraw_Codes_DoubleDoor.mono _ _ _ _ _ _
   | exact minecontroldraw_Codes_Next.mono _ _ _ _
   | exact minecontroldraw_Codes_One.mono _ _ _ _
   | exact LeO.none _
   | refine LeO.ite ?_ ?_
   | refine LeO.bind ?_ (fun _ => ?_)
theorem minecontrollaw08_doors.mono : ∀ a0 a1 a2 k, LeO (minecontrollaw08_doors.f k a0 a1 a2) (minecontrollaw08_doors.f (k + 1) a0 a1 a2) := by
 intro a0 a1 a2 k
 obtain ⟨ih0, ih1⟩ := minecontrollaw08_doors.mono_l k
 unfold minecontrollaw08_doors.f
 repeat' first
   | (with_reducible exact ih0 _ _ _ _ _ _)
   | (with_reducible exact ih1 _ _ _ _ _ _ _)
   | (with_reducible exact minecontroldraw_Codes_Door.mono _ _ _ _)
   | (with_reducible exact minecontroldraw_Codes_DoubleDoor.mono _ _ _ _ _ _)
   | (with_reducible exact minecontroldraw_Codes_Next.mono _ _ _ _)
   | (with_reducible exact minecontroldraw_Codes_One.mono _ _ _ _)
   | (with_reducible exact LeO.refl _)
   | (with_reducible exact LeO.none _)
   | (with_reducible refine LeO.ite ?_ ?_)
   | (with_reducible refine LeO.bind ?_ (fun _ => ?_))
   | exact ih0 _ _ _ _ _ _
   | exact ih1 _ _ _ _ _ _ _
   | exact minecontroldraw_Codes_Door.mono _ _ _ _
   | exact minecontroldraw_Codes_DoubleDoor.mono _ _ _ _ _ _
   | exact minecontroldraw_Codes_Next.mono _ _ _ _
   | exact minecontroldraw_Codes_One.mono _ _ _ _
   | exact LeO.none _
   | refine LeO.ite ?_ ?_
   | refine LeO.bind ?_ (fun _ => ?_)
def minecontrollaw08_doors.T20 : Bool × List (List Nat × List Nat) := (true, [([], []), ([0], [0]), ([1], [1]), ([2], [2]), ([], []), ([], []), ([5], [5]), ([6], [6]), ([7], [7]), ([8], [8]), ([4, 9], [4, 9]), ([], []), ([3, 10, 0, 1, 2, 3, 4, 5, 6, 7, 8, 9, 10, 11], [3, 10]), ([12, 11, 10, 0, 1, 2, 3, 4, 5, 6, 7, 8, 9, 10, 11], [11, 12])])
def minecontrollaw08_doors.B20 : List Nat := [0, 1, 3, 7, 0, 0, 32, 96, 224, 480, 1008, 0, 4095, 8191]
theorem minecontrollaw08_doors.tab20 : rtab .any (opsOf Try.f9 20) = minecontrollaw08_doors.T20 := by kernel_rfl
theorem minecontrollaw08_doors.bits20 : waitsOk minecontrollaw08_doors.T20.2 minecontrollaw08_doors.B20 = true := by kernel_rfl
set_option maxHeartbeats 8000000 in
set_option maxRecDepth 100000 in
theorem minecontrollaw08_doors.calls (k : Nat) (A0 : Option Addr) (c0 : Nat) (l0 : List Int) (a1 : Int) (a2 : Int) (r1 : List (S36)) (r2 : List Int) (w : World) (hr0 : Kd.C (Kd.int .u8) w A0 l0.length l0) (hc0 : l0.length ≤ c0) (h : minecontrollaw08_doors.f k l0 a1 a2 = some (r1, r2)) :
  Calls Try.prog 9 #[.slice A0 l0.length c0, .int .i64 a1, .int .i64 a2] w fun e w' => ∃ v0_ v1_ : Value, e = .returned (.tuple #[v0_, v1_]) ∧ Kd.S k36 36 w' w.heap.size (fun k_ => some k_ ≠ (v1_ : Value).ownBlock) v0_ r1 ∧ Kd.Q (Kd.int .i64) 3 w' w.heap.size (fun _ => True) v1_ r2 ∧ Below w.heap.size w w' := by
 have HR0 := Aside0.mk hr0
 have HC0 := Aside0.mk hc0
 clear hr0 hc0
 have HB := Aside0.mk (Below.refl w.heap.size w)
 have H : ((minecontroldraw_New.f l0).bind fun bt225 => ((minecontroldraw_Codes_Next.f k bt225.1 bt225.2 4).bind fun bt228 => (minecontrollaw08_doors.l0 k a1 a2 ([] : List (S36)) bt228.1 bt225.1 bt228.2))) = some (r1, r2) := h
 clear h
 replace H := Option.bind_eq_some_iff.mp H
 obtain ⟨⟨t225, t226⟩, A40, H⟩ := H
 replace H : ((minecontroldraw_Codes_Next.f k t225 t226 4).bind fun bt228 => (minecontrollaw08_doors.l0 k a1 a2 ([] : List (S36)) bt228.1 t225 bt228.2)) = some (r1, r2) := H
 have A4 := Aside0.mk A40
 clear A40
 replace H := Option.bind_eq_some_iff.mp H
 obtain ⟨⟨t228, t229⟩, A50, H⟩ := H
 replace H : (minecontrollaw08_doors.l0 k a1 a2 ([] : List (S36)) t228 t225 t229) = some (r1, r2) := H
 have A5 := Aside0.mk A50
 clear A50
 have H' := Aside0.mk H
 clear H
 go_enter Try.func9, Try.ntmps9
 go_wp2_with (first | ((with_reducible refine gate_callee (f := 22) rfl ?_); refine goesL_ (some 15) rfl rfl Try.func22 (by kernel_rfl) rfl #[.slice A0 l0.length c0] rfl (by (try simp only [List.map_toArray, List.map_cons, List.map_nil]); first | done | rfl | (simp only [List.length_drop, List.length_take]; rfl)) ?_; (with_reducible refine (minecontroldraw_New.calls _ _ l0 t225 t226 w _ ?side1 ?side2 ?side3 A4.out).mono ?_); (case side1 => repeat (first | (with_reducible first | exact HB.out | apply below_alloc | apply pw_below_drewN | apply below_drew1) | exact HB.out)); (case side2 => exact HR0.out); (case side3 => exact HC0.out); rintro e w6 ⟨g227, rfl, hi, hb, hb2, hge⟩; refine ⟨_, rfl, ?_⟩; have n0_ := Aside0.mk (hb); have n1_ := Aside0.mk (hi); clear HB; have HB := n0_; have HI227 := n1_; clear n0_ n1_; (try clear hb); (try clear hb2); (try clear hge); (try clear hk); (try clear hi)) | ((with_reducible refine gate_callee (f := 23) rfl ?_); refine goesL_ (some 17) rfl rfl Try.func23 (by kernel_rfl) rfl #[.pointer (some ⟨g227, 0, none⟩), .int .i64 4] rfl (by (try simp only [List.map_toArray, List.map_cons, List.map_nil]); first | done | rfl | (simp only [List.length_drop, List.length_take]; rfl)) ?_; (with_reducible refine (minecontroldraw_Codes_Next.calls k g227 t225 t226 4 t228 t229 w _ ?side1 ?side2 A5.out).mono ?_); (case side1 => repeat (first | (with_reducible first | exact HI227.out | apply IsS61.alloc | apply IsS61.drewN | apply IsS61.drew | apply IsS61.set_1) | exact HI227.out)); (case side2 => repeat (first | (with_reducible first | exact HB.out | apply below_alloc | apply pw_below_drewN | apply below_drew1 | refine below_set ?_ (IsS61.ge HI227.out)) | exact HB.out)); rintro e w7 ⟨rfl, hi, hb, hk⟩; refine ⟨_, rfl, ?_⟩; have n0_ := Aside0.mk (hb); have n1_ := Aside0.mk (hi); clear HB; clear HI227; have HB := n0_; have HI227 := n1_; clear n0_ n1_; (try clear hb); (try clear hb2); (try clear hge); (try clear hk); (try clear hi)))
 go_loopg [9, 11] k (fun kq v9 v11 w' => ∃ (x9_1 : List (S36)) (x11_1 : Int) (x228001_1 : Int), v11 = .int .i64 x11_1 ∧ Aside0 (minecontrollaw08_doors.l0 kq a1 a2 x9_1 x11_1 t225 x228001_1 = some (r1, r2)) ∧ Aside0 (kq ≤ k) ∧ Aside0 (Kd.S k36 36 w' w.heap.size (fun _ => True) v9 x9_1) ∧ Aside0 (IsS61 w w' g227 t225 x228001_1) ∧ Aside0 (Below w.heap.size w w'))
 case atStart => exact ⟨(([] : List (S36))), (t228), (t229), (by first | rfl | (simp; done) | (simp [*]; done)), H', ⟨Nat.le_refl _⟩, ⟨by first | exact Kd.S_nil _ _ _ _ _ | exact Kd.N_nil _ _ _ _ _ | exact Kd.V_nil _ _ _ _ _ | exact Kd.Q_nil _ _ _ _ _ | exact Kd.R_nil _ _ _ _ _⟩, ⟨by repeat (first | (with_reducible first | exact HI227.out | apply IsS61.alloc | apply IsS61.drewN | apply IsS61.drew | apply IsS61.set_1) | exact HI227.out)⟩, ⟨by repeat (first | (with_reducible first | exact HB.out | apply below_alloc | apply pw_below_drewN | apply below_drew1 | refine below_set ?_ (IsS61.ge HI227.out)) | exact HB.out)⟩⟩
 case round =>
  clear H'
  try clear c2; try clear p2
  obtain ⟨x9_1, x11_1, x228001_1, rfl, HA, HK1, HO_9, HI227, HB⟩ := hrel
  cases gk with
  | zero => exact absurd HA.out (by simp [minecontrollaw08_doors.l0])
  | succ k1 =>
   have H := HA.out
   clear HA
   simp only [minecontrollaw08_doors.l0] at H
   by_cases c8 : x11_1 > 0
   ·
    rw [if_pos c8] at H
    have c8b0 : decide (0 < x11_1) = true := decide_eq_true c8
    clear c8
    replace H := Option.bind_eq_some_iff.mp H
    obtain ⟨⟨t230, t231⟩, A90, H⟩ := H
    replace H : (if t230 = true then ((minecontroldraw_Codes_Next.f k1 t225 t231 3).bind fun bt232 => ((minecontroldraw_Codes_Next.f k1 t225 bt232.2 3).bind fun bt234 => ((minecontroldraw_Codes_DoubleDoor.f k1 t225 bt234.2 (x9_1.length : Int) bt232.1 bt234.1).bind fun bt236 => (if x9_1.length + bt236.1.length < 3518437208883 then (minecontrollaw08_doors.l0 k1 a1 a2 (x9_1 ++ bt236.1) (wrap64 (x11_1 - 1)) t225 bt236.2) else (none))))) else ((minecontroldraw_Codes_Next.f k1 t225 t231 3).bind fun bt243 => ((minecontroldraw_Codes_Door.f k1 t225 bt243.2 bt243.1).bind fun bt245 => (if x9_1.length < 3518437208883 then (minecontrollaw08_doors.l0 k1 a1 a2 (x9_1 ++ [(⟨bt245.1, bt245.2.1, bt245.2.2.1⟩ : S36)]) (wrap64 (x11_1 - 1)) t225 bt245.2.2.2) else (none))))) = some (r1, r2) := H
    have A9 := Aside0.mk A90
    clear A90
    by_cases c10 : t230 = true
    ·
     subst c10
     have H1 : ((minecontroldraw_Codes_Next.f k1 t225 t231 3).bind fun bt232 => ((minecontroldraw_Codes_Next.f k1 t225 bt232.2 3).bind fun bt234 => ((minecontroldraw_Codes_DoubleDoor.f k1 t225 bt234.2 (x9_1.length : Int) bt232.1 bt234.1).bind fun bt236 => (if x9_1.length + bt236.1.length < 3518437208883 then (minecontrollaw08_doors.l0 k1 a1 a2 (x9_1 ++ bt236.1) (wrap64 (x11_1 - 1)) t225 bt236.2) else (none))))) = some (r1, r2) := by rw [if_pos rfl] at H; exact H
     clear H
     have H := H1
     clear H1
     replace H := Option.bind_eq_some_iff.mp H
     obtain ⟨⟨t232, t233⟩, A110, H⟩ := H
     replace H : ((minecontroldraw_Codes_Next.f k1 t225 t233 3).bind fun bt234 => ((minecontroldraw_Codes_DoubleDoor.f k1 t225 bt234.2 (x9_1.length : Int) t232 bt234.1).bind fun bt236 => (if x9_1.length + bt236.1.length < 3518437208883 then (minecontrollaw08_doors.l0 k1 a1 a2 (x9_1 ++ bt236.1) (wrap64 (x11_1 - 1)) t225 bt236.2) else (none)))) = some (r1, r2) := H
     have A11 := Aside0.mk A110
     clear A110
     replace H := Option.bind_eq_some_iff.mp H
     obtain ⟨⟨t234, t235⟩, A120, H⟩ := H
     replace H : ((minecontroldraw_Codes_DoubleDoor.f k1 t225 t235 (x9_1.length : Int) t232 t234).bind fun bt236 => (if x9_1.length + bt236.1.length < 3518437208883 then (minecontrollaw08_doors.l0 k1 a1 a2 (x9_1 ++ bt236.1) (wrap64 (x11_1 - 1)) t225 bt236.2) else (none))) = some (r1, r2) := H
     have A12 := Aside0.mk A120
     clear A120
     replace H := Option.bind_eq_some_iff.mp H
     obtain ⟨⟨t236, t239⟩, A130, H⟩ := H
     replace H : (if x9_1.length + t236.length < 3518437208883 then (minecontrollaw08_doors.l0 k1 a1 a2 (x9_1 ++ t236) (wrap64 (x11_1 - 1)) t225 t239) else (none)) = some (r1, r2) := H
     have A13 := Aside0.mk A130
     clear A130
     by_cases c14 : x9_1.length + t236.length < 3518437208883
     rotate_left
     ·
      rw [if_neg c14] at H
      exact absurd H (by simp)
     rw [if_pos c14] at H
     have LMc14 := Aside0.mk c14
     clear c14
     obtain ⟨y240, hy240⟩ : ∃ y_ : List (S36), y_ = (x9_1 ++ t236) := ⟨_, rfl⟩
     replace H : (minecontrollaw08_doors.l0 k1 a1 a2 y240 (wrap64 (x11_1 - 1)) t225 t239) = some (r1, r2) := by first | (rw [hy240]; with_reducible exact H) | (have H2_ := (Option.bind_some _ _).symm.trans H; rw [hy240]; with_reducible exact H2_) | (have H2_ := (Option.bind_some _ _).symm.trans H; with_reducible exact H2_) | with_reducible exact H | (rw [hy240]; exact H) | exact H
     have Ny240 := Aside0.mk hy240
     clear hy240
     have H' := Aside0.mk H
     clear H
     go_wp2_with (first | ((with_reducible refine gate_callee (f := 24) rfl ?_); refine goesL_ (some 23) rfl rfl Try.func24 (by kernel_rfl) rfl #[.pointer (some ⟨g227, 0, none⟩), .int .i64 2] rfl (by (try simp only [List.map_toArray, List.map_cons, List.map_nil]); first | done | rfl | (simp only [List.length_drop, List.length_take]; rfl)) ?_; (with_reducible refine (minecontroldraw_Codes_One.calls k1 g227 t225 x228001_1 2 true t231 w _ ?side1 ?side2 A9.out).mono ?_); (case side1 => repeat (first | (with_reducible first | exact HI227.out | apply IsS61.alloc | apply IsS61.drewN | apply IsS61.drew | apply IsS61.set_1) | exact HI227.out)); (case side2 => repeat (first | (with_reducible first | exact HB.out | apply below_alloc | apply pw_below_drewN | apply below_drew1 | refine below_set ?_ (IsS61.ge HI227.out)) | exact HB.out)); rintro e w15 ⟨rfl, hi, hb, hk⟩; refine ⟨_, rfl, ?_⟩; have n0_ := Aside0.mk (Kd.S_mono (Kd.S_keep (IsS61.apartS (show IsS61 w _ g227 t225 x228001_1 from by repeat (first | (with_reducible first | exact HI227.out | apply IsS61.alloc | apply IsS61.drewN | apply IsS61.drew | apply IsS61.set_1) | exact HI227.out)) (by (with_reducible repeat (first | apply Kd.S_alloc | apply Kd.S_drewN | apply Kd.S_drew)); exact HO_9.out) (by decide)) hk (fun _ h => h.2)) (fun _ h => h.1)); have n1_ := Aside0.mk (hb); have n2_ := Aside0.mk (hi); clear HO_9; clear HB; clear HI227; have HO_9 := n0_; have HB := n1_; have HI227 := n2_; clear n0_ n1_ n2_; (try clear hb); (try clear hb2); (try clear hge); (try clear hk); (try clear hi); obtain ⟨Ao16, co16, eo16⟩ := Kd.S_slice HO_9.out; subst eo16) | ((with_reducible refine gate_callee (f := 23) rfl ?_); refine goesL_ (some 29) rfl rfl Try.func23 (by kernel_rfl) rfl #[.pointer (some ⟨g227, 0, none⟩), .int .i64 3] rfl (by (try simp only [List.map_toArray, List.map_cons, List.map_nil]); first | done | rfl | (simp only [List.length_drop, List.length_take]; rfl)) ?_; (with_reducible refine (minecontroldraw_Codes_Next.calls k1 g227 t225 t231 3 t232 t233 w _ ?side1 ?side2 A11.out).mono ?_); (case side1 => repeat (first | (with_reducible first | exact HI227.out | apply IsS61.alloc | apply IsS61.drewN | apply IsS61.drew | apply IsS61.set_1) | exact HI227.out)); (case side2 => repeat (first | (with_reducible first | exact HB.out | apply below_alloc | apply pw_below_drewN | apply below_drew1 | refine below_set ?_ (IsS61.ge HI227.out)) | exact HB.out)); rintro e w17 ⟨rfl, hi, hb, hk⟩; refine ⟨_, rfl, ?_⟩; have n0_ := Aside0.mk (Kd.S_mono (Kd.S_keep (IsS61.apartS (show IsS61 w _ g227 t225 t231 from by repeat (first | (with_reducible first | exact HI227.out | apply IsS61.alloc | apply IsS61.drewN | apply IsS61.drew | apply IsS61.set_1) | exact HI227.out)) (by (with_reducible repeat (first | apply Kd.S_alloc | apply Kd.S_drewN | apply Kd.S_drew)); exact HO_9.out) (by decide)) hk (fun _ h => h.2)) (fun _ h => h.1)); have n1_ := Aside0.mk (hb); have n2_ := Aside0.mk (hi); clear HO_9; clear HB; clear HI227; have HO_9 := n0_; have HB := n1_; have HI227 := n2_; clear n0_ n1_ n2_; (try clear hb); (try clear hb2); (try clear hge); (try clear hk); (try clear hi)) | ((with_reducible refine gate_callee (f := 23) rfl ?_); refine goesL_ (some 31) rfl rfl Try.func23 (by kernel_rfl) rfl #[.pointer (some ⟨g227, 0, none⟩), .int .i64 3] rfl (by (try simp only [List.map_toArray, List.map_cons, List.map_nil]); first | done | rfl | (simp only [List.length_drop, List.length_take]; rfl)) ?_; (with_reducible refine (minecontroldraw_Codes_Next.calls k1 g227 t225 t233 3 t234 t235 w _ ?side1 ?side2 A12.out).mono ?_); (case side1 => repeat (first | (with_reducible first | exact HI227.out | apply IsS61.alloc | apply IsS61.drewN | apply IsS61.drew | apply IsS61.set_1) | exact HI227.out)); (case side2 => repeat (first | (with_reducible first | exact HB.out | apply below_alloc | apply pw_below_drewN | apply below_drew1 | refine below_set ?_ (IsS61.ge HI227.out)) | exact HB.out)); rintro e w18 ⟨rfl, hi, hb, hk⟩; refine ⟨_, rfl, ?_⟩; have n0_ := Aside0.mk (Kd.S_mono (Kd.S_keep (IsS61.apartS (show IsS61 w _ g227 t225 t233 from by repeat (first | (with_reducible first | exact HI227.out | apply IsS61.alloc | apply IsS61.drewN | apply IsS61.drew | apply IsS61.set_1) | exact HI227.out)) (by (with_reducible repeat (first | apply Kd.S_alloc | apply Kd.S_drewN | apply Kd.S_drew)); exact HO_9.out) (by decide)) hk (fun _ h => h.2)) (fun _ h => h.1)); have n1_ := Aside0.mk (hb); have n2_ := Aside0.mk (hi); clear HO_9; clear HB; clear HI227; have HO_9 := n0_; have HB := n1_; have HI227 := n2_; clear n0_ n1_ n2_; (try clear hb); (try clear hb2); (try clear hge); (try clear hk); (try clear hi)) | ((with_reducible refine gate_callee (f := 25) rfl ?_); refine goesL_ (some 32) rfl rfl Try.func25 (by kernel_rfl) rfl #[.pointer (some ⟨g227, 0, none⟩), .int .i64 (x9_1.length : Int), .int .i64 t232, .int .i64 t234] rfl (by (try simp only [List.map_toArray, List.map_cons, List.map_nil]); first | done | rfl | (simp only [List.length_drop, List.length_take]; rfl)) ?_; (with_reducible refine (minecontroldraw_Codes_DoubleDoor.calls k1 g227 t225 t235 (x9_1.length : Int) t232 t234 t236 t239 w _ ?side1 ?side2 A13.out).mono ?_); (case side1 => repeat (first | (with_reducible first | exact HI227.out | apply IsS61.alloc | apply IsS61.drewN | apply IsS61.drew | apply IsS61.set_1) | exact HI227.out)); (case side2 => repeat (first | (with_reducible first | exact HB.out | apply below_alloc | apply pw_below_drewN | apply below_drew1 | refine below_set ?_ (IsS61.ge HI227.out)) | exact HB.out)); rintro e w19 ⟨v237, rfl, ho0, hi, hb, hk⟩; refine ⟨_, rfl, ?_⟩; have n0_ := Aside0.mk (Kd.S_mono (Kd.S_told (Kd.S_oldK (IsS61.apartS (show IsS61 w _ g227 t225 t235 from by repeat (first | (with_reducible first | exact HI227.out | apply IsS61.alloc | apply IsS61.drewN | apply IsS61.drew | apply IsS61.set_1) | exact HI227.out)) (by (with_reducible repeat (first | apply Kd.S_alloc | apply Kd.S_drewN | apply Kd.S_drew)); exact HO_9.out) (by decide)) hk) (Kd.S_base ho0)) (fun _ h_ => h_.1)); have n1_ := Aside0.mk (Kd.S_lower (Kd.S_new' ho0 (Kd.S_lt (by (with_reducible repeat (first | apply Kd.S_alloc | apply Kd.S_drewN | apply Kd.S_drew)); exact HO_9.out))) (below_size (by repeat (first | (with_reducible first | exact HB.out | apply below_alloc | apply pw_below_drewN | apply below_drew1 | refine below_set ?_ (IsS61.ge HI227.out)) | exact HB.out)))); have n2_ := Aside0.mk (s_pair (Kd.S_oldK (IsS61.apartS (show IsS61 w _ g227 t225 t235 from by repeat (first | (with_reducible first | exact HI227.out | apply IsS61.alloc | apply IsS61.drewN | apply IsS61.drew | apply IsS61.set_1) | exact HI227.out)) (by (with_reducible repeat (first | apply Kd.S_alloc | apply Kd.S_drewN | apply Kd.S_drew)); exact HO_9.out) (by decide)) hk) (Kd.S_new' ho0 (Kd.S_lt (by (with_reducible repeat (first | apply Kd.S_alloc | apply Kd.S_drewN | apply Kd.S_drew)); exact HO_9.out))) (below_size (by repeat (first | (with_reducible first | exact HB.out | apply below_alloc | apply pw_below_drewN | apply below_drew1 | refine below_set ?_ (IsS61.ge HI227.out)) | exact HB.out)))); have n3_ := Aside0.mk (hb); have n4_ := Aside0.mk (hi); clear HO_9; clear HB; clear HI227; have HO_9 := n0_; have HO238 := n1_; have HSX := n2_; have HB := n3_; have HI227 := n4_; clear n0_ n1_ n2_ n3_ n4_; (try clear hb); (try clear hb2); (try clear hge); (try clear hk); (try clear hi); (try clear ho0); obtain ⟨Ao21, co21, eo21⟩ := Kd.S_slice HO238.out; subst eo21) | ((with_reducible refine gate_builtin (b := .append) (xs := #[.tmp 24, .tmp 32]) rfl ?_); at_builtin; obtain ⟨N_, hsv_, hsx_⟩ := HSX.out; refine S_append_rows k36 (w0 := w) w.heap.size rfl (.tmp 24) (.tmp 32) 23 36 (.agg #[(.int .i64 0), (.int .i64 0), (.slice none 0 0)]) 40 rfl Try.underlying23 info36 rfl (by decide) (by omega) (.slice Ao16 x9_1.length co16) x9_1 t236 _ _ _ (fun _ => True) (fun k_ => (((fun _ => True)) k_ ∧ some k_ ≠ (.slice Ao16 x9_1.length co16 : Value).ownBlock) ∧ N_ ≤ k_) rfl rfl ?aO ?aR (fun _ hk => hk.1) ?aF ?aB ?aS ?aL ?_; (case aR => exact (Kd.S_mono hsx_ (fun k_ hk => ⟨⟨trivial, hk.1.2⟩, hk.2⟩))); (case aB => exact (by repeat (first | (with_reducible first | exact HB.out | apply below_alloc | apply pw_below_drewN | apply below_drew1 | refine below_set ?_ (IsS61.ge HI227.out)) | exact HB.out))); (case aF => exact (fun _ _ => trivial)); (case aO => exact (Kd.S_mono hsv_ (fun k_ hk => ⟨trivial, fun h_ => Nat.not_le.2 hk.2 h_.2⟩))); (case aS => exact (below_size (by repeat (first | (with_reducible first | exact HB.out | apply below_alloc | apply pw_below_drewN | apply below_drew1 | refine below_set ?_ (IsS61.ge HI227.out)) | exact HB.out)))); (case aL => have := LMc14.out; omega); intro v241 w20 ho hb hg hat; rw [← Ny240.out] at ho; have n0_ := Aside0.mk (IsS61.grown (show IsS61 w _ g227 t225 t239 from by repeat (first | (with_reducible first | exact HI227.out | apply IsS61.alloc | apply IsS61.drewN | apply IsS61.drew | apply IsS61.set_1) | exact HI227.out)) hg (IsS61.own_neS HI227.out HO_9.out (by decide))); have n1_ := Aside0.mk (Kd.S_after (ok := (fun _ => True)) (by (with_reducible repeat (first | apply Kd.S_alloc | apply Kd.S_drewN | apply Kd.S_drew)); exact HO238.out) hg hat); have n2_ := Aside0.mk (hb); have n3_ := Aside0.mk (ho); clear HI227; clear HO238; clear HB; clear HO_9; have HI227 := n0_; have HO238 := n1_; have HB := n2_; have HO242 := n3_; clear n0_ n1_ n2_ n3_; clear ho hb hg hat))
     go_roundg k1
     case measure => have := HK1.out; omega
     case rel => exact ⟨(y240), (wrap64 (x11_1 - 1)), (t239), (by first | rfl | (simp; done) | (simp [*]; done)), H', ⟨by have := HK1.out; omega⟩, ⟨by (with_reducible repeat (first | apply Kd.S_alloc | apply Kd.S_drewN | apply Kd.S_drew)); exact HO242.out⟩, ⟨by repeat (first | (with_reducible first | exact HI227.out | apply IsS61.alloc | apply IsS61.drewN | apply IsS61.drew | apply IsS61.set_1) | exact HI227.out)⟩, ⟨by repeat (first | (with_reducible first | exact HB.out | apply below_alloc | apply pw_below_drewN | apply below_drew1 | refine below_set ?_ (IsS61.ge HI227.out)) | exact HB.out)⟩⟩
    ·
     replace c10 := Bool.eq_false_iff.mpr c10
     subst c10
     have H1 : ((minecontroldraw_Codes_Next.f k1 t225 t231 3).bind fun bt243 => ((minecontroldraw_Codes_Door.f k1 t225 bt243.2 bt243.1).bind fun bt245 => (if x9_1.length < 3518437208883 then (minecontrollaw08_doors.l0 k1 a1 a2 (x9_1 ++ [(⟨bt245.1, bt245.2.1, bt245.2.2.1⟩ : S36)]) (wrap64 (x11_1 - 1)) t225 bt245.2.2.2) else (none)))) = some (r1, r2) := by rw [if_neg (show ¬ (false = true) by decide)] at H; exact H
     clear H
     have H := H1
     clear H1
     replace H := Option.bind_eq_some_iff.mp H
     obtain ⟨⟨t243, t244⟩, A220, H⟩ := H
     replace H : ((minecontroldraw_Codes_Door.f k1 t225 t244 t243).bind fun bt245 => (if x9_1.length < 3518437208883 then (minecontrollaw08_doors.l0 k1 a1 a2 (x9_1 ++ [(⟨bt245.1, bt245.2.1, bt245.2.2.1⟩ : S36)]) (wrap64 (x11_1 - 1)) t225 bt245.2.2.2) else (none))) = some (r1, r2) := H
     have A22 := Aside0.mk A220
     clear A220
     replace H := Option.bind_eq_some_iff.mp H
     obtain ⟨⟨t245, t246, t247, t250⟩, A230, H⟩ := H
     replace H : (if x9_1.length < 3518437208883 then (minecontrollaw08_doors.l0 k1 a1 a2 (x9_1 ++ [(⟨t245, t246, t247⟩ : S36)]) (wrap64 (x11_1 - 1)) t225 t250) else (none)) = some (r1, r2) := H
     have A23 := Aside0.mk A230
     clear A230
     by_cases c24 : x9_1.length < 3518437208883
     rotate_left
     ·
      rw [if_neg c24] at H
      exact absurd H (by simp)
     rw [if_pos c24] at H
     have LMc24 := Aside0.mk c24
     clear c24
     obtain ⟨y251, hy251⟩ : ∃ y_ : List (S36), y_ = (x9_1 ++ [(⟨t245, t246, t247⟩ : S36)]) := ⟨_, rfl⟩
     replace H : (minecontrollaw08_doors.l0 k1 a1 a2 y251 (wrap64 (x11_1 - 1)) t225 t250) = some (r1, r2) := by first | (rw [hy251]; with_reducible exact H) | (have H2_ := (Option.bind_some _ _).symm.trans H; rw [hy251]; with_reducible exact H2_) | (have H2_ := (Option.bind_some _ _).symm.trans H; with_reducible exact H2_) | with_reducible exact H | (rw [hy251]; exact H) | exact H
     have Ny251 := Aside0.mk hy251
     clear hy251
     have H' := Aside0.mk H
     clear H
     go_wp2_with (first | ((with_reducible refine gate_callee (f := 24) rfl ?_); refine goesL_ (some 23) rfl rfl Try.func24 (by kernel_rfl) rfl #[.pointer (some ⟨g227, 0, none⟩), .int .i64 2] rfl (by (try simp only [List.map_toArray, List.map_cons, List.map_nil]); first | done | rfl | (simp only [List.length_drop, List.length_take]; rfl)) ?_; (with_reducible refine (minecontroldraw_Codes_One.calls k1 g227 t225 x228001_1 2 false t231 w _ ?side1 ?side2 A9.out).mono ?_); (case side1 => repeat (first | (with_reducible first | exact HI227.out | apply IsS61.alloc | apply IsS61.drewN | apply IsS61.drew | apply IsS61.set_1) | exact HI227.out)); (case side2 => repeat (first | (with_reducible first | exact HB.out | apply below_alloc | apply pw_below_drewN | apply below_drew1 | refine below_set ?_ (IsS61.ge HI227.out)) | exact HB.out)); rintro e w25 ⟨rfl, hi, hb, hk⟩; refine ⟨_, rfl, ?_⟩; have n0_ := Aside0.mk (Kd.S_mono (Kd.S_keep (IsS61.apartS (show IsS61 w _ g227 t225 x228001_1 from by repeat (first | (with_reducible first | exact HI227.out | apply IsS61.alloc | apply IsS61.drewN | apply IsS61.drew | apply IsS61.set_1) | exact HI227.out)) (by (with_reducible repeat (first | apply Kd.S_alloc | apply Kd.S_drewN | apply Kd.S_drew)); exact HO_9.out) (by decide)) hk (fun _ h => h.2)) (fun _ h => h.1)); have n1_ := Aside0.mk (hb); have n2_ := Aside0.mk (hi); clear HO_9; clear HB; clear HI227; have HO_9 := n0_; have HB := n1_; have HI227 := n2_; clear n0_ n1_ n2_; (try clear hb); (try clear hb2); (try clear hge); (try clear hk); (try clear hi)) | ((with_reducible refine gate_callee (f := 23) rfl ?_); refine goesL_ (some 37) rfl rfl Try.func23 (by kernel_rfl) rfl #[.pointer (some ⟨g227, 0, none⟩), .int .i64 3] rfl (by (try simp only [List.map_toArray, List.map_cons, List.map_nil]); first | done | rfl | (simp only [List.length_drop, List.length_take]; rfl)) ?_; (with_reducible refine (minecontroldraw_Codes_Next.calls k1 g227 t225 t231 3 t243 t244 w _ ?side1 ?side2 A22.out).mono ?_); (case side1 => repeat (first | (with_reducible first | exact HI227.out | apply IsS61.alloc | apply IsS61.drewN | apply IsS61.drew | apply IsS61.set_1) | exact HI227.out)); (case side2 => repeat (first | (with_reducible first | exact HB.out | apply below_alloc | apply pw_below_drewN | apply below_drew1 | refine below_set ?_ (IsS61.ge HI227.out)) | exact HB.out)); rintro e w26 ⟨rfl, hi, hb, hk⟩; refine ⟨_, rfl, ?_⟩; have n0_ := Aside0.mk (Kd.S_mono (Kd.S_keep (IsS61.apartS (show IsS61 w _ g227 t225 t231 from by repeat (first | (with_reducible first | exact HI227.out | apply IsS61.alloc | apply IsS61.drewN | apply IsS61.drew | apply IsS61.set_1) | exact HI227.out)) (by (with_reducible repeat (first | apply Kd.S_alloc | apply Kd.S_drewN | apply Kd.S_drew)); exact HO_9.out) (by decide)) hk (fun _ h => h.2)) (fun _ h => h.1)); have n1_ := Aside0.mk (hb); have n2_ := Aside0.mk (hi); clear HO_9; clear HB; clear HI227; have HO_9 := n0_; have HB := n1_; have HI227 := n2_; clear n0_ n1_ n2_; (try clear hb); (try clear hb2); (try clear hge); (try clear hk); (try clear hi)) | ((with_reducible refine gate_callee (f := 26) rfl ?_); refine goesL_ (some 38) rfl rfl Try.func26 (by kernel_rfl) rfl #[.pointer (some ⟨g227, 0, none⟩), .int .i64 t243] rfl (by (try simp only [List.map_toArray, List.map_cons, List.map_nil]); first | done | rfl | (simp only [List.length_drop, List.length_take]; rfl)) ?_; (with_reducible refine (minecontroldraw_Codes_Door.calls k1 g227 t225 t244 t243 t245 t246 t247 t250 w _ ?side1 ?side2 A23.out).mono ?_); (case side1 => repeat (first | (with_reducible first | exact HI227.out | apply IsS61.alloc | apply IsS61.drewN | apply IsS61.drew | apply IsS61.set_1) | exact HI227.out)); (case side2 => repeat (first | (with_reducible first | exact HB.out | apply below_alloc | apply pw_below_drewN | apply below_drew1 | refine below_set ?_ (IsS61.ge HI227.out)) | exact HB.out)); rintro e w27 ⟨v248, rfl, ho0, hi, hb, hk⟩; refine ⟨_, rfl, ?_⟩; have n0_ := Aside0.mk (Kd.S_mono (Kd.S_told (Kd.S_oldK (IsS61.apartS (show IsS61 w _ g227 t225 t244 from by repeat (first | (with_reducible first | exact HI227.out | apply IsS61.alloc | apply IsS61.drewN | apply IsS61.drew | apply IsS61.set_1) | exact HI227.out)) (by (with_reducible repeat (first | apply Kd.S_alloc | apply Kd.S_drewN | apply Kd.S_drew)); exact HO_9.out) (by decide)) hk) (Kd.R_base ho0)) (fun _ h_ => h_.1)); have n1_ := Aside0.mk (Kd.R_lower ho0 (below_size (by repeat (first | (with_reducible first | exact HB.out | apply below_alloc | apply pw_below_drewN | apply below_drew1 | refine below_set ?_ (IsS61.ge HI227.out)) | exact HB.out)))); have n2_ := Aside0.mk (hb); have n3_ := Aside0.mk (hi); clear HO_9; clear HB; clear HI227; have HO_9 := n0_; have HO249 := n1_; have HB := n2_; have HI227 := n3_; clear n0_ n1_ n2_ n3_; (try clear hb); (try clear hb2); (try clear hge); (try clear hk); (try clear hi); (try clear ho0); obtain ⟨Ao29, co29, eo29⟩ := Kd.R_slice HO249.out; subst eo29) | ((with_reducible refine gate_builtin (b := .append) (xs := #[.tmp 34, .tmp 39]) rfl ?_); at_builtin; refine Kd.S_append k36 (w0 := w) w.heap.size rfl (.tmp 34) (.tmp 39) 23 36 (.agg #[(.int .i64 0), (.int .i64 0), (.slice none 0 0)]) 40 rfl Try.underlying23 info36 rfl (by decide) (by omega) u9 x9_1 (⟨t245, t246, t247⟩ : S36) [.int .i64 t245, .int .i64 t246, .slice Ao29 t247.length co29] (fun _ => True) (fun k_ => some k_ = (.slice Ao29 t247.length co29 : Value).ownBlock) rfl rfl ?aP (fun k_ hk_ => ((Kd.R_mono (ok' := fun k_ => ((fun _ => True)) k_ ∧ some k_ ≠ (u9 : Value).ownBlock) (Kd.R_apart' (HO249.out) (Kd.S_typed HO_9.out) (by decide)) (fun k_ hk => ⟨trivial, hk.2⟩))).1 k_ hk_.symm) ?aF ?aO ?aB ?aS ?aL ?_; (case aP => exact k36_mkM _ _ _ (⟨t245, t246, t247⟩ : S36) (Kd.R_mono (Kd.R_tight rfl (Kd.R_mono (ok' := fun k_ => ((fun _ => True)) k_ ∧ some k_ ≠ (u9 : Value).ownBlock) (Kd.R_apart' (HO249.out) (Kd.S_typed HO_9.out) (by decide)) (fun k_ hk => ⟨trivial, hk.2⟩))) (fun _ h_ => h_))); (case aB => exact (by repeat (first | (with_reducible first | exact HB.out | apply below_alloc | apply pw_below_drewN | apply below_drew1 | refine below_set ?_ (IsS61.ge HI227.out)) | exact HB.out))); (case aF => exact (fun _ _ => trivial)); (case aO => exact (by (with_reducible repeat (first | apply Kd.S_alloc | apply Kd.S_drewN | apply Kd.S_drew)); exact Kd.S_mono HO_9.out (fun k_ hk => ⟨trivial, fun e_ => hk.2 e_⟩))); (case aS => exact (below_size (by repeat (first | (with_reducible first | exact HB.out | apply below_alloc | apply pw_below_drewN | apply below_drew1 | refine below_set ?_ (IsS61.ge HI227.out)) | exact HB.out)))); (case aL => have := LMc24.out; omega); intro v252 w28 ho hb hg hat; rw [← Ny251.out] at ho; have n0_ := Aside0.mk (IsS61.grown (show IsS61 w _ g227 t225 t250 from by repeat (first | (with_reducible first | exact HI227.out | apply IsS61.alloc | apply IsS61.drewN | apply IsS61.drew | apply IsS61.set_1) | exact HI227.out)) hg (IsS61.own_neS HI227.out HO_9.out (by decide))); have n1_ := Aside0.mk (hb); have n2_ := Aside0.mk (ho); clear HI227; clear HB; clear HO_9; clear HO249; have HI227 := n0_; have HB := n1_; have HO253 := n2_; clear n0_ n1_ n2_; clear ho hb hg hat))
     go_roundg k1
     case measure => have := HK1.out; omega
     case rel => exact ⟨(y251), (wrap64 (x11_1 - 1)), (t250), (by first | rfl | (simp; done) | (simp [*]; done)), H', ⟨by have := HK1.out; omega⟩, ⟨by (with_reducible repeat (first | apply Kd.S_alloc | apply Kd.S_drewN | apply Kd.S_drew)); exact HO253.out⟩, ⟨by repeat (first | (with_reducible first | exact HI227.out | apply IsS61.alloc | apply IsS61.drewN | apply IsS61.drew | apply IsS61.set_1) | exact HI227.out)⟩, ⟨by repeat (first | (with_reducible first | exact HB.out | apply below_alloc | apply pw_below_drewN | apply below_drew1 | refine below_set ?_ (IsS61.ge HI227.out)) | exact HB.out)⟩⟩
   ·
    rw [if_neg c8] at H
    have c8b0 : decide (0 < x11_1) = false := decide_eq_false c8
    clear c8
    have H' := Aside0.mk H
    clear H
    go_wp2
    go_loopg [10, 12] k1 (fun kq v10 v12 w' => ∃ (x10_2 : List Int) (x12_2 : Int) (x228001_2 : Int), v12 = .int .i64 x12_2 ∧ Aside0 (minecontrollaw08_doors.l1 kq a1 a2 x9_1 x10_2 x12_2 t225 x228001_2 = some (r1, r2)) ∧ Aside0 (kq ≤ k1) ∧ Aside0 (Kd.S k36 36 w' w.heap.size (fun k_ => some k_ ≠ (v10 : Value).ownBlock) u9 x9_1) ∧ Aside0 (Kd.Q (Kd.int .i64) 3 w' w.heap.size (fun _ => True) v10 x10_2) ∧ Aside0 (IsS61 w w' g227 t225 x228001_2) ∧ Aside0 (Below w.heap.size w w'))
    case atStart => exact ⟨(([] : List Int)), (0), (x228001_1), (by first | rfl | (simp; done) | (simp [*]; done)), H', ⟨Nat.le_refl _⟩, ⟨by (with_reducible repeat (first | apply Kd.S_alloc | apply Kd.S_drewN | apply Kd.S_drew)); exact Kd.S_mono HO_9.out (fun _ hk => (by simp [Value.ownBlock]))⟩, ⟨by first | exact Kd.R_nil _ _ _ _ _ | exact Kd.N_nil _ _ _ _ _ | exact Kd.V_nil _ _ _ _ _ | exact Kd.Q_nil _ _ _ _ _ | exact Kd.S_nil _ _ _ _ _⟩, ⟨by repeat (first | (with_reducible first | exact HI227.out | apply IsS61.alloc | apply IsS61.drewN | apply IsS61.drew | apply IsS61.set_1) | exact HI227.out)⟩, ⟨by repeat (first | (with_reducible first | exact HB.out | apply below_alloc | apply pw_below_drewN | apply below_drew1 | refine below_set ?_ (IsS61.ge HI227.out)) | exact HB.out)⟩⟩
    case round =>
     clear H'
     try clear c1; try clear c2; try clear p2; try clear p6; try clear c8; try clear c8b0; try clear c9; try clear c10; try clear c14; try clear c22; try clear c23; try clear c24; try clear c25; try clear c26; try clear p2
     obtain ⟨x10_2, x12_2, x228001_2, rfl, HA, HK2, HO_9, HO_10, HI227, HB⟩ := hrel
     cases gk with
     | zero => exact absurd HA.out (by simp [minecontrollaw08_doors.l1])
     | succ k2 =>
      have H := HA.out
      clear HA
      simp only [minecontrollaw08_doors.l1] at H
      by_cases c30 : x12_2 < (x9_1.length : Int)
      ·
       rw [if_pos c30] at H
       have c30b0 : decide (x12_2 < (x9_1.length : Int)) = true := decide_eq_true c30
       clear c30
       by_cases c31 : 0 ≤ x12_2
       rotate_left
       ·
        rw [if_neg c31] at H
        exact absurd H (by simp)
       rw [if_pos c31] at H
       have c31b0 : decide (0 ≤ x12_2) = true := decide_eq_true c31
       clear c31
       replace H := Option.bind_eq_some_iff.mp H
       obtain ⟨⟨t255, t256⟩, A320, H⟩ := H
       replace H : (if x10_2.length < 17592186044416 then (minecontrollaw08_doors.l1 k2 a1 a2 x9_1 (x10_2 ++ [wrap64 (t255 - 1)]) (wrap64 (x12_2 + 1)) t225 t256) else (none)) = some (r1, r2) := H
       have A32 := Aside0.mk A320
       clear A320
       by_cases c33 : x10_2.length < 17592186044416
       rotate_left
       ·
        rw [if_neg c33] at H
        exact absurd H (by simp)
       rw [if_pos c33] at H
       have LMc33 := Aside0.mk c33
       clear c33
       obtain ⟨y257, hy257⟩ : ∃ y_ : List Int, y_ = (x10_2 ++ [wrap64 (t255 - 1)]) := ⟨_, rfl⟩
       replace H : (minecontrollaw08_doors.l1 k2 a1 a2 x9_1 y257 (wrap64 (x12_2 + 1)) t225 t256) = some (r1, r2) := by first | (rw [hy257]; with_reducible exact H) | (have H2_ := (Option.bind_some _ _).symm.trans H; rw [hy257]; with_reducible exact H2_) | (have H2_ := (Option.bind_some _ _).symm.trans H; with_reducible exact H2_) | with_reducible exact H | (rw [hy257]; exact H) | exact H
       have Ny257 := Aside0.mk hy257
       clear hy257
       have H' := Aside0.mk H
       clear H
       obtain ⟨Ao34, co34, eo34⟩ := Kd.S_slice HO_9.out
       subst eo34
       have p254 : 0 ≤ (x12_2 : Int) := of_decide_eq_true (by first | (with_reducible assumption) | assumption)
       have q254 : x12_2 < (x9_1.length : Int) := of_decide_eq_true (by first | (with_reducible assumption) | assumption)
       obtain ⟨ad254, A254_2, c254_2, e254, hx254_0, hx254_1, hx254_2, hl254_2, hi254_2⟩ := at_T36 (Kd.S_reads' HO_9.out).2.2 x12_2 p254 q254
       cases e254
       obtain ⟨ce254, hce254, hMe254, hcc254⟩ := Kd.S_get HO_9.out z36 x12_2 p254 (by first | exact q254 | exact of_decide_eq_true (by first | (with_reducible assumption) | assumption) | (have e_ := (Kd.S_reads' HO_9.out).1; omega))
       obtain ⟨ve254_2, rfl, ge254_2⟩ := k36_openM hMe254
       have hv254_2 := hcc254 2 _ rfl
       rw [add_field _ _ 2 (by omega)] at hv254_2
       replace hv254_2 := Option.some.inj (hv254_2.symm.trans hx254_2)
       rw [hv254_2] at ge254_2
       have HL254_2 := Aside0.mk (show Kd.R (Kd.int .i64) 3 _ _ _ _ ((rd_T36 x9_1 x12_2).f2) from ge254_2)
       clear hv254_2 ge254_2
       have HX254_2 := Aside0.mk hx254_2
       clear hcc254 hce254
       have HR254_2 := Aside0.mk hi254_2
       have HC254_2 := Aside0.mk hl254_2
       clear hi254_2 hl254_2
       replace p254 := eq_true p254
       replace q254 := eq_true q254
       go_wp2_with (first | ((with_reducible refine gate_callee (f := 23) rfl ?_); refine goesL_ (some 56) rfl rfl Try.func23 (by kernel_rfl) rfl #[.pointer (some ⟨g227, 0, none⟩), .int .i64 (wrap64 ((((rd_T36 x9_1 x12_2).f2).length : Int) + 1))] rfl (by (try simp only [List.map_toArray, List.map_cons, List.map_nil]); first | done | rfl | (simp only [List.length_drop, List.length_take]; rfl)) ?_; (with_reducible refine (minecontroldraw_Codes_Next.calls k2 g227 t225 x228001_2 (wrap64 ((((rd_T36 x9_1 x12_2).f2).length : Int) + 1)) t255 t256 w _ ?side1 ?side2 A32.out).mono ?_); (case side1 => repeat (first | (with_reducible first | exact HI227.out | apply IsS61.alloc | apply IsS61.drewN | apply IsS61.drew | apply IsS61.set_1) | exact HI227.out)); (case side2 => repeat (first | (with_reducible first | exact HB.out | apply below_alloc | apply pw_below_drewN | apply below_drew1 | refine below_set ?_ (IsS61.ge HI227.out)) | exact HB.out)); rintro e w35 ⟨rfl, hi, hb, hk⟩; refine ⟨_, rfl, ?_⟩; have n0_ := Aside0.mk (Kd.S_mono (Kd.S_keep (IsS61.apartS (show IsS61 w _ g227 t225 x228001_2 from by repeat (first | (with_reducible first | exact HI227.out | apply IsS61.alloc | apply IsS61.drewN | apply IsS61.drew | apply IsS61.set_1) | exact HI227.out)) (by (with_reducible repeat (first | apply Kd.S_alloc | apply Kd.S_drewN | apply Kd.S_drew)); exact HO_9.out) (by decide)) hk (fun _ h => h.2)) (fun _ h => h.1)); have n1_ := Aside0.mk (Kd.Q_mono (Kd.Q_keep (IsS61.apartQ (show IsS61 w _ g227 t225 x228001_2 from by repeat (first | (with_reducible first | exact HI227.out | apply IsS61.alloc | apply IsS61.drewN | apply IsS61.drew | apply IsS61.set_1) | exact HI227.out)) (by (with_reducible repeat (first | apply Kd.Q_alloc | apply Kd.Q_drewN | apply Kd.Q_drew)); exact HO_10.out) (by decide)) hk (fun _ h => h.2)) (fun _ h => h.1)); have n2_ := Aside0.mk (Kd.R_mono (Kd.R_keep (IsS61.apart (show IsS61 w _ g227 t225 x228001_2 from by repeat (first | (with_reducible first | exact HI227.out | apply IsS61.alloc | apply IsS61.drewN | apply IsS61.drew | apply IsS61.set_1) | exact HI227.out)) (by (with_reducible repeat (first | apply Kd.R_alloc | apply Kd.R_drewN | apply Kd.R_drew)); exact HL254_2.out) (by decide)) hk (fun _ h => h.2)) (fun _ h => h.1)); have n3_ := Aside0.mk (keep_cell hk HX254_2.out (by first | (rw [add_block]; exact Kd.own_blk (IsS61.own_neS HI227.out HO_9.out (by decide))) | (show (Addr.add _ _).block ≠ _; rw [add_block]; exact Kd.own_blk (IsS61.own_neS HI227.out HO_9.out (by decide))) | exact Kd.own_blk (IsS61.own_neS HI227.out HO_9.out (by decide)) | (dsimp only; exact Kd.own_blk (IsS61.own_neS HI227.out HO_9.out (by decide))))); have n4_ := Aside0.mk (hb); have n5_ := Aside0.mk (hi); clear HO_9; clear HO_10; clear HL254_2; clear HX254_2; clear HB; clear HI227; have HO_9 := n0_; have HO_10 := n1_; have HL254_2 := n2_; have HX254_2 := n3_; have HB := n4_; have HI227 := n5_; clear n0_ n1_ n2_ n3_ n4_ n5_; (try clear hb); (try clear hb2); (try clear hge); (try clear hk); (try clear hi)) | ((with_reducible refine gate_builtin (b := .append) (xs := #[.tmp 47, .tmp 58]) rfl ?_); at_builtin; refine Kd.Q_append (Kd.int .i64) (w0 := w) w.heap.size rfl (.tmp 47) (.tmp 58) 25 3 (.int .i64 0) 8 rfl Try.underlying25 info3 rfl (by decide) (by omega) u10 x10_2 (wrap64 (t255 - 1)) [.int .i64 (wrap64 (t255 - 1))] (fun _ => True) (fun _ => False) rfl rfl ?aP (fun _ hk => hk.elim) ?aF ?aO ?aB ?aS ?aL ?_; (case aP => exact rfl); (case aB => exact (by repeat (first | (with_reducible first | exact HB.out | apply below_alloc | apply pw_below_drewN | apply below_drew1 | refine below_set ?_ (IsS61.ge HI227.out)) | exact HB.out))); (case aF => exact (fun _ _ => trivial)); (case aO => exact (by (with_reducible repeat (first | apply Kd.Q_alloc | apply Kd.Q_drewN | apply Kd.Q_drew)); exact HO_10.out)); (case aS => exact (below_size (by repeat (first | (with_reducible first | exact HB.out | apply below_alloc | apply pw_below_drewN | apply below_drew1 | refine below_set ?_ (IsS61.ge HI227.out)) | exact HB.out)))); (case aL => have := LMc33.out; omega); intro v258 w36 ho hb hg hat; rw [← Ny257.out] at ho; have n0_ := Aside0.mk (Kd.S_after (ok := (fun _ => True)) (by (with_reducible repeat (first | apply Kd.S_alloc | apply Kd.S_drewN | apply Kd.S_drew)); exact Kd.S_mono HO_9.out (fun _ hk => ⟨trivial, hk⟩)) hg hat); have n1_ := Aside0.mk (IsS61.grown (show IsS61 w _ g227 t225 t256 from by repeat (first | (with_reducible first | exact HI227.out | apply IsS61.alloc | apply IsS61.drewN | apply IsS61.drew | apply IsS61.set_1) | exact HI227.out)) hg (IsS61.own_neQ HI227.out HO_10.out (by decide))); have n2_ := Aside0.mk (Kd.R_after (ok := (fun k_ => some k_ ≠ (.slice (some ad254) x9_1.length co34 : Value).ownBlock)) (by (with_reducible repeat (first | apply Kd.R_alloc | apply Kd.R_drewN | apply Kd.R_drew)); exact Kd.R_mono HL254_2.out (fun _ hk => ⟨hk.2, hk.1⟩)) hg hat); have n3_ := Aside0.mk (hb); have n4_ := Aside0.mk (ho); clear HO_9; clear HI227; clear HL254_2; clear HB; clear HO_10; have HO_9 := n0_; have HI227 := n1_; have HL254_2 := n2_; have HB := n3_; have HO259 := n4_; clear n0_ n1_ n2_ n3_ n4_; clear ho hb hg hat))
       go_roundg k2
       case measure => have := HK1.out; have := HK2.out; omega
       case rel => exact ⟨(y257), (wrap64 (x12_2 + 1)), (t256), (by first | rfl | (simp; done) | (simp [*]; done)), H', ⟨by have := HK1.out; have := HK2.out; omega⟩, ⟨by (with_reducible repeat (first | apply Kd.S_alloc | apply Kd.S_drewN | apply Kd.S_drew)); exact Kd.S_mono HO_9.out (fun _ hk => hk.2)⟩, ⟨by (with_reducible repeat (first | apply Kd.Q_alloc | apply Kd.Q_drewN | apply Kd.Q_drew)); exact HO259.out⟩, ⟨by repeat (first | (with_reducible first | exact HI227.out | apply IsS61.alloc | apply IsS61.drewN | apply IsS61.drew | apply IsS61.set_1) | exact HI227.out)⟩, ⟨by repeat (first | (with_reducible first | exact HB.out | apply below_alloc | apply pw_below_drewN | apply below_drew1 | refine below_set ?_ (IsS61.ge HI227.out)) | exact HB.out)⟩⟩
      ·
       rw [if_neg c30] at H
       have c30b0 : decide (x12_2 < (x9_1.length : Int)) = false := decide_eq_false c30
       clear c30
       by_cases c37 : (x9_1.length : Int) > 0
       ·
        rw [if_pos c37] at H
        have c37b0 : decide (0 < (x9_1.length : Int)) = true := decide_eq_true c37
        have c37b1 : decide (0 < x9_1.length) = true := decide_eq_true (by omega)
        clear c37
        replace H := Option.bind_eq_some_iff.mp H
        obtain ⟨t260, A380, H⟩ := H
        replace H : (if 0 ≤ t260 then (if t260 < (x9_1.length : Int) then ((minecontroldraw_Codes_Next.f k2 t225 x228001_2 10).bind fun bt262 => (if bt262.1 = 1 then (some ((x9_1.set (t260 : Int).toNat (⟨(rd_T36 x9_1 t260).f0, a2, (rd_T36 x9_1 t260).f2⟩ : S36)), x10_2)) else (if bt262.1 = 2 then ((minecontroldraw_Mod.f a1 (((rd_T36 x9_1 t260).f2).length : Int)).bind fun t267 => (if 0 ≤ t267 then (if t267 < (((rd_T36 x9_1 t260).f2).length : Int) then (some ((x9_1.set (t260 : Int).toNat (⟨(rd_T36 x9_1 t260).f0, (rd_T36 x9_1 t260).f1, (((rd_T36 x9_1 t260).f2).set (t267 : Int).toNat a2)⟩ : S36)), x10_2)) else (none)) else (none))) else (if bt262.1 = 3 then (some ((x9_1.set (t260 : Int).toNat (⟨a2, (rd_T36 x9_1 t260).f1, (rd_T36 x9_1 t260).f2⟩ : S36)), x10_2)) else (if bt262.1 = 4 then (if 1 ≤ (x10_2.length : Int) then (some (x9_1, (x10_2.drop (1 : Int).toNat))) else (none)) else (some (x9_1, x10_2))))))) else (none)) else (none)) = some (r1, r2) := H
        have A38 := Aside0.mk A380
        clear A380
        by_cases c39 : 0 ≤ t260
        rotate_left
        ·
         rw [if_neg c39] at H
         exact absurd H (by simp)
        rw [if_pos c39] at H
        have c39b0 : decide (0 ≤ t260) = true := decide_eq_true c39
        clear c39
        by_cases c40 : t260 < (x9_1.length : Int)
        rotate_left
        ·
         rw [if_neg c40] at H
         exact absurd H (by simp)
        rw [if_pos c40] at H
        have c40b0 : decide (t260 < (x9_1.length : Int)) = true := decide_eq_true c40
        clear c40
        replace H := Option.bind_eq_some_iff.mp H
        obtain ⟨⟨t262, t263⟩, A410, H⟩ := H
        replace H : (if t262 = 1 then (some ((x9_1.set (t260 : Int).toNat (⟨(rd_T36 x9_1 t260).f0, a2, (rd_T36 x9_1 t260).f2⟩ : S36)), x10_2)) else (if t262 = 2 then ((minecontroldraw_Mod.f a1 (((rd_T36 x9_1 t260).f2).length : Int)).bind fun t267 => (if 0 ≤ t267 then (if t267 < (((rd_T36 x9_1 t260).f2).length : Int) then (some ((x9_1.set (t260 : Int).toNat (⟨(rd_T36 x9_1 t260).f0, (rd_T36 x9_1 t260).f1, (((rd_T36 x9_1 t260).f2).set (t267 : Int).toNat a2)⟩ : S36)), x10_2)) else (none)) else (none))) else (if t262 = 3 then (some ((x9_1.set (t260 : Int).toNat (⟨a2, (rd_T36 x9_1 t260).f1, (rd_T36 x9_1 t260).f2⟩ : S36)), x10_2)) else (if t262 = 4 then (if 1 ≤ (x10_2.length : Int) then (some (x9_1, (x10_2.drop (1 : Int).toNat))) else (none)) else (some (x9_1, x10_2)))))) = some (r1, r2) := H
        have A41 := Aside0.mk A410
        clear A410
        by_cases c42 : t262 = 1
        ·
         rw [if_pos c42] at H
         have c42b0 : (t262 == 1) = true := beq_iff_eq.mpr c42
         have c42b1 : (t262 != 1) = false := bne_eq_false_iff_eq.mpr c42
         clear c42
         obtain ⟨y264, hy264⟩ : ∃ y_ : List (S36), y_ = (x9_1.set (t260 : Int).toNat (⟨(rd_T36 x9_1 t260).f0, a2, (rd_T36 x9_1 t260).f2⟩ : S36)) := ⟨_, rfl⟩
         replace H : (some (y264, x10_2)) = some (r1, r2) := by first | (rw [hy264]; with_reducible exact H) | (have H2_ := (Option.bind_some _ _).symm.trans H; rw [hy264]; with_reducible exact H2_) | (have H2_ := (Option.bind_some _ _).symm.trans H; with_reducible exact H2_) | with_reducible exact H | (rw [hy264]; exact H) | exact H
         have Ny264 := Aside0.mk hy264
         clear hy264
         simp only [Option.some.injEq, Prod.mk.injEq] at H
         obtain ⟨rfl, rfl⟩ := H
         obtain ⟨Ao44, co44, eo44⟩ := Kd.S_slice HO_9.out
         subst eo44
         go_wp2_with (first | ((with_reducible refine gate_callee (f := 12) rfl ?_); refine goesL_ (some 67) rfl rfl Try.func12 (by kernel_rfl) rfl #[.int .i64 a1, .int .i64 (x9_1.length : Int)] rfl (by (try simp only [List.map_toArray, List.map_cons, List.map_nil]); first | done | rfl | (simp only [List.length_drop, List.length_take]; rfl)) ?_; (with_reducible refine (minecontroldraw_Mod.calls a1 (x9_1.length : Int) t260 _ A38.out).mono ?_); rintro e w' ⟨rfl, ⟨nd, rfl⟩⟩; refine ⟨_, rfl, ?_⟩; (try (rw [drewN_self wr]; generalize hq_ : World.drewN wr _ = wr; have n0_ : Aside0 (Kd.Q (Kd.int .i64) 3 wr w.heap.size (fun _ => True) u10 x10_2) := ⟨by rw [← hq_]; exact (by (with_reducible repeat (first | apply Kd.Q_alloc | apply Kd.Q_drewN | apply Kd.Q_drew)); exact HO_10.out)⟩; have n1_ : Aside0 (Kd.S k36 36 wr w.heap.size (fun k_ => some k_ ≠ (u10 : Value).ownBlock) (.slice Ao44 x9_1.length co44) x9_1) := ⟨by rw [← hq_]; exact (by (with_reducible repeat (first | apply Kd.S_alloc | apply Kd.S_drewN | apply Kd.S_drew)); exact HO_9.out)⟩; have n2_ : Aside0 (IsS61 w wr g227 t225 x228001_2) := ⟨by rw [← hq_]; exact (by repeat (first | (with_reducible first | exact HI227.out | apply IsS61.alloc | apply IsS61.drewN | apply IsS61.drew | apply IsS61.set_1) | exact HI227.out))⟩; have n3_ : Aside0 (Below w.heap.size w wr) := ⟨by rw [← hq_]; exact (by repeat (first | (with_reducible first | exact HB.out | apply below_alloc | apply pw_below_drewN | apply below_drew1 | refine below_set ?_ (IsS61.ge HI227.out)) | exact HB.out))⟩; clear HO_10 HO_9 HI227 HB hq_; have HO_10 := n0_; have HO_9 := n1_; have HI227 := n2_; have HB := n3_; clear n0_ n1_ n2_ n3_)); have p261 : 0 ≤ (t260 : Int) := of_decide_eq_true (by first | (with_reducible assumption) | assumption); have q261 : t260 < (x9_1.length : Int) := of_decide_eq_true (by first | (with_reducible assumption) | assumption); obtain ⟨ad261, A261_2, c261_2, e261, hx261_0, hx261_1, hx261_2, hl261_2, hi261_2⟩ := at_T36 (Kd.S_reads' HO_9.out).2.2 t260 p261 q261; cases e261; obtain ⟨ce261, hce261, hMe261, hcc261⟩ := Kd.S_get HO_9.out z36 t260 p261 (by first | exact q261 | exact of_decide_eq_true (by first | (with_reducible assumption) | assumption) | (have e_ := (Kd.S_reads' HO_9.out).1; omega)); obtain ⟨ve261_2, rfl, ge261_2⟩ := k36_openM hMe261; have hv261_2 := hcc261 2 _ rfl; rw [add_field _ _ 2 (by omega)] at hv261_2; replace hv261_2 := Option.some.inj (hv261_2.symm.trans hx261_2); rw [hv261_2] at ge261_2; have HL261_2 := Aside0.mk (show Kd.R (Kd.int .i64) 3 _ _ _ _ ((rd_T36 x9_1 t260).f2) from ge261_2); clear hv261_2 ge261_2; have HX261_2 := Aside0.mk hx261_2; clear hcc261 hce261; have HR261_2 := Aside0.mk hi261_2; have HC261_2 := Aside0.mk hl261_2; clear hi261_2 hl261_2; replace p261 := eq_true p261; replace q261 := eq_true q261) | ((with_reducible refine gate_callee (f := 23) rfl ?_); refine goesL_ (some 70) rfl rfl Try.func23 (by kernel_rfl) rfl #[.pointer (some ⟨g227, 0, none⟩), .int .i64 10] rfl (by (try simp only [List.map_toArray, List.map_cons, List.map_nil]); first | done | rfl | (simp only [List.length_drop, List.length_take]; rfl)) ?_; (with_reducible refine (minecontroldraw_Codes_Next.calls k2 g227 t225 x228001_2 10 t262 t263 w _ ?side1 ?side2 A41.out).mono ?_); (case side1 => repeat (first | (with_reducible first | exact HI227.out | apply IsS61.alloc | apply IsS61.drewN | apply IsS61.drew | apply IsS61.set_1) | exact HI227.out)); (case side2 => repeat (first | (with_reducible first | exact HB.out | apply below_alloc | apply pw_below_drewN | apply below_drew1 | refine below_set ?_ (IsS61.ge HI227.out)) | exact HB.out)); rintro e w45 ⟨rfl, hi, hb, hk⟩; refine ⟨_, rfl, ?_⟩; have n0_ := Aside0.mk (Kd.S_mono (Kd.S_keep (IsS61.apartS (show IsS61 w _ g227 t225 x228001_2 from by repeat (first | (with_reducible first | exact HI227.out | apply IsS61.alloc | apply IsS61.drewN | apply IsS61.drew | apply IsS61.set_1) | exact HI227.out)) (by (with_reducible repeat (first | apply Kd.S_alloc | apply Kd.S_drewN | apply Kd.S_drew)); exact HO_9.out) (by decide)) hk (fun _ h => h.2)) (fun _ h => h.1)); have n1_ := Aside0.mk (Kd.Q_mono (Kd.Q_keep (IsS61.apartQ (show IsS61 w _ g227 t225 x228001_2 from by repeat (first | (with_reducible first | exact HI227.out | apply IsS61.alloc | apply IsS61.drewN | apply IsS61.drew | apply IsS61.set_1) | exact HI227.out)) (by (with_reducible repeat (first | apply Kd.Q_alloc | apply Kd.Q_drewN | apply Kd.Q_drew)); exact HO_10.out) (by decide)) hk (fun _ h => h.2)) (fun _ h => h.1)); have n2_ := Aside0.mk (Kd.R_mono (Kd.R_keep (IsS61.apart (show IsS61 w _ g227 t225 x228001_2 from by repeat (first | (with_reducible first | exact HI227.out | apply IsS61.alloc | apply IsS61.drewN | apply IsS61.drew | apply IsS61.set_1) | exact HI227.out)) (by (with_reducible repeat (first | apply Kd.R_alloc | apply Kd.R_drewN | apply Kd.R_drew)); exact HL261_2.out) (by decide)) hk (fun _ h => h.2)) (fun _ h => h.1)); have n3_ := Aside0.mk (keep_cell hk HX261_2.out (by first | (rw [add_block]; exact Kd.own_blk (IsS61.own_neS HI227.out HO_9.out (by decide))) | (show (Addr.add _ _).block ≠ _; rw [add_block]; exact Kd.own_blk (IsS61.own_neS HI227.out HO_9.out (by decide))) | exact Kd.own_blk (IsS61.own_neS HI227.out HO_9.out (by decide)) | (dsimp only; exact Kd.own_blk (IsS61.own_neS HI227.out HO_9.out (by decide))))); have n4_ := Aside0.mk (hb); have n5_ := Aside0.mk (hi); clear HO_9; clear HO_10; clear HL261_2; clear HX261_2; clear HB; clear HI227; have HO_9 := n0_; have HO_10 := n1_; have HL261_2 := n2_; have HX261_2 := n3_; have HB := n4_; have HI227 := n5_; clear n0_ n1_ n2_ n3_ n4_ n5_; (try clear hb); (try clear hb2); (try clear hge); (try clear hk); (try clear hi); have p43 : 0 ≤ (t260 : Int) := of_decide_eq_true (by first | (with_reducible assumption) | assumption); have q43 : (t260 : Int) < ((x9_1.length : Int) : Int) := of_decide_eq_true (by first | (with_reducible assumption) | assumption); obtain ⟨go43, co43, eo43, gb43, gl43, cl43, HG43⟩ := Kd.S_form HO_9.out (by omega); (first | cases eo43 | (injection eo43 with ea_ en_ ec_; (first | subst ea_ | (injection ea_ with ea_; subst ea_)); subst ec_; clear en_)); have GB43 := Aside0.mk gb43; have GG43 := Aside0.mk HG43; clear gb43 gl43 HG43; (first | simp only [add_plain] at hx261_0 | skip); (first | simp only [add_plain] at hx261_1 | skip); (first | simp only [add_plain] at hx261_2 | skip); obtain ⟨_, ce43, hcl43, hM43, hcc43, hfr43, _, _⟩ := Kd.S_elem HO_9.out z36 (t260 : Int) p43 q43; obtain ⟨ve43_2, rfl, ge43_2⟩ := k36_openM hM43; have hx43_0 : w45.cell? ⟨go43, (t260 : Int).toNat * 3, none⟩ = some (.int .i64 ((rd_T36 x9_1 t260).f0)) := hcc43 0 _ rfl; have hx43_1 : w45.cell? ⟨go43, (t260 : Int).toNat * 3 + 1, none⟩ = some (.int .i64 ((rd_T36 x9_1 t260).f1)) := hcc43 1 _ rfl; have hx43_2 : w45.cell? ⟨go43, (t260 : Int).toNat * 3 + 2, none⟩ = some (ve43_2) := hcc43 2 _ rfl; have hf43_0 : w45.frozen? ⟨go43, (t260 : Int).toNat * 3, none⟩ = false := hfr43 0; have hf43_1 : w45.frozen? ⟨go43, (t260 : Int).toNat * 3 + 1, none⟩ = false := hfr43 1; have hf43_2 : w45.frozen? ⟨go43, (t260 : Int).toNat * 3 + 2, none⟩ = false := hfr43 2; clear hcl43 hcc43 hfr43 hM43; replace p43 := eq_true p43; replace q43 := eq_true q43; have HX46 := Aside0.mk (show Kd.S k36 36 w45 w.heap.size (fun k_ => ((fun k_ => some k_ ≠ (u10 : Value).ownBlock)) k_ ∧ ¬ ((fun _ => False)) k_) (.slice (some ⟨go43, 0, none⟩) x9_1.length co44) x9_1 from (by (with_reducible repeat (first | apply Kd.S_alloc | apply Kd.S_drewN | apply Kd.S_drew)); exact Kd.S_mono HO_9.out (fun k_ hk => ⟨hk, fun e_ => e_⟩))); obtain ⟨oki46, ce46, hcl46, hM46, hcc46, hfr46, hoki46, hH46⟩ := Kd.S_elem HX46.out z36 (t260 : Int) (of_decide_eq_true (by first | (with_reducible assumption) | assumption)) (by have h_ : (t260 : Int) < ((x9_1.length : Int) : Int) := of_decide_eq_true (by first | (with_reducible assumption) | assumption); first | exact h_ | (have e_ := (Kd.S_reads' HO_9.out).1; omega) | simpa using h_); obtain ⟨ve46_2, rfl, ge46_2⟩ := k36_openM hM46; have HP46 := Kd.S_seg hH46 (of_decide_eq_true (by first | (with_reducible assumption) | assumption)) (by have h_ : (t260 : Int) < ((x9_1.length : Int) : Int) := of_decide_eq_true (by first | (with_reducible assumption) | assumption); first | exact h_ | (have e_ := (Kd.S_reads' HO_9.out).1; omega) | simpa using h_) (seg := [.int .i64 a2]) (j := 1) (show 2 ≤ 3 from by decide) (x' := (⟨(rd_T36 x9_1 t260).f0, a2, (rd_T36 x9_1 t260).f2⟩ : S36)) (k36_mkM _ _ _ (⟨(rd_T36 x9_1 t260).f0, a2, (rd_T36 x9_1 t260).f2⟩ : S36) (Kd.R_mono ge46_2 (fun _ h_ => Or.inl h_))) (fun _ hk => hk) (fun k_ hk_ => hk_.elim); have hx46_1 := hcc46 1 _ rfl; (try simp only [show (k36).sz = 3 from rfl, Nat.mul_one, Nat.add_zero] at hx46_1); have hf46_1 := hfr46 1; (try simp only [show (k36).sz = 3 from rfl, Nat.mul_one, Nat.add_zero] at hf46_1); clear hcl46 hcc46 hfr46 hM46 hoki46 hH46) | ((with_reducible refine gate_store (t := 3) (p := 76) rfl ?_); refine store_event (t := 3) (p := 76) (v := ?vo_w47) (w1 := (w45.setCell ⟨go43, (t260 : Int).toNat * 3 + 1, none⟩ (.int .i64 a2))) ?hg ?ho ?hn ?hr ?_; (case ho => rfl); (case hg => rfl); (case hn => rfl); (case hr => first | (go_simp; done) | (go_simp; rfl)); intro w47 hw; have hg : w45.grownBy w47 (some go43) := (by rw [hw]; exact HP46.2); have hp_ : Kd.S k36 36 w47 w.heap.size (fun k_ => some k_ ≠ (u10 : Value).ownBlock) (.slice (some ⟨go43, 0, none⟩) x9_1.length co44) y264 := (by rw [hw, Ny264.out]; exact HP46.1); clear HP46; have n0_ := Aside0.mk (hp_); have n1_ := Aside0.mk (Kd.Q_over' (v := (.slice (some ⟨go43, 0, none⟩) x9_1.length co44)) (by (with_reducible repeat (first | apply Kd.Q_alloc | apply Kd.Q_drewN | apply Kd.Q_drew)); exact HO_10.out) (Kd.S_typed HO_9.out) (by decide) hg); have n2_ := Aside0.mk (IsS61.grown (by repeat (first | (with_reducible first | exact HI227.out | apply IsS61.alloc | apply IsS61.drewN | apply IsS61.drew | apply IsS61.set_1) | exact HI227.out)) hg (IsS61.own_neS HI227.out HO_9.out (by decide))); have n3_ := Aside0.mk (Kd.R_after (v := (.slice (some ⟨go43, 0, none⟩) x9_1.length co44)) (v1 := (.slice (some ⟨go43, 0, none⟩) x9_1.length co44)) (ok := (fun k_ => some k_ ≠ (u10 : Value).ownBlock)) (by (with_reducible repeat (first | apply Kd.R_alloc | apply Kd.R_drewN | apply Kd.R_drew)); exact HL261_2.out) hg (.inl rfl)); have n4_ := Aside0.mk ((by rw [hw]; exact below_set (HB.out) GB43.out : Below w.heap.size w w47)); clear HO_9; clear HO_10; clear HI227; clear HL261_2; clear HB; have HO_9 := n0_; have HO_10 := n1_; have HI227 := n2_; have HL261_2 := n3_; have HB := n4_; clear n0_ n1_ n2_ n3_ n4_; clear hg hw hp_))
         go_ret2
         exact ⟨_, _, by first | rfl | (simp [errW_none, errW_some] <;> rfl) | (simp [*, errW_none, errW_some] <;> rfl), by (with_reducible repeat (first | apply Kd.S_alloc | apply Kd.S_drewN | apply Kd.S_drew)); exact HO_9.out, by (with_reducible repeat (first | apply Kd.Q_alloc | apply Kd.Q_drewN | apply Kd.Q_drew)); exact HO_10.out, by repeat (first | (with_reducible first | exact HB.out | apply below_alloc | apply pw_below_drewN | apply below_drew1 | refine below_set ?_ (IsS61.ge HI227.out)) | exact HB.out)⟩
        ·
         rw [if_neg c42] at H
         have c42b0 : (t262 == 1) = false := beq_eq_false_iff_ne.mpr c42
         have c42b1 : (t262 != 1) = true := bne_iff_ne.mpr c42
         by_cases c48 : t262 = 2
         ·
          rw [if_pos c48] at H
          have c48b0 : (t262 == 2) = true := beq_iff_eq.mpr c48
          have c48b1 : (t262 != 2) = false := bne_eq_false_iff_eq.mpr c48
          clear c48
          replace H := Option.bind_eq_some_iff.mp H
          obtain ⟨t267, A490, H⟩ := H
          replace H : (if 0 ≤ t267 then (if t267 < (((rd_T36 x9_1 t260).f2).length : Int) then (some ((x9_1.set (t260 : Int).toNat (⟨(rd_T36 x9_1 t260).f0, (rd_T36 x9_1 t260).f1, (((rd_T36 x9_1 t260).f2).set (t267 : Int).toNat a2)⟩ : S36)), x10_2)) else (none)) else (none)) = some (r1, r2) := H
          have A49 := Aside0.mk A490
          clear A490
          by_cases c50 : 0 ≤ t267
          rotate_left
          ·
           rw [if_neg c50] at H
           exact absurd H (by simp)
          rw [if_pos c50] at H
          have c50b0 : decide (0 ≤ t267) = true := decide_eq_true c50
          clear c50
          by_cases c51 : t267 < (((rd_T36 x9_1 t260).f2).length : Int)
          rotate_left
          ·
           rw [if_neg c51] at H
           exact absurd H (by simp)
          rw [if_pos c51] at H
          have c51b0 : decide (t267 < (((rd_T36 x9_1 t260).f2).length : Int)) = true := decide_eq_true c51
          clear c51
          obtain ⟨y268, hy268⟩ : ∃ y_ : List Int, y_ = (((rd_T36 x9_1 t260).f2).set (t267 : Int).toNat a2) := ⟨_, rfl⟩
          replace H : (some ((x9_1.set (t260 : Int).toNat (⟨(rd_T36 x9_1 t260).f0, (rd_T36 x9_1 t260).f1, y268⟩ : S36)), x10_2)) = some (r1, r2) := by first | (rw [hy268]; with_reducible exact H) | (have H2_ := (Option.bind_some _ _).symm.trans H; rw [hy268]; with_reducible exact H2_) | (have H2_ := (Option.bind_some _ _).symm.trans H; with_reducible exact H2_) | with_reducible exact H | (rw [hy268]; exact H) | exact H
          have Ny268 := Aside0.mk hy268
          clear hy268
          obtain ⟨y270, hy270⟩ : ∃ y_ : List (S36), y_ = (x9_1.set (t260 : Int).toNat (⟨(rd_T36 x9_1 t260).f0, (rd_T36 x9_1 t260).f1, y268⟩ : S36)) := ⟨_, rfl⟩
          replace H : (some (y270, x10_2)) = some (r1, r2) := by first | (rw [hy270]; with_reducible exact H) | (have H2_ := (Option.bind_some _ _).symm.trans H; rw [hy270]; with_reducible exact H2_) | (have H2_ := (Option.bind_some _ _).symm.trans H; with_reducible exact H2_) | with_reducible exact H | (rw [hy270]; exact H) | exact H
          have Ny270 := Aside0.mk hy270
          clear hy270
          simp only [Option.some.injEq, Prod.mk.injEq] at H
          obtain ⟨rfl, rfl⟩ := H
          obtain ⟨Ao53, co53, eo53⟩ := Kd.S_slice HO_9.out
          subst eo53
          try go_wp2_with (first | ((with_reducible refine gate_callee (f := 12) rfl ?_); refine goesL_ (some 67) rfl rfl Try.func12 (by kernel_rfl) rfl #[.int .i64 a1, .int .i64 (x9_1.length : Int)] rfl (by (try simp only [List.map_toArray, List.map_cons, List.map_nil]); first | done | rfl | (simp only [List.length_drop, List.length_take]; rfl)) ?_; (with_reducible refine (minecontroldraw_Mod.calls a1 (x9_1.length : Int) t260 _ A38.out).mono ?_); rintro e w' ⟨rfl, ⟨nd, rfl⟩⟩; refine ⟨_, rfl, ?_⟩; (try (rw [drewN_self wr]; generalize hq_ : World.drewN wr _ = wr; have n0_ : Aside0 (Kd.Q (Kd.int .i64) 3 wr w.heap.size (fun _ => True) u10 x10_2) := ⟨by rw [← hq_]; exact (by (with_reducible repeat (first | apply Kd.Q_alloc | apply Kd.Q_drewN | apply Kd.Q_drew)); exact HO_10.out)⟩; have n1_ : Aside0 (Kd.S k36 36 wr w.heap.size (fun k_ => some k_ ≠ (u10 : Value).ownBlock) (.slice Ao53 x9_1.length co53) x9_1) := ⟨by rw [← hq_]; exact (by (with_reducible repeat (first | apply Kd.S_alloc | apply Kd.S_drewN | apply Kd.S_drew)); exact HO_9.out)⟩; have n2_ : Aside0 (IsS61 w wr g227 t225 x228001_2) := ⟨by rw [← hq_]; exact (by repeat (first | (with_reducible first | exact HI227.out | apply IsS61.alloc | apply IsS61.drewN | apply IsS61.drew | apply IsS61.set_1) | exact HI227.out))⟩; have n3_ : Aside0 (Below w.heap.size w wr) := ⟨by rw [← hq_]; exact (by repeat (first | (with_reducible first | exact HB.out | apply below_alloc | apply pw_below_drewN | apply below_drew1 | refine below_set ?_ (IsS61.ge HI227.out)) | exact HB.out))⟩; clear HO_10 HO_9 HI227 HB hq_; have HO_10 := n0_; have HO_9 := n1_; have HI227 := n2_; have HB := n3_; clear n0_ n1_ n2_ n3_)); have p261 : 0 ≤ (t260 : Int) := of_decide_eq_true (by first | (with_reducible assumption) | assumption); have q261 : t260 < (x9_1.length : Int) := of_decide_eq_true (by first | (with_reducible assumption) | assumption); obtain ⟨ad261, A261_2, c261_2, e261, hx261_0, hx261_1, hx261_2, hl261_2, hi261_2⟩ := at_T36 (Kd.S_reads' HO_9.out).2.2 t260 p261 q261; cases e261; obtain ⟨ce261, hce261, hMe261, hcc261⟩ := Kd.S_get HO_9.out z36 t260 p261 (by first | exact q261 | exact of_decide_eq_true (by first | (with_reducible assumption) | assumption) | (have e_ := (Kd.S_reads' HO_9.out).1; omega)); obtain ⟨ve261_2, rfl, ge261_2⟩ := k36_openM hMe261; have hv261_2 := hcc261 2 _ rfl; rw [add_field _ _ 2 (by omega)] at hv261_2; replace hv261_2 := Option.some.inj (hv261_2.symm.trans hx261_2); rw [hv261_2] at ge261_2; have HL261_2 := Aside0.mk (show Kd.R (Kd.int .i64) 3 _ _ _ _ ((rd_T36 x9_1 t260).f2) from ge261_2); clear hv261_2 ge261_2; have HX261_2 := Aside0.mk hx261_2; clear hcc261 hce261; have HR261_2 := Aside0.mk hi261_2; have HC261_2 := Aside0.mk hl261_2; clear hi261_2 hl261_2; replace p261 := eq_true p261; replace q261 := eq_true q261) | ((with_reducible refine gate_callee (f := 23) rfl ?_); refine goesL_ (some 70) rfl rfl Try.func23 (by kernel_rfl) rfl #[.pointer (some ⟨g227, 0, none⟩), .int .i64 10] rfl (by (try simp only [List.map_toArray, List.map_cons, List.map_nil]); first | done | rfl | (simp only [List.length_drop, List.length_take]; rfl)) ?_; (with_reducible refine (minecontroldraw_Codes_Next.calls k2 g227 t225 x228001_2 10 t262 t263 w _ ?side1 ?side2 A41.out).mono ?_); (case side1 => repeat (first | (with_reducible first | exact HI227.out | apply IsS61.alloc | apply IsS61.drewN | apply IsS61.drew | apply IsS61.set_1) | exact HI227.out)); (case side2 => repeat (first | (with_reducible first | exact HB.out | apply below_alloc | apply pw_below_drewN | apply below_drew1 | refine below_set ?_ (IsS61.ge HI227.out)) | exact HB.out)); rintro e w54 ⟨rfl, hi, hb, hk⟩; refine ⟨_, rfl, ?_⟩; have n0_ := Aside0.mk (Kd.S_mono (Kd.S_keep (IsS61.apartS (show IsS61 w _ g227 t225 x228001_2 from by repeat (first | (with_reducible first | exact HI227.out | apply IsS61.alloc | apply IsS61.drewN | apply IsS61.drew | apply IsS61.set_1) | exact HI227.out)) (by (with_reducible repeat (first | apply Kd.S_alloc | apply Kd.S_drewN | apply Kd.S_drew)); exact HO_9.out) (by decide)) hk (fun _ h => h.2)) (fun _ h => h.1)); have n1_ := Aside0.mk (Kd.Q_mono (Kd.Q_keep (IsS61.apartQ (show IsS61 w _ g227 t225 x228001_2 from by repeat (first | (with_reducible first | exact HI227.out | apply IsS61.alloc | apply IsS61.drewN | apply IsS61.drew | apply IsS61.set_1) | exact HI227.out)) (by (with_reducible repeat (first | apply Kd.Q_alloc | apply Kd.Q_drewN | apply Kd.Q_drew)); exact HO_10.out) (by decide)) hk (fun _ h => h.2)) (fun _ h => h.1)); have n2_ := Aside0.mk (Kd.R_mono (Kd.R_keep (IsS61.apart (show IsS61 w _ g227 t225 x228001_2 from by repeat (first | (with_reducible first | exact HI227.out | apply IsS61.alloc | apply IsS61.drewN | apply IsS61.drew | apply IsS61.set_1) | exact HI227.out)) (by (with_reducible repeat (first | apply Kd.R_alloc | apply Kd.R_drewN | apply Kd.R_drew)); exact HL261_2.out) (by decide)) hk (fun _ h => h.2)) (fun _ h => h.1)); have n3_ := Aside0.mk (keep_cell hk HX261_2.out (by first | (rw [add_block]; exact Kd.own_blk (IsS61.own_neS HI227.out HO_9.out (by decide))) | (show (Addr.add _ _).block ≠ _; rw [add_block]; exact Kd.own_blk (IsS61.own_neS HI227.out HO_9.out (by decide))) | exact Kd.own_blk (IsS61.own_neS HI227.out HO_9.out (by decide)) | (dsimp only; exact Kd.own_blk (IsS61.own_neS HI227.out HO_9.out (by decide))))); have n4_ := Aside0.mk (hb); have n5_ := Aside0.mk (hi); clear HO_9; clear HO_10; clear HL261_2; clear HX261_2; clear HB; clear HI227; have HO_9 := n0_; have HO_10 := n1_; have HL261_2 := n2_; have HX261_2 := n3_; have HB := n4_; have HI227 := n5_; clear n0_ n1_ n2_ n3_ n4_ n5_; (try clear hb); (try clear hb2); (try clear hge); (try clear hk); (try clear hi)))
          have n0_ := Aside0.mk (Kd.S_drew HO_9.out)
          have n1_ := Aside0.mk (Kd.Q_drew HO_10.out)
          have n2_ := Aside0.mk (Kd.R_drew HL261_2.out)
          have n3_ := Aside0.mk (IsS61.drew HI227.out)
          have n4_ := Aside0.mk (below_drew1 HB.out)
          clear HO_9
          clear HO_10
          clear HL261_2
          clear HI227
          clear HB
          have HO_9 := n0_
          have HO_10 := n1_
          have HL261_2 := n2_
          have HI227 := n3_
          have HB := n4_
          clear n0_ n1_ n2_ n3_ n4_
          have p265 : 0 ≤ (t260 : Int) := of_decide_eq_true (by first | (with_reducible assumption) | assumption)
          have q265 : t260 < (x9_1.length : Int) := of_decide_eq_true (by first | (with_reducible assumption) | assumption)
          obtain ⟨ad265, A265_2, c265_2, e265, hx265_0, hx265_1, hx265_2, hl265_2, hi265_2⟩ := at_T36 (Kd.S_reads' HO_9.out).2.2 t260 p265 q265
          obtain rfl : ad261 = ad265 := (by injection e265)
          obtain ⟨ce265, hce265, hMe265, hcc265⟩ := Kd.S_get HO_9.out z36 t260 p265 (by first | exact q265 | exact of_decide_eq_true (by first | (with_reducible assumption) | assumption) | (have e_ := (Kd.S_reads' HO_9.out).1; omega))
          obtain ⟨ve265_2, rfl, ge265_2⟩ := k36_openM hMe265
          have hv265_2 := hcc265 2 _ rfl
          rw [add_field _ _ 2 (by omega)] at hv265_2
          replace hv265_2 := Option.some.inj (hv265_2.symm.trans hx265_2)
          rw [hv265_2] at ge265_2
          have HL265_2 := Aside0.mk (show Kd.R (Kd.int .i64) 3 _ _ _ _ ((rd_T36 x9_1 t260).f2) from ge265_2)
          clear hv265_2 ge265_2
          have HX265_2 := Aside0.mk hx265_2
          clear hcc265 hce265
          have HR265_2 := Aside0.mk hi265_2
          have HC265_2 := Aside0.mk hl265_2
          clear hi265_2 hl265_2
          replace p265 := eq_true p265
          replace q265 := eq_true q265
          have p266 : 0 ≤ (t260 : Int) := of_decide_eq_true (by first | (with_reducible assumption) | assumption)
          have q266 : t260 < (x9_1.length : Int) := of_decide_eq_true (by first | (with_reducible assumption) | assumption)
          obtain ⟨ad266, A266_2, c266_2, e266, hx266_0, hx266_1, hx266_2, hl266_2, hi266_2⟩ := at_T36 (Kd.S_reads' HO_9.out).2.2 t260 p266 q266
          obtain rfl : ad261 = ad266 := (by injection e266)
          obtain ⟨ce266, hce266, hMe266, hcc266⟩ := Kd.S_get HO_9.out z36 t260 p266 (by first | exact q266 | exact of_decide_eq_true (by first | (with_reducible assumption) | assumption) | (have e_ := (Kd.S_reads' HO_9.out).1; omega))
          obtain ⟨ve266_2, rfl, ge266_2⟩ := k36_openM hMe266
          have hv266_2 := hcc266 2 _ rfl
          rw [add_field _ _ 2 (by omega)] at hv266_2
          replace hv266_2 := Option.some.inj (hv266_2.symm.trans hx266_2)
          rw [hv266_2] at ge266_2
          have HL266_2 := Aside0.mk (show Kd.R (Kd.int .i64) 3 _ _ _ _ ((rd_T36 x9_1 t260).f2) from ge266_2)
          clear hv266_2 ge266_2
          have HX266_2 := Aside0.mk hx266_2
          clear hcc266 hce266
          have HR266_2 := Aside0.mk hi266_2
          have HC266_2 := Aside0.mk hl266_2
          clear hi266_2 hl266_2
          replace p266 := eq_true p266
          replace q266 := eq_true q266
          have ea_ := Option.some.inj (hx265_2.symm.trans hx266_2)
          injection ea_ with ea_ en_ ec_
          subst ea_
          subst ec_
          clear en_
          refine start_ (n := 14) (S := fun w' => w'.cell? (ad261.add ((t260).toNat * 3)) = some (.int .i64 ((rd_T36 x9_1 t260).f0)) ∧ w'.cell? ⟨(ad261.add ((t260).toNat * 3)).block, (ad261.add ((t260).toNat * 3)).off + 1, none⟩ = some (.int .i64 ((rd_T36 x9_1 t260).f1)) ∧ w'.cell? ⟨(ad261.add ((t260).toNat * 3)).block, (ad261.add ((t260).toNat * 3)).off + 2, none⟩ = some (.slice A265_2 ((rd_T36 x9_1 t260).f2).length c265_2) ∧ w'.cell? (ad261.add ((t260).toNat * 3)) = some (.int .i64 ((rd_T36 x9_1 t260).f0)) ∧ w'.cell? ⟨(ad261.add ((t260).toNat * 3)).block, (ad261.add ((t260).toNat * 3)).off + 1, none⟩ = some (.int .i64 ((rd_T36 x9_1 t260).f1)) ∧ w'.cell? ⟨(ad261.add ((t260).toNat * 3)).block, (ad261.add ((t260).toNat * 3)).off + 2, none⟩ = some (.slice A265_2 ((rd_T36 x9_1 t260).f2).length c265_2)) (ds := [13]) #[false, false, false, false, false, false, false, false, false, false, false, false, false, false] (by kernel_rfl) rfl rfl ⟨hx265_0, hx265_1, hx265_2, hx266_0, hx266_1, hx266_2⟩ (fun hHeld => ?_); refine with_tabW minecontrollaw08_doors.tab20 minecontrollaw08_doors.bits20 (fun HT_ HW_ => ?_)
          generalize w54.drew = w55 at HO_9 HO_10 HL261_2 HI227 HB HL265_2 HL266_2 HR265_2 HR266_2 HX265_2 HX266_2 hx265_0 hx265_1 hx265_2 hx266_0 hx266_1 hx266_2 hHeld ⊢
          refine pure_ (i := 0) (N := some 79) (v := ?_) (a' := ?_) #[true, false, false, false, false, false, false, false, false, false, false, false, false, false] rfl rfl (any_of HT_.out (by kernel_rfl)) (fun _ _ _ h => h) (Or.inl ⟨by rfl, ?_⟩) ?_ ?_
          rotate_left
          ·
           intro w'
           go_simp
           with_reducible rfl
          rotate_left
          ·
           simp only [Act.put, List.setIfInBounds_toArray, List.set_cons_zero, List.set_cons_succ, i64_w, i32_w]
           rfl
          refine pure_ (i := 1) (N := some 80) (v := ?_) (a' := ?_) #[true, true, false, false, false, false, false, false, false, false, false, false, false, false] rfl rfl (any_of HT_.out (by kernel_rfl)) (fun _ _ _ h => h) (Or.inl ⟨by rfl, ?_⟩) ?_ ?_
          rotate_left
          ·
           intro w'
           go_simp
           with_reducible rfl
          rotate_left
          ·
           simp only [Act.put, List.setIfInBounds_toArray, List.set_cons_zero, List.set_cons_succ, i64_w, i32_w]
           rfl
          refine pure_ (i := 2) (N := some 81) (v := ?_) (a' := ?_) #[true, true, true, false, false, false, false, false, false, false, false, false, false, false] rfl rfl (any_of HT_.out (by kernel_rfl)) (fun _ _ _ h => h) (Or.inl ⟨by rfl, ?_⟩) ?_ ?_
          rotate_left
          ·
           intro w'
           go_simp
           with_reducible rfl
          rotate_left
          ·
           simp only [Act.put, List.setIfInBounds_toArray, List.set_cons_zero, List.set_cons_succ, i64_w, i32_w]
           rfl
          refine pure_ (i := 4) (N := some 83) (v := ?_) (a' := ?_) #[true, true, true, false, true, false, false, false, false, false, false, false, false, false] rfl rfl (any_of HT_.out (by kernel_rfl)) (fun _ _ _ h => h) (Or.inl ⟨by rfl, ?_⟩) ?_ ?_
          rotate_left
          ·
           intro w'
           go_simp
           with_reducible rfl
          rotate_left
          ·
           simp only [Act.put, List.setIfInBounds_toArray, List.set_cons_zero, List.set_cons_succ, i64_w, i32_w]
           rfl
          refine pure_ (i := 5) (N := some 84) (v := ?_) (a' := ?_) #[true, true, true, false, true, true, false, false, false, false, false, false, false, false] rfl rfl (any_of HT_.out (by kernel_rfl)) (fun _ _ _ h => h) (Or.inl ⟨by rfl, ?_⟩) ?_ ?_
          rotate_left
          ·
           intro w'
           go_simp
           with_reducible rfl
          rotate_left
          ·
           simp only [Act.put, List.setIfInBounds_toArray, List.set_cons_zero, List.set_cons_succ, i64_w, i32_w]
           rfl
          refine pure_ (i := 6) (N := some 85) (v := ?_) (a' := ?_) #[true, true, true, false, true, true, true, false, false, false, false, false, false, false] rfl rfl (any_of HT_.out (by kernel_rfl)) (fun _ _ _ h => h) (Or.inl ⟨by rfl, ?_⟩) ?_ ?_
          rotate_left
          ·
           intro w'
           go_simp
           with_reducible rfl
          rotate_left
          ·
           simp only [Act.put, List.setIfInBounds_toArray, List.set_cons_zero, List.set_cons_succ, i64_w, i32_w]
           rfl
          refine pure_ (i := 7) (N := some 86) (v := ?_) (a' := ?_) #[true, true, true, false, true, true, true, true, false, false, false, false, false, false] rfl rfl (any_of HT_.out (by kernel_rfl)) (fun _ _ _ h => h) (Or.inl ⟨by rfl, ?_⟩) ?_ ?_
          rotate_left
          ·
           intro w'
           go_simp
           with_reducible rfl
          rotate_left
          ·
           simp only [Act.put, List.setIfInBounds_toArray, List.set_cons_zero, List.set_cons_succ, i64_w, i32_w]
           rfl
          refine pure_ (i := 11) (N := some 90) (v := ?_) (a' := ?_) #[true, true, true, false, true, true, true, true, false, false, false, true, false, false] rfl rfl (any_of HT_.out (by kernel_rfl)) (fun _ _ _ h => h) (Or.inl ⟨by rfl, ?_⟩) ?_ ?_
          rotate_left
          ·
           intro w'
           go_simp
           with_reducible rfl
          rotate_left
          ·
           simp only [Act.put, List.setIfInBounds_toArray, List.set_cons_zero, List.set_cons_succ, i64_w, i32_w]
           rfl
          refine take_ (i := 3) (N := some 82) (v := ?_) (a' := ?_) #[true, true, true, true, true, true, true, true, false, false, false, true, false, false] rfl rfl (take_ofW HT_.out HW_.out (by kernel_rfl)) (fun _ _ _ h => h) (Or.inl ⟨by rfl, ?_⟩) hHeld ?_ ?_
          rotate_left
          ·
           rintro w' ⟨s0, s1, s2, s3, s4, s5⟩
           go_simp
           with_reducible rfl
          rotate_left
          ·
           simp only [Act.put, List.setIfInBounds_toArray, List.set_cons_zero, List.set_cons_succ, i64_w, i32_w]
           rfl
          refine take_ (i := 8) (N := some 87) (v := ?_) (a' := ?_) #[true, true, true, true, true, true, true, true, true, false, false, true, false, false] rfl rfl (take_ofW HT_.out HW_.out (by kernel_rfl)) (fun _ _ _ h => h) (Or.inl ⟨by rfl, ?_⟩) hHeld ?_ ?_
          rotate_left
          ·
           rintro w' ⟨s0, s1, s2, s3, s4, s5⟩
           go_simp
           with_reducible rfl
          rotate_left
          ·
           simp only [Act.put, List.setIfInBounds_toArray, List.set_cons_zero, List.set_cons_succ, i64_w, i32_w]
           rfl
          refine pure_ (i := 9) (N := some 88) (v := ?_) (a' := ?_) #[true, true, true, true, true, true, true, true, true, true, false, true, false, false] rfl rfl (any_of HT_.out (by kernel_rfl)) (fun _ _ _ h => h) (Or.inl ⟨by rfl, ?_⟩) ?_ ?_
          rotate_left
          ·
           intro w'
           go_simp
           with_reducible rfl
          rotate_left
          ·
           simp only [Act.put, List.setIfInBounds_toArray, List.set_cons_zero, List.set_cons_succ, i64_w, i32_w]
           rfl
          refine one_ (i := 10) (N := some 89) #[true, true, true, true, true, true, true, true, true, true, true, true, false, false] rfl rfl (one_of HT_.out (by kernel_rfl)) (by decide) (fun K hK => ?_)
          refine goes_ Try.func12 (by kernel_rfl) rfl #[.int .i64 a1, .int .i64 (((rd_T36 x9_1 t260).f2).length : Int)] (by rfl) rfl rfl (by (try simp only [List.map_toArray, List.map_cons, List.map_nil]); first | done | rfl | (simp only [List.length_drop, List.length_take]; rfl)) ?_
          with_reducible refine (minecontroldraw_Mod.calls a1 (((rd_T36 x9_1 t260).f2).length : Int) t267 _ A49.out).mono ?_
          rintro e w' ⟨rfl, ⟨nd, rfl⟩⟩
          refine ⟨_, rfl, ?_⟩
          have p52 : 0 ≤ (t267 : Int) := of_decide_eq_true (by first | (with_reducible assumption) | assumption)
          have q52 : (t267 : Int) < ((((rd_T36 x9_1 t260).f2).length : Int) : Int) := of_decide_eq_true (by first | (with_reducible assumption) | assumption)
          obtain ⟨go52, co52, eo52, gb52, gl52, cl52, HG52⟩ := Kd.R_form HL265_2.out (by omega)
          (first | cases eo52 | (injection eo52 with ea_ en_ ec_; (first | subst ea_ | (injection ea_ with ea_; subst ea_)); subst ec_; clear en_))
          have GB52 := Aside0.mk gb52
          have GG52 := Aside0.mk HG52
          clear gb52 gl52 HG52
          obtain ⟨hx52_0, hf52_0⟩ := Kd.R_celln 0 HL265_2.out (t267 : Int) p52 q52
          replace p52 := eq_true p52
          replace q52 := eq_true q52
          have hq56 : (t260 : Int) < (x9_1.length : Int) := (by have h_ : (t260 : Int) < ((x9_1.length : Int) : Int) := of_decide_eq_true (by first | (with_reducible assumption) | assumption); first | exact h_ | (have e_ := (Kd.S_reads' HO_9.out).1; omega) | simpa only [List.length_set, List.length_set] using h_)
          obtain ⟨oki56, ce56, hcl56, hM56, hcc56, hok56, hbk56⟩ := Kd.S_borrow HO_9.out z36 (t260 : Int) (of_decide_eq_true (by first | (with_reducible assumption) | assumption)) hq56
          obtain ⟨ve56_2, rfl, ge56_2⟩ := k36_openM hM56
          have hv56 := hcc56 2 _ rfl
          rw [add_field _ _ 2 (by omega)] at hv56
          replace hv56 := Option.some.inj (hv56.symm.trans HX265_2.out)
          subst hv56
          clear hcc56 hcl56
          replace ge56_2 := (show Kd.R (Kd.int .i64) 3 _ _ _ _ ((rd_T36 x9_1 t260).f2) from ge56_2)
          have HP56 := Kd.R_putg ge56_2 (t267 : Int) a2
          have HN227_go52 := Aside0.mk (show g227 ≠ go52 from by have h_ := IsS61.own_ne HI227.out HL265_2.out (by decide); intro e_; exact h_ (by rw [e_]; rfl))
          rw [← Ny268.out] at HP56
          have HS56 := hbk56 HP56.2 (fun k_ e_ => by injection e_ with e_; subst e_; exact ge56_2.1 _ rfl) (x' := (⟨(rd_T36 x9_1 t260).f0, (rd_T36 x9_1 t260).f1, y268⟩ : S36)) (k36_mkM _ _ _ (⟨(rd_T36 x9_1 t260).f0, (rd_T36 x9_1 t260).f1, y268⟩ : S36) HP56.1)
          rw [← Ny270.out] at HS56
          have HQ56 := Aside0.mk HS56
          clear HP56 HS56 hbk56 hok56
          refine hK.out _ _ ⟨hHeld.1, hHeld.2.1, hHeld.2.2.1, hHeld.2.2.2.1, hHeld.2.2.2.2.1, hHeld.2.2.2.2.2⟩ (fun hHeld => ?_)
          clear hK K
          refine norm_ (a' := ?_) ?_ ?_
          rotate_left
          ·
           show Act.put _ (some 89) _ = _
           simp only [Act.put, List.setIfInBounds_toArray, List.set_cons_zero, List.set_cons_succ, i64_w, i32_w]
           rfl
          refine pure_ (i := 12) (N := some 91) (v := ?_) (a' := ?_) #[true, true, true, true, true, true, true, true, true, true, true, true, true, false] rfl rfl (any_of HT_.out (by kernel_rfl)) (fun _ _ _ h => h) (Or.inl ⟨by rfl, ?_⟩) ?_ ?_
          rotate_left
          ·
           intro w'
           go_simp
           with_reducible rfl
          rotate_left
          ·
           simp only [Act.put, List.setIfInBounds_toArray, List.set_cons_zero, List.set_cons_succ, i64_w, i32_w]
           rfl
          refine last_ (i := 13) (N := none) #[true, true, true, true, true, true, true, true, true, true, true, true, true, true] rfl rfl (one_of HT_.out (by kernel_rfl)) (by decide) (fun K hK => ?_)
          refine skip_ (w1 := ?_) (by rfl) rfl ?_ ?_
          rotate_left
          ·
           go_simp
           rfl
          refine hK.out _ _ ?_
          clear hK K
          refine done_ (done_of HT_.out (by kernel_rfl)) ?_
          try go_wp2
          go_ret2
          exact ⟨_, _, by first | rfl | (simp [errW_none, errW_some] <;> rfl) | (simp [*, errW_none, errW_some] <;> rfl), by (with_reducible repeat (first | apply Kd.S_alloc | apply Kd.S_drewN | apply Kd.S_drew)); exact HQ56.out, by (with_reducible repeat (first | apply Kd.Q_alloc | apply Kd.Q_drewN | apply Kd.Q_drew)); exact Kd.Q_mono (Kd.Q_far (p := ⟨go52, (t267 : Int).toNat, none⟩) (Kd.Q_far1 HO_10.out rfl ((HL265_2.out.1 _ rfl).1)) (fun _ hk => hk.2) (.int .i64 a2)) (fun _ hk => trivial), by repeat (first | (with_reducible first | exact HB.out | apply below_alloc | apply pw_below_drewN | apply below_drew1 | refine below_set ?_ GB52.out | refine below_set ?_ (IsS61.ge HI227.out)) | exact HB.out)⟩
         ·
          rw [if_neg c48] at H
          have c48b0 : (t262 == 2) = false := beq_eq_false_iff_ne.mpr c48
          have c48b1 : (t262 != 2) = true := bne_iff_ne.mpr c48
          by_cases c58 : t262 = 3
          ·
           rw [if_pos c58] at H
           have c58b0 : (t262 == 3) = true := beq_iff_eq.mpr c58
           have c58b1 : (t262 != 3) = false := bne_eq_false_iff_eq.mpr c58
           clear c58
           obtain ⟨y271, hy271⟩ : ∃ y_ : List (S36), y_ = (x9_1.set (t260 : Int).toNat (⟨a2, (rd_T36 x9_1 t260).f1, (rd_T36 x9_1 t260).f2⟩ : S36)) := ⟨_, rfl⟩
           replace H : (some (y271, x10_2)) = some (r1, r2) := by first | (rw [hy271]; with_reducible exact H) | (have H2_ := (Option.bind_some _ _).symm.trans H; rw [hy271]; with_reducible exact H2_) | (have H2_ := (Option.bind_some _ _).symm.trans H; with_reducible exact H2_) | with_reducible exact H | (rw [hy271]; exact H) | exact H
           have Ny271 := Aside0.mk hy271
           clear hy271
           simp only [Option.some.injEq, Prod.mk.injEq] at H
           obtain ⟨rfl, rfl⟩ := H
           obtain ⟨Ao60, co60, eo60⟩ := Kd.S_slice HO_9.out
           subst eo60
           go_wp2_with (first | ((with_reducible refine gate_callee (f := 12) rfl ?_); refine goesL_ (some 67) rfl rfl Try.func12 (by kernel_rfl) rfl #[.int .i64 a1, .int .i64 (x9_1.length : Int)] rfl (by (try simp only [List.map_toArray, List.map_cons, List.map_nil]); first | done | rfl | (simp only [List.length_drop, List.length_take]; rfl)) ?_; (with_reducible refine (minecontroldraw_Mod.calls a1 (x9_1.length : Int) t260 _ A38.out).mono ?_); rintro e w' ⟨rfl, ⟨nd, rfl⟩⟩; refine ⟨_, rfl, ?_⟩; (try (rw [drewN_self wr]; generalize hq_ : World.drewN wr _ = wr; have n0_ : Aside0 (Kd.Q (Kd.int .i64) 3 wr w.heap.size (fun _ => True) u10 x10_2) := ⟨by rw [← hq_]; exact (by (with_reducible repeat (first | apply Kd.Q_alloc | apply Kd.Q_drewN | apply Kd.Q_drew)); exact HO_10.out)⟩; have n1_ : Aside0 (Kd.S k36 36 wr w.heap.size (fun k_ => some k_ ≠ (u10 : Value).ownBlock) (.slice Ao60 x9_1.length co60) x9_1) := ⟨by rw [← hq_]; exact (by (with_reducible repeat (first | apply Kd.S_alloc | apply Kd.S_drewN | apply Kd.S_drew)); exact HO_9.out)⟩; have n2_ : Aside0 (IsS61 w wr g227 t225 x228001_2) := ⟨by rw [← hq_]; exact (by repeat (first | (with_reducible first | exact HI227.out | apply IsS61.alloc | apply IsS61.drewN | apply IsS61.drew | apply IsS61.set_1) | exact HI227.out))⟩; have n3_ : Aside0 (Below w.heap.size w wr) := ⟨by rw [← hq_]; exact (by repeat (first | (with_reducible first | exact HB.out | apply below_alloc | apply pw_below_drewN | apply below_drew1 | refine below_set ?_ (IsS61.ge HI227.out)) | exact HB.out))⟩; clear HO_10 HO_9 HI227 HB hq_; have HO_10 := n0_; have HO_9 := n1_; have HI227 := n2_; have HB := n3_; clear n0_ n1_ n2_ n3_)); have p261 : 0 ≤ (t260 : Int) := of_decide_eq_true (by first | (with_reducible assumption) | assumption); have q261 : t260 < (x9_1.length : Int) := of_decide_eq_true (by first | (with_reducible assumption) | assumption); obtain ⟨ad261, A261_2, c261_2, e261, hx261_0, hx261_1, hx261_2, hl261_2, hi261_2⟩ := at_T36 (Kd.S_reads' HO_9.out).2.2 t260 p261 q261; cases e261; obtain ⟨ce261, hce261, hMe261, hcc261⟩ := Kd.S_get HO_9.out z36 t260 p261 (by first | exact q261 | exact of_decide_eq_true (by first | (with_reducible assumption) | assumption) | (have e_ := (Kd.S_reads' HO_9.out).1; omega)); obtain ⟨ve261_2, rfl, ge261_2⟩ := k36_openM hMe261; have hv261_2 := hcc261 2 _ rfl; rw [add_field _ _ 2 (by omega)] at hv261_2; replace hv261_2 := Option.some.inj (hv261_2.symm.trans hx261_2); rw [hv261_2] at ge261_2; have HL261_2 := Aside0.mk (show Kd.R (Kd.int .i64) 3 _ _ _ _ ((rd_T36 x9_1 t260).f2) from ge261_2); clear hv261_2 ge261_2; have HX261_2 := Aside0.mk hx261_2; clear hcc261 hce261; have HR261_2 := Aside0.mk hi261_2; have HC261_2 := Aside0.mk hl261_2; clear hi261_2 hl261_2; replace p261 := eq_true p261; replace q261 := eq_true q261) | ((with_reducible refine gate_callee (f := 23) rfl ?_); refine goesL_ (some 70) rfl rfl Try.func23 (by kernel_rfl) rfl #[.pointer (some ⟨g227, 0, none⟩), .int .i64 10] rfl (by (try simp only [List.map_toArray, List.map_cons, List.map_nil]); first | done | rfl | (simp only [List.length_drop, List.length_take]; rfl)) ?_; (with_reducible refine (minecontroldraw_Codes_Next.calls k2 g227 t225 x228001_2 10 t262 t263 w _ ?side1 ?side2 A41.out).mono ?_); (case side1 => repeat (first | (with_reducible first | exact HI227.out | apply IsS61.alloc | apply IsS61.drewN | apply IsS61.drew | apply IsS61.set_1) | exact HI227.out)); (case side2 => repeat (first | (with_reducible first | exact HB.out | apply below_alloc | apply pw_below_drewN | apply below_drew1 | refine below_set ?_ (IsS61.ge HI227.out)) | exact HB.out)); rintro e w61 ⟨rfl, hi, hb, hk⟩; refine ⟨_, rfl, ?_⟩; have n0_ := Aside0.mk (Kd.S_mono (Kd.S_keep (IsS61.apartS (show IsS61 w _ g227 t225 x228001_2 from by repeat (first | (with_reducible first | exact HI227.out | apply IsS61.alloc | apply IsS61.drewN | apply IsS61.drew | apply IsS61.set_1) | exact HI227.out)) (by (with_reducible repeat (first | apply Kd.S_alloc | apply Kd.S_drewN | apply Kd.S_drew)); exact HO_9.out) (by decide)) hk (fun _ h => h.2)) (fun _ h => h.1)); have n1_ := Aside0.mk (Kd.Q_mono (Kd.Q_keep (IsS61.apartQ (show IsS61 w _ g227 t225 x228001_2 from by repeat (first | (with_reducible first | exact HI227.out | apply IsS61.alloc | apply IsS61.drewN | apply IsS61.drew | apply IsS61.set_1) | exact HI227.out)) (by (with_reducible repeat (first | apply Kd.Q_alloc | apply Kd.Q_drewN | apply Kd.Q_drew)); exact HO_10.out) (by decide)) hk (fun _ h => h.2)) (fun _ h => h.1)); have n2_ := Aside0.mk (Kd.R_mono (Kd.R_keep (IsS61.apart (show IsS61 w _ g227 t225 x228001_2 from by repeat (first | (with_reducible first | exact HI227.out | apply IsS61.alloc | apply IsS61.drewN | apply IsS61.drew | apply IsS61.set_1) | exact HI227.out)) (by (with_reducible repeat (first | apply Kd.R_alloc | apply Kd.R_drewN | apply Kd.R_drew)); exact HL261_2.out) (by decide)) hk (fun _ h => h.2)) (fun _ h => h.1)); have n3_ := Aside0.mk (keep_cell hk HX261_2.out (by first | (rw [add_block]; exact Kd.own_blk (IsS61.own_neS HI227.out HO_9.out (by decide))) | (show (Addr.add _ _).block ≠ _; rw [add_block]; exact Kd.own_blk (IsS61.own_neS HI227.out HO_9.out (by decide))) | exact Kd.own_blk (IsS61.own_neS HI227.out HO_9.out (by decide)) | (dsimp only; exact Kd.own_blk (IsS61.own_neS HI227.out HO_9.out (by decide))))); have n4_ := Aside0.mk (hb); have n5_ := Aside0.mk (hi); clear HO_9; clear HO_10; clear HL261_2; clear HX261_2; clear HB; clear HI227; have HO_9 := n0_; have HO_10 := n1_; have HL261_2 := n2_; have HX261_2 := n3_; have HB := n4_; have HI227 := n5_; clear n0_ n1_ n2_ n3_ n4_ n5_; (try clear hb); (try clear hb2); (try clear hge); (try clear hk); (try clear hi); have p59 : 0 ≤ (t260 : Int) := of_decide_eq_true (by first | (with_reducible assumption) | assumption); have q59 : (t260 : Int) < ((x9_1.length : Int) : Int) := of_decide_eq_true (by first | (with_reducible assumption) | assumption); obtain ⟨go59, co59, eo59, gb59, gl59, cl59, HG59⟩ := Kd.S_form HO_9.out (by omega); (first | cases eo59 | (injection eo59 with ea_ en_ ec_; (first | subst ea_ | (injection ea_ with ea_; subst ea_)); subst ec_; clear en_)); have GB59 := Aside0.mk gb59; have GG59 := Aside0.mk HG59; clear gb59 gl59 HG59; (first | simp only [add_plain] at hx261_0 | skip); (first | simp only [add_plain] at hx261_1 | skip); (first | simp only [add_plain] at hx261_2 | skip); (first | simp only [add_plain] at hx265_0 | skip); (first | simp only [add_plain] at hx265_1 | skip); (first | simp only [add_plain] at hx265_2 | skip); (first | simp only [add_plain] at hx266_0 | skip); (first | simp only [add_plain] at hx266_1 | skip); (first | simp only [add_plain] at hx266_2 | skip); obtain ⟨_, ce59, hcl59, hM59, hcc59, hfr59, _, _⟩ := Kd.S_elem HO_9.out z36 (t260 : Int) p59 q59; obtain ⟨ve59_2, rfl, ge59_2⟩ := k36_openM hM59; have hx59_0 : w61.cell? ⟨go59, (t260 : Int).toNat * 3, none⟩ = some (.int .i64 ((rd_T36 x9_1 t260).f0)) := hcc59 0 _ rfl; have hx59_1 : w61.cell? ⟨go59, (t260 : Int).toNat * 3 + 1, none⟩ = some (.int .i64 ((rd_T36 x9_1 t260).f1)) := hcc59 1 _ rfl; have hx59_2 : w61.cell? ⟨go59, (t260 : Int).toNat * 3 + 2, none⟩ = some (ve59_2) := hcc59 2 _ rfl; have hf59_0 : w61.frozen? ⟨go59, (t260 : Int).toNat * 3, none⟩ = false := hfr59 0; have hf59_1 : w61.frozen? ⟨go59, (t260 : Int).toNat * 3 + 1, none⟩ = false := hfr59 1; have hf59_2 : w61.frozen? ⟨go59, (t260 : Int).toNat * 3 + 2, none⟩ = false := hfr59 2; clear hcl59 hcc59 hfr59 hM59; replace p59 := eq_true p59; replace q59 := eq_true q59; have HX62 := Aside0.mk (show Kd.S k36 36 w61 w.heap.size (fun k_ => ((fun k_ => some k_ ≠ (u10 : Value).ownBlock)) k_ ∧ ¬ ((fun _ => False)) k_) (.slice (some ⟨go59, 0, none⟩) x9_1.length co60) x9_1 from (by (with_reducible repeat (first | apply Kd.S_alloc | apply Kd.S_drewN | apply Kd.S_drew)); exact Kd.S_mono HO_9.out (fun k_ hk => ⟨hk, fun e_ => e_⟩))); obtain ⟨oki62, ce62, hcl62, hM62, hcc62, hfr62, hoki62, hH62⟩ := Kd.S_elem HX62.out z36 (t260 : Int) (of_decide_eq_true (by first | (with_reducible assumption) | assumption)) (by have h_ : (t260 : Int) < ((x9_1.length : Int) : Int) := of_decide_eq_true (by first | (with_reducible assumption) | assumption); first | exact h_ | (have e_ := (Kd.S_reads' HO_9.out).1; omega) | simpa using h_); obtain ⟨ve62_2, rfl, ge62_2⟩ := k36_openM hM62; have HP62 := Kd.S_seg hH62 (of_decide_eq_true (by first | (with_reducible assumption) | assumption)) (by have h_ : (t260 : Int) < ((x9_1.length : Int) : Int) := of_decide_eq_true (by first | (with_reducible assumption) | assumption); first | exact h_ | (have e_ := (Kd.S_reads' HO_9.out).1; omega) | simpa using h_) (seg := [.int .i64 a2]) (j := 0) (show 1 ≤ 3 from by decide) (x' := (⟨a2, (rd_T36 x9_1 t260).f1, (rd_T36 x9_1 t260).f2⟩ : S36)) (k36_mkM _ _ _ (⟨a2, (rd_T36 x9_1 t260).f1, (rd_T36 x9_1 t260).f2⟩ : S36) (Kd.R_mono ge62_2 (fun _ h_ => Or.inl h_))) (fun _ hk => hk) (fun k_ hk_ => hk_.elim); have hx62_0 := hcc62 0 _ rfl; (try simp only [show (k36).sz = 3 from rfl, Nat.mul_one, Nat.add_zero] at hx62_0); have hf62_0 := hfr62 0; (try simp only [show (k36).sz = 3 from rfl, Nat.mul_one, Nat.add_zero] at hf62_0); clear hcl62 hcc62 hfr62 hM62 hoki62 hH62) | ((with_reducible refine gate_store (t := 3) (p := 97) rfl ?_); refine store_event (t := 3) (p := 97) (v := ?vo_w63) (w1 := (w61.setCell ⟨go59, (t260 : Int).toNat * 3, none⟩ (.int .i64 a2))) ?hg ?ho ?hn ?hr ?_; (case ho => rfl); (case hg => rfl); (case hn => rfl); (case hr => first | (go_simp; done) | (go_simp; rfl)); intro w63 hw; have hg : w61.grownBy w63 (some go59) := (by rw [hw]; exact HP62.2); have hp_ : Kd.S k36 36 w63 w.heap.size (fun k_ => some k_ ≠ (u10 : Value).ownBlock) (.slice (some ⟨go59, 0, none⟩) x9_1.length co60) y271 := (by rw [hw, Ny271.out]; exact HP62.1); clear HP62; have n0_ := Aside0.mk (hp_); have n1_ := Aside0.mk (Kd.Q_over' (v := (.slice (some ⟨go59, 0, none⟩) x9_1.length co60)) (by (with_reducible repeat (first | apply Kd.Q_alloc | apply Kd.Q_drewN | apply Kd.Q_drew)); exact HO_10.out) (Kd.S_typed HO_9.out) (by decide) hg); have n2_ := Aside0.mk (IsS61.grown (by repeat (first | (with_reducible first | exact HI227.out | apply IsS61.alloc | apply IsS61.drewN | apply IsS61.drew | apply IsS61.set_1) | exact HI227.out)) hg (IsS61.own_neS HI227.out HO_9.out (by decide))); have n3_ := Aside0.mk (Kd.R_after (v := (.slice (some ⟨go59, 0, none⟩) x9_1.length co60)) (v1 := (.slice (some ⟨go59, 0, none⟩) x9_1.length co60)) (ok := (fun k_ => some k_ ≠ (u10 : Value).ownBlock)) (by (with_reducible repeat (first | apply Kd.R_alloc | apply Kd.R_drewN | apply Kd.R_drew)); exact HL261_2.out) hg (.inl rfl)); have n4_ := Aside0.mk ((by rw [hw]; exact below_set (HB.out) GB59.out : Below w.heap.size w w63)); clear HO_9; clear HO_10; clear HI227; clear HL261_2; clear HB; have HO_9 := n0_; have HO_10 := n1_; have HI227 := n2_; have HL261_2 := n3_; have HB := n4_; clear n0_ n1_ n2_ n3_ n4_; clear hg hw hp_))
           go_ret2
           exact ⟨_, _, by first | rfl | (simp [errW_none, errW_some] <;> rfl) | (simp [*, errW_none, errW_some] <;> rfl), by (with_reducible repeat (first | apply Kd.S_alloc | apply Kd.S_drewN | apply Kd.S_drew)); exact HO_9.out, by (with_reducible repeat (first | apply Kd.Q_alloc | apply Kd.Q_drewN | apply Kd.Q_drew)); exact HO_10.out, by repeat (first | (with_reducible first | exact HB.out | apply below_alloc | apply pw_below_drewN | apply below_drew1 | refine below_set ?_ (IsS61.ge HI227.out)) | exact HB.out)⟩
          ·
           rw [if_neg c58] at H
           have c58b0 : (t262 == 3) = false := beq_eq_false_iff_ne.mpr c58
           have c58b1 : (t262 != 3) = true := bne_iff_ne.mpr c58
           by_cases c64 : t262 = 4
           ·
            rw [if_pos c64] at H
            have c64b0 : (t262 == 4) = true := beq_iff_eq.mpr c64
            have c64b1 : (t262 != 4) = false := bne_eq_false_iff_eq.mpr c64
            clear c64
            by_cases c65 : 1 ≤ (x10_2.length : Int)
            rotate_left
            ·
             rw [if_neg c65] at H
             exact absurd H (by simp)
            rw [if_pos c65] at H
            have c65b0 := eq_true c65
            have c65b1 : decide (1 ≤ (x10_2.length : Int)) = true := decide_eq_true c65
            clear c65
            obtain ⟨y272, hy272⟩ : ∃ y_ : List Int, y_ = (x10_2.drop (1 : Int).toNat) := ⟨_, rfl⟩
            replace H : (some (x9_1, y272)) = some (r1, r2) := by first | (rw [hy272]; with_reducible exact H) | (have H2_ := (Option.bind_some _ _).symm.trans H; rw [hy272]; with_reducible exact H2_) | (have H2_ := (Option.bind_some _ _).symm.trans H; with_reducible exact H2_) | with_reducible exact H | (rw [hy272]; exact H) | exact H
            have Ny272 := Aside0.mk hy272
            clear hy272
            simp only [Option.some.injEq, Prod.mk.injEq] at H
            obtain ⟨rfl, rfl⟩ := H
            obtain ⟨Ao66, co66, eo66⟩ := Kd.S_slice HO_9.out
            subst eo66
            go_wp2_with (first | ((with_reducible refine gate_callee (f := 12) rfl ?_); refine goesL_ (some 67) rfl rfl Try.func12 (by kernel_rfl) rfl #[.int .i64 a1, .int .i64 (x9_1.length : Int)] rfl (by (try simp only [List.map_toArray, List.map_cons, List.map_nil]); first | done | rfl | (simp only [List.length_drop, List.length_take]; rfl)) ?_; (with_reducible refine (minecontroldraw_Mod.calls a1 (x9_1.length : Int) t260 _ A38.out).mono ?_); rintro e w' ⟨rfl, ⟨nd, rfl⟩⟩; refine ⟨_, rfl, ?_⟩; have p261 : 0 ≤ (t260 : Int) := of_decide_eq_true (by first | (with_reducible assumption) | assumption); have q261 : t260 < (x9_1.length : Int) := of_decide_eq_true (by first | (with_reducible assumption) | assumption); obtain ⟨ad261, A261_2, c261_2, e261, hx261_0, hx261_1, hx261_2, hl261_2, hi261_2⟩ := at_T36 (Kd.S_reads' HO_9.out).2.2 t260 p261 q261; cases e261; obtain ⟨ce261, hce261, hMe261, hcc261⟩ := Kd.S_get HO_9.out z36 t260 p261 (by first | exact q261 | exact of_decide_eq_true (by first | (with_reducible assumption) | assumption) | (have e_ := (Kd.S_reads' HO_9.out).1; omega)); obtain ⟨ve261_2, rfl, ge261_2⟩ := k36_openM hMe261; have hv261_2 := hcc261 2 _ rfl; rw [add_field _ _ 2 (by omega)] at hv261_2; replace hv261_2 := Option.some.inj (hv261_2.symm.trans hx261_2); rw [hv261_2] at ge261_2; have HL261_2 := Aside0.mk (show Kd.R (Kd.int .i64) 3 _ _ _ _ ((rd_T36 x9_1 t260).f2) from ge261_2); clear hv261_2 ge261_2; have HX261_2 := Aside0.mk hx261_2; clear hcc261 hce261; have HR261_2 := Aside0.mk hi261_2; have HC261_2 := Aside0.mk hl261_2; clear hi261_2 hl261_2; replace p261 := eq_true p261; replace q261 := eq_true q261) | ((with_reducible refine gate_callee (f := 23) rfl ?_); refine goesL_ (some 70) rfl rfl Try.func23 (by kernel_rfl) rfl #[.pointer (some ⟨g227, 0, none⟩), .int .i64 10] rfl (by (try simp only [List.map_toArray, List.map_cons, List.map_nil]); first | done | rfl | (simp only [List.length_drop, List.length_take]; rfl)) ?_; (with_reducible refine (minecontroldraw_Codes_Next.calls k2 g227 t225 x228001_2 10 t262 t263 w _ ?side1 ?side2 A41.out).mono ?_); (case side1 => repeat (first | (with_reducible first | exact HI227.out | apply IsS61.alloc | apply IsS61.drewN | apply IsS61.drew | apply IsS61.set_1) | exact HI227.out)); (case side2 => repeat (first | (with_reducible first | exact HB.out | apply below_alloc | apply pw_below_drewN | apply below_drew1 | refine below_set ?_ (IsS61.ge HI227.out)) | exact HB.out)); rintro e w67 ⟨rfl, hi, hb, hk⟩; refine ⟨_, rfl, ?_⟩; have n0_ := Aside0.mk (Kd.S_mono (Kd.S_keep (IsS61.apartS (show IsS61 w _ g227 t225 x228001_2 from by repeat (first | (with_reducible first | exact HI227.out | apply IsS61.alloc | apply IsS61.drewN | apply IsS61.drew | apply IsS61.set_1) | exact HI227.out)) (by (with_reducible repeat (first | apply Kd.S_alloc | apply Kd.S_drewN | apply Kd.S_drew)); exact HO_9.out) (by decide)) hk (fun _ h => h.2)) (fun _ h => h.1)); have n1_ := Aside0.mk (Kd.Q_mono (Kd.Q_keep (IsS61.apartQ (show IsS61 w _ g227 t225 x228001_2 from by repeat (first | (with_reducible first | exact HI227.out | apply IsS61.alloc | apply IsS61.drewN | apply IsS61.drew | apply IsS61.set_1) | exact HI227.out)) (by (with_reducible repeat (first | apply Kd.Q_alloc | apply Kd.Q_drewN | apply Kd.Q_drew)); exact HO_10.out) (by decide)) hk (fun _ h => h.2)) (fun _ h => h.1)); have n2_ := Aside0.mk (Kd.R_mono (Kd.R_keep (IsS61.apart (show IsS61 w _ g227 t225 x228001_2 from by repeat (first | (with_reducible first | exact HI227.out | apply IsS61.alloc | apply IsS61.drewN | apply IsS61.drew | apply IsS61.set_1) | exact HI227.out)) (by (with_reducible repeat (first | apply Kd.R_alloc | apply Kd.R_drewN | apply Kd.R_drew)); exact HL261_2.out) (by decide)) hk (fun _ h => h.2)) (fun _ h => h.1)); have n3_ := Aside0.mk (keep_cell hk HX261_2.out (by first | (rw [add_block]; exact Kd.own_blk (IsS61.own_neS HI227.out HO_9.out (by decide))) | (show (Addr.add _ _).block ≠ _; rw [add_block]; exact Kd.own_blk (IsS61.own_neS HI227.out HO_9.out (by decide))) | exact Kd.own_blk (IsS61.own_neS HI227.out HO_9.out (by decide)) | (dsimp only; exact Kd.own_blk (IsS61.own_neS HI227.out HO_9.out (by decide))))); have n4_ := Aside0.mk (hb); have n5_ := Aside0.mk (hi); clear HO_9; clear HO_10; clear HL261_2; clear HX261_2; clear HB; clear HI227; have HO_9 := n0_; have HO_10 := n1_; have HL261_2 := n2_; have HX261_2 := n3_; have HB := n4_; have HI227 := n5_; clear n0_ n1_ n2_ n3_ n4_ n5_; (try clear hb); (try clear hb2); (try clear hge); (try clear hk); (try clear hi); obtain ⟨Ao68, co68, eo68, _⟩ := Kd.Q_slice HO_10.out; subst eo68; have q69 : (1 : Int) ≤ ((x10_2.length : Int) : Int) := of_decide_eq_true (by first | (with_reducible assumption) | assumption); obtain ⟨i069, hi069, _, hsz69, _⟩ := info_parts info3; have hcut69 := cut_from (P := Try.prog) 25 3 .i64 Try.underlying25 hi069 1 hsz69 Ao68 x10_2.length co68 1 (by omega) q69; have hr69 := Kd.Q_drop (k := (1 : Int).toNat) HO_10.out (by omega); obtain ⟨A69, hA69⟩ : ∃ A1, A1 = (if co68 = (1 : Int).toNat then Ao68 else (Ao68 : Option Addr).map (·.add ((1 : Int).toNat * 1))) := ⟨_, rfl⟩; obtain ⟨c69, hc69⟩ : ∃ c1, c1 = co68 - (1 : Int).toNat := ⟨_, rfl⟩; have hy69 : y272.length = x10_2.length - (1 : Int).toNat := (by rw [Ny272.out, List.length_drop]); rw [← Ny272.out] at hr69; rw [← hy69, ← hA69, ← hc69] at hcut69; replace hr69 : Kd.Q (Kd.int .i64) 3 w67 w.heap.size (fun _ => True) (.slice A69 y272.length c69) y272 := (by rw [hA69, hc69, hy69]; exact hr69); have HE69 : Aside0 ((Value.slice A69 y272.length c69).ownBlock = (.slice Ao68 x10_2.length co68 : Value).ownBlock) := ⟨by rw [hA69]; split <;> (first | rfl | (simp only [Option.map_some, Value.ownBlock, add_block]; done) | (cases (Ao68 : Option Addr) <;> first | rfl | (simp [Value.ownBlock, add_block]; done)))⟩; clear hy69 hi069 hsz69 HO_10 hA69 hc69; have HO274 := Aside0.mk hr69; clear hr69; replace q69 := eq_true q69; have n_ := Aside0.mk (Kd.S_mono (ok' := fun k_ => some k_ ≠ (.slice A69 y272.length c69 : Value).ownBlock) HO_9.out (fun k_ hk => (by rw [HE69.out]; exact hk))); clear HO_9; have HO_9 := n_; clear n_; have n_ := Aside0.mk (Kd.R_mono (ok' := fun k_ => (some k_ ≠ (.slice A69 y272.length c69 : Value).ownBlock ∧ some k_ ≠ (.slice (some ad261) x9_1.length co66 : Value).ownBlock)) HL261_2.out (fun k_ hk => ⟨(by rw [HE69.out]; exact hk.1), hk.2⟩)); clear HL261_2; have HL261_2 := n_; clear n_))
            go_ret2
            exact ⟨_, _, by first | rfl | (simp [errW_none, errW_some] <;> rfl) | (simp [*, errW_none, errW_some] <;> rfl), by (with_reducible repeat (first | apply Kd.S_alloc | apply Kd.S_drewN | apply Kd.S_drew)); exact HO_9.out, by (with_reducible repeat (first | apply Kd.Q_alloc | apply Kd.Q_drewN | apply Kd.Q_drew)); exact HO274.out, by repeat (first | (with_reducible first | exact HB.out | apply below_alloc | apply pw_below_drewN | apply below_drew1 | refine below_set ?_ (IsS61.ge HI227.out)) | exact HB.out)⟩
           ·
            rw [if_neg c64] at H
            have c64b0 : (t262 == 4) = false := beq_eq_false_iff_ne.mpr c64
            have c64b1 : (t262 != 4) = true := bne_iff_ne.mpr c64
            simp only [Option.some.injEq, Prod.mk.injEq] at H
            obtain ⟨rfl, rfl⟩ := H
            obtain ⟨Ao70, co70, eo70⟩ := Kd.S_slice HO_9.out
            subst eo70
            go_wp2_with (first | ((with_reducible refine gate_callee (f := 12) rfl ?_); refine goesL_ (some 67) rfl rfl Try.func12 (by kernel_rfl) rfl #[.int .i64 a1, .int .i64 (x9_1.length : Int)] rfl (by (try simp only [List.map_toArray, List.map_cons, List.map_nil]); first | done | rfl | (simp only [List.length_drop, List.length_take]; rfl)) ?_; (with_reducible refine (minecontroldraw_Mod.calls a1 (x9_1.length : Int) t260 _ A38.out).mono ?_); rintro e w' ⟨rfl, ⟨nd, rfl⟩⟩; refine ⟨_, rfl, ?_⟩; have p261 : 0 ≤ (t260 : Int) := of_decide_eq_true (by first | (with_reducible assumption) | assumption); have q261 : t260 < (x9_1.length : Int) := of_decide_eq_true (by first | (with_reducible assumption) | assumption); obtain ⟨ad261, A261_2, c261_2, e261, hx261_0, hx261_1, hx261_2, hl261_2, hi261_2⟩ := at_T36 (Kd.S_reads' HO_9.out).2.2 t260 p261 q261; cases e261; obtain ⟨ce261, hce261, hMe261, hcc261⟩ := Kd.S_get HO_9.out z36 t260 p261 (by first | exact q261 | exact of_decide_eq_true (by first | (with_reducible assumption) | assumption) | (have e_ := (Kd.S_reads' HO_9.out).1; omega)); obtain ⟨ve261_2, rfl, ge261_2⟩ := k36_openM hMe261; have hv261_2 := hcc261 2 _ rfl; rw [add_field _ _ 2 (by omega)] at hv261_2; replace hv261_2 := Option.some.inj (hv261_2.symm.trans hx261_2); rw [hv261_2] at ge261_2; have HL261_2 := Aside0.mk (show Kd.R (Kd.int .i64) 3 _ _ _ _ ((rd_T36 x9_1 t260).f2) from ge261_2); clear hv261_2 ge261_2; have HX261_2 := Aside0.mk hx261_2; clear hcc261 hce261; have HR261_2 := Aside0.mk hi261_2; have HC261_2 := Aside0.mk hl261_2; clear hi261_2 hl261_2; replace p261 := eq_true p261; replace q261 := eq_true q261) | ((with_reducible refine gate_callee (f := 23) rfl ?_); refine goesL_ (some 70) rfl rfl Try.func23 (by kernel_rfl) rfl #[.pointer (some ⟨g227, 0, none⟩), .int .i64 10] rfl (by (try simp only [List.map_toArray, List.map_cons, List.map_nil]); first | done | rfl | (simp only [List.length_drop, List.length_take]; rfl)) ?_; (with_reducible refine (minecontroldraw_Codes_Next.calls k2 g227 t225 x228001_2 10 t262 t263 w _ ?side1 ?side2 A41.out).mono ?_); (case side1 => repeat (first | (with_reducible first | exact HI227.out | apply IsS61.alloc | apply IsS61.drewN | apply IsS61.drew | apply IsS61.set_1) | exact HI227.out)); (case side2 => repeat (first | (with_reducible first | exact HB.out | apply below_alloc | apply pw_below_drewN | apply below_drew1 | refine below_set ?_ (IsS61.ge HI227.out)) | exact HB.out)); rintro e w71 ⟨rfl, hi, hb, hk⟩; refine ⟨_, rfl, ?_⟩; have n0_ := Aside0.mk (Kd.S_mono (Kd.S_keep (IsS61.apartS (show IsS61 w _ g227 t225 x228001_2 from by repeat (first | (with_reducible first | exact HI227.out | apply IsS61.alloc | apply IsS61.drewN | apply IsS61.drew | apply IsS61.set_1) | exact HI227.out)) (by (with_reducible repeat (first | apply Kd.S_alloc | apply Kd.S_drewN | apply Kd.S_drew)); exact HO_9.out) (by decide)) hk (fun _ h => h.2)) (fun _ h => h.1)); have n1_ := Aside0.mk (Kd.Q_mono (Kd.Q_keep (IsS61.apartQ (show IsS61 w _ g227 t225 x228001_2 from by repeat (first | (with_reducible first | exact HI227.out | apply IsS61.alloc | apply IsS61.drewN | apply IsS61.drew | apply IsS61.set_1) | exact HI227.out)) (by (with_reducible repeat (first | apply Kd.Q_alloc | apply Kd.Q_drewN | apply Kd.Q_drew)); exact HO_10.out) (by decide)) hk (fun _ h => h.2)) (fun _ h => h.1)); have n2_ := Aside0.mk (Kd.R_mono (Kd.R_keep (IsS61.apart (show IsS61 w _ g227 t225 x228001_2 from by repeat (first | (with_reducible first | exact HI227.out | apply IsS61.alloc | apply IsS61.drewN | apply IsS61.drew | apply IsS61.set_1) | exact HI227.out)) (by (with_reducible repeat (first | apply Kd.R_alloc | apply Kd.R_drewN | apply Kd.R_drew)); exact HL261_2.out) (by decide)) hk (fun _ h => h.2)) (fun _ h => h.1)); have n3_ := Aside0.mk (keep_cell hk HX261_2.out (by first | (rw [add_block]; exact Kd.own_blk (IsS61.own_neS HI227.out HO_9.out (by decide))) | (show (Addr.add _ _).block ≠ _; rw [add_block]; exact Kd.own_blk (IsS61.own_neS HI227.out HO_9.out (by decide))) | exact Kd.own_blk (IsS61.own_neS HI227.out HO_9.out (by decide)) | (dsimp only; exact Kd.own_blk (IsS61.own_neS HI227.out HO_9.out (by decide))))); have n4_ := Aside0.mk (hb); have n5_ := Aside0.mk (hi); clear HO_9; clear HO_10; clear HL261_2; clear HX261_2; clear HB; clear HI227; have HO_9 := n0_; have HO_10 := n1_; have HL261_2 := n2_; have HX261_2 := n3_; have HB := n4_; have HI227 := n5_; clear n0_ n1_ n2_ n3_ n4_ n5_; (try clear hb); (try clear hb2); (try clear hge); (try clear hk); (try clear hi)))
            go_ret2
            exact ⟨_, _, by first | rfl | (simp [errW_none, errW_some] <;> rfl) | (simp [*, errW_none, errW_some] <;> rfl), by (with_reducible repeat (first | apply Kd.S_alloc | apply Kd.S_drewN | apply Kd.S_drew)); exact HO_9.out, by (with_reducible repeat (first | apply Kd.Q_alloc | apply Kd.Q_drewN | apply Kd.Q_drew)); exact HO_10.out, by repeat (first | (with_reducible first | exact HB.out | apply below_alloc | apply pw_below_drewN | apply below_drew1 | refine below_set ?_ (IsS61.ge HI227.out)) | exact HB.out)⟩
       ·
        rw [if_neg c37] at H
        have c37b0 : decide (0 < (x9_1.length : Int)) = false := decide_eq_false c37
        have c37b1 : decide (0 < x9_1.length) = false := decide_eq_false (by omega)
        clear c37
        simp only [Option.some.injEq, Prod.mk.injEq] at H
        obtain ⟨rfl, rfl⟩ := H
        obtain ⟨Ao72, co72, eo72⟩ := Kd.S_slice HO_9.out
        subst eo72
        go_wp2
        go_ret2
        exact ⟨_, _, by first | rfl | (simp [errW_none, errW_some] <;> rfl) | (simp [*, errW_none, errW_some] <;> rfl), by (with_reducible repeat (first | apply Kd.S_alloc | apply Kd.S_drewN | apply Kd.S_drew)); exact HO_9.out, by (with_reducible repeat (first | apply Kd.Q_alloc | apply Kd.Q_drewN | apply Kd.Q_drew)); exact HO_10.out, by repeat (first | (with_reducible first | exact HB.out | apply below_alloc | apply pw_below_drewN | apply below_drew1 | refine below_set ?_ (IsS61.ge HI227.out)) | exact HB.out)⟩

end Go.Proofs.Ytmlkchkhgjebgaa.PDoo
